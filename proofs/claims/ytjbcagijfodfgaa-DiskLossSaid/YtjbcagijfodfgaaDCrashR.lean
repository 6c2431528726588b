/- Contract of the reference's Crash of layer 40. -/
import Derived.Test.YtjbcagijfodfgaaDCrash
import Derived.Deep.RegionHeld3
import Derived.Deep.DeepCutAuto
namespace Go.Proofs.Ytjbcagijfodfgaa
open Go.RowKit

theorem tear_zero (a b : ByteArray) : tear 0 a b = b := by
  unfold tear
  apply ByteArray.ext
  simp
theorem set_same (ps : List ByteArray) (i : Nat) (d : ByteArray) : ps.set i (ps.getD i d) = ps := by
  apply List.ext_getElem?
  intro j
  rw [List.getElem?_set]
  by_cases h : i = j
  · subst h
    by_cases hi : i < ps.length
    · simp [hi]
    · simp [hi]
  · simp [h]
theorem crashP_none {picks : List Int} {size : Int} : ∀ (l : List PW) (k : Nat) (ps : List ByteArray), picks.length ≤ k → crashP picks size k l ps = ps
  | [], _, _, _ => rfl
  | x :: l, k, ps, h => by
    rw [crashP, show takenI picks k size = 0 from dif_neg (by omega)]
    rw [show (0 : Int).toNat = 0 from rfl, tear_zero, set_same]
    exact crashP_none l (k + 1) ps (by omega)

set_option maxHeartbeats 4000000 in
theorem ref40_crash_ok (d : Dsk) (v : Value) (picks : List Int) (qo : Option Addr) (qc : Nat) (w : World) {S T : Nat → Prop} (hD : DskR S w v d) (hq : IntsAt T w qo picks) (hql : picks.length ≤ 1000000) (_hn : d.cache.length ≤ 1000000) (hz : chk d = 0) :
    Calls Try.prog 19 #[v, .slice qo picks.length qc] w (RetD S w ⟨d.size, crashP picks d.size 0 d.cache d.pages, [], -1⟩) := by
  obtain ⟨v1, v2, v3, v4⟩ := chk_zero hz
  have hr := rangedB_true v1
  have hz0 : (chk d != 0) = false := by simp [hz]
  have hD0 := hD
  obtain ⟨po, pc, co, cc, rfl, hp, hc, ok⟩ := hD
  have ok1 := ok.pages
  have slp := ok.slp
  obtain ⟨i0, hi, hz0', hz1, hz2⟩ := info_parts infoStr
  have hbw : ∀ o o', Below w.heap.size w ((w.alloc o).alloc o') := fun o o' => ((Below.refl _ _).alloc (Nat.le_refl _) _).alloc (by simp) _
  go_enter Try.func19, Try.ntmps19
  go_wp2_with fail
  refine (ref40_check d _ _ (hD0.below (hbw _ _))).mono ?_
  rintro e w1 ⟨rfl, hb1⟩
  have xA := ((Bx.new w _ _).alloc _).belowAll hb1
  have xR := (Bx.new (w.alloc _) _ _).belowAll hb1
  rw [World.size_alloc] at xR
  have cA := xA.cell
  have fA := xA.free
  have cR := xR.cell
  have fR := xR.free
  have hB : Below w.heap.size w w1 := (hbw _ _).trans (hb1.mono (by simp; omega))
  have hlR := xR.lt
  have hlA := xA.lt
  have hp1 := (hp.below (hbw _ _)).below hb1
  have hv2 := Lib.hid v2
  have hv3 := Lib.hid v3
  have hp2000 : d.pages.length ≤ 2000 := by omega
  have hp1' : 1 ≤ d.pages.length := by omega
  have hs512 : 1 ≤ d.size ∧ d.size ≤ 512 := hr.2.2
  clear v2 v3 hr hb1 hD0 ok
  go_wp2_with fail
  go_cut [5] (fun s5 wx => ∃ (D : Nat) (o : Option Addr) (c : Nat), s5 = .pointer (some ⟨D, 0, none⟩) ∧ Bx wx D #[.int .i64 d.size, .slice o d.pages.length c, .slice none 0 0, .int .i64 (-1)] 25 ∧ wx.ownsRow w1.heap.size 9 1 (.slice o d.pages.length c) d.pages.length (d.pages.map .string) ∧ (Value.slice o d.pages.length c).ownBlock ≠ some D ∧ w1.heap.size ≤ D ∧ Bx wx w.heap.size #[.int .i64 d.size, .slice po d.pages.length pc, .slice co d.cache.length cc, .int .i64 d.left] 25 ∧ Bx wx (w.heap.size + 1) #[.int .i64 0, .slice none 0 0, .slice none 0 0, .int .i64 0] 25 ∧ Below w.heap.size w wx)
  case first =>
    have n1 : w.heap.size ≠ w1.heap.size := by omega
    have n2 : w.heap.size ≠ w1.heap.size + 1 := by omega
    have n3 : w.heap.size + 1 ≠ w1.heap.size := by omega
    have n4 : w.heap.size + 1 ≠ w1.heap.size + 1 := by omega
    clear cR fR
    go_region_held3 (fun w' => w'.cell? ⟨w.heap.size, 0, none⟩ = some (.int .i64 d.size) ∧ w'.cell? ⟨w.heap.size, 1, none⟩ = some (.slice po d.pages.length pc)) (first | (simp [go_sem, cA, hlA]; done) | (simp [go_sem, cA3, hlA3]; done) | (simp [go_sem, cA3, hlA3, n1, n2]; done))
      ((refine step_app rfl (.tmp 15) (.tmp 17) 22 rfl w1.heap.size 9 i0 _ 1 16 Try.underlying22 hi hz0' hz1 hz2 rfl (by decide) _ 0 [] rfl (ownsRow_bx0 (by first | exact Bx.new w1 _ _ | exact (Bx.new w1 _ _).alloc _ | exact Bx.newAt (w1.alloc _) _ _ _ (by simp)) (by omega)) po d.pages.length pc (d.pages.map .string) rfl slp.nil (by simp) (hp1.row.below (by repeat (first | exact Below.refl _ _ | (refine Below.drew ?_) | (refine Below.alloc ?_ (by simp) _)))) (strs_one _) (by unfold maxLen; omega) (by omega) (by first | omega | (simp; done) | (simp; omega)) ?_; intro v3 w3 hown3 hg3; simp only [Nat.zero_add, List.nil_append] at hown3; have xA3 : Bx w3 w.heap.size _ _ := Bx.grown (by first | exact xA.alloc _ | exact (xA.alloc _).alloc _) hg3 (fun e => by have e := Option.some.inj e; dsimp only at e; omega); have xR3 : Bx w3 (w.heap.size + 1) _ _ := Bx.grown (by first | exact xR.alloc _ | exact (xR.alloc _).alloc _) hg3 (fun e => by have e := Option.some.inj e; dsimp only at e; omega); have hB3 : Below w.heap.size w w3 := Below.grown (by repeat (first | exact hB | (refine Below.drew ?_) | (refine Below.alloc ?_ (by first | omega | (simp; done) | (simp; omega)) _))) hg3 (by first | omega | (simp; done) | (simp; omega)) (fun k e => by have e := Option.some.inj e; dsimp only at e; omega); obtain ⟨o3, c3, rfl, hs3, hr3, ho3⟩ := ownsRow_at hown3; have cA3 := xA3.cell; have hlA3 := xA3.lt; (try (have xD3 : Bx w3 (w1.heap.size + 1) #[.int .i64 0, .slice none 0 0, .slice none 0 0, .int .i64 0] 25 := Bx.grown (Bx.drew (Bx.newAt (w1.alloc _) _ _ _ (by simp))) hg3 (fun e => by have e := Option.some.inj e; dsimp only at e; omega); have cD3 := xD3.cell; have fD3 := xD3.free)); (try (have xD3 : Bx w3 w1.heap.size #[.int .i64 0, .slice none 0 0, .slice none 0 0, .int .i64 0] 25 := Bx.grown (Bx.drew ((Bx.new w1 _ _).alloc _)) hg3 (fun e => by have e := Option.some.inj e; dsimp only at e; omega); have cD3 := xD3.cell; have fD3 := xD3.free))))
    all_goals go_wp2_with fail
    all_goals go_meet
    · refine ⟨w3.heap.size, o3, c3, rfl, Bx.new _ _ _, hown3.alloc _, fun e => ?_, ?_, xA3.alloc _, xR3.alloc _, hB3.alloc (by omega) _⟩
      · exact absurd (hown3.lt _ e).2 (Nat.lt_irrefl _)
      · have := hg3.size; simp at this; omega
    · refine ⟨w1.heap.size + 1, o3, c3, rfl, xD3.set4, ownsRow_set4 hown3 (ownsRow_ne_bx hown3 xD3 (by decide)), ownsRow_ne_bx hown3 xD3 (by decide), by omega, xA3.setO4 (by omega), xR3.setO4 (by omega), below_set4 (b := w1.heap.size + 1) hB3 (by omega)⟩
    · refine ⟨w1.heap.size, o3, c3, rfl, xD3.set4, ownsRow_set4 hown3 (ownsRow_ne_bx hown3 xD3 (by decide)), ownsRow_ne_bx hown3 xD3 (by decide), by omega, xA3.setO4 (by omega), xR3.setO4 (by omega), below_set4 (b := w1.heap.size) hB3 (by omega)⟩
  case rest =>
    obtain ⟨D, o, c, rfl, xD, hown, hne, hD1, xA', xR', hB'⟩ := hcut
    obtain ⟨g, hg⟩ : ∃ g, o = some ⟨g, 0, none⟩ := by
      rcases hown.2 with ⟨_, h⟩ | ⟨g, cap, cur, h, _⟩
      · omega
      · simp only [Value.slice.injEq] at h
        exact ⟨g, h.1⟩
    subst hg
    have hgl := hown.lt g rfl
    have hgD : g ≠ D := fun e => hne (by rw [e]; rfl)
    clear xA xR cA fA cR fR hB hne hp1 slp
    have cA := xA'.cell
    have fA := xA'.free
    have hlA' := xA'.lt
    go_wp2
    go_loopw [6] (fun q wr => ∃ (k : Nat) (ps : List ByteArray), k ≤ d.cache.length ∧ q = .int .i64 k ∧ ps.length = d.pages.length ∧ (∀ s ∈ ps, (s.size : Int) = d.size) ∧ crashP picks d.size k (d.cache.drop k) ps = crashP picks d.size 0 d.cache d.pages ∧ wr.ownsRow w1.heap.size 9 1 (.slice (some ⟨g, 0, none⟩) d.pages.length c) d.pages.length (ps.map .string) ∧ Bx wr D #[.int .i64 d.size, .slice (some ⟨g, 0, none⟩) d.pages.length c, .slice none 0 0, .int .i64 (-1)] 25 ∧ Bx wr w.heap.size #[.int .i64 d.size, .slice po d.pages.length pc, .slice co d.cache.length cc, .int .i64 d.left] 25 ∧ Bx wr (w.heap.size + 1) #[.int .i64 0, .slice none 0 0, .slice none 0 0, .int .i64 0] 25 ∧ Below w.heap.size w wr) (fun q _ => d.cache.length - (intOf q).toNat)
    case atStart => exact ⟨0, d.pages, Nat.zero_le _, rfl, rfl, hv2.out, rfl, hown, xD, xA', xR', hB'⟩
    case round =>
      clear cA fA hlA' xA' xR' xD hown hB' hgl
      obtain ⟨k, ps, hk, rfl, hpl, hps0, hq0, hown, xD, xA, xR, hB⟩ := hrel
      have hq1 := Lib.hid hq0
      have hps := Lib.hid hps0
      have hplh := Lib.hid hpl
      clear hq0 hps0 hpl
      have cA := xA.cell
      have fA := xA.free
      have hlA' := xA.lt
      have hlD := xD.lt
      have cD := xD.cell
      have fD := xD.free
      have hgl := hown.lt g rfl
      by_cases hlt : k < d.cache.length
      · by_cases hlp : k < picks.length
        · obtain ⟨b, off, rfl, hcell0, hcell1, _⟩ := hc k hlt
          have hcell : wr.cell? ⟨b, off + k * 2, none⟩ = some (.int .i64 d.cache[k].page) := by rw [hB.cell (World.block_lt_of_cell? w _ hcell0)]; exact hcell0
          have hcell' : wr.cell? ⟨b, off + k * 2 + 1, none⟩ = some (.string d.cache[k].data) := by rw [hB.cell (World.block_lt_of_cell? w _ hcell1)]; exact hcell1
          have hbl : b < wr.heap.size := World.block_lt_of_cell? wr _ hcell
          obtain ⟨qb, qoff, rfl, pcell0, _⟩ := hq k hlp
          have pcell : wr.cell? ⟨qb, qoff + k, none⟩ = some (.int .i64 picks[k]) := by rw [hB.cell (World.block_lt_of_cell? w _ pcell0)]; exact pcell0
          have hqbl : qb < wr.heap.size := World.block_lt_of_cell? wr _ pcell
          obtain ⟨x1, x2, x3⟩ := hv3.out d.cache[k] (List.getElem_mem hlt)
          generalize hx : d.cache[k] = x at *
          obtain ⟨xp, xd⟩ := x
          simp only at x1 x2 x3 hcell hcell'
          obtain ⟨pi, rfl⟩ := Int.eq_ofNat_of_zero_le x1
          have hpi : pi < ps.length := by rw [hplh.out]; omega
          have gcell : wr.cell? ⟨g, pi, none⟩ = some (.string ps[pi]) := by rw [hown.cellAt pi (by omega)]; simp [hpi]
          have gfree : wr.frozen? ⟨g, pi, none⟩ = false := hown.frozenAt pi
          have hsz := hps.out ps[pi] (List.getElem_mem hpi)
          obtain ⟨t1, t2⟩ := takenI_bd picks k d.size (by omega)
          obtain ⟨t, ht⟩ := Int.eq_ofNat_of_zero_le t1
          have hsh : shareI picks[k] d.size = t := by rw [← ht]; unfold takenI; rw [dif_pos hlp]
          have htk : ∀ W, Calls Try.prog 30 #[.int .i64 picks[k], .int .i64 d.size] W fun e w' => e = .returned (.int .i64 t) ∧ w' = W := fun W => hsh ▸ (ref40_share picks[k] d.size (by omega) (by omega) W).mono fun e w' h => ⟨h.1, h.2.symm⟩
          rw [ht] at t1 t2
          have hth := Lib.hid ht
          have hxh := Lib.hid hx
          have hszh := Lib.hid hsz
          have x3h := Lib.hid x3
          have u1 : t ≤ xd.size := by omega
          have u2 : t ≤ ps[pi].size := by omega
          have u3 : ¬ 9223372036854775807 < ps[pi].size := by omega
          clear ht hx hsz x3 hcell0 hcell1 hsh pcell0
          go_wp2
          go_quiet ((go_at_call 30; exact Calls.quiet_of_same (htk _)))
          go_wp2
          refine wp_region_still_tail 18 (by kernel_rfl) (by kernel_rfl) ?_
          simp only [List.take_succ_cons, List.take_zero, List.drop_succ_cons, List.drop_zero, World.drew_eq]
          repeat still_step
          refine wpStill_nil ?_
          go_wp2
          go_roundw
          case rel =>
            have e1 : ps.getD ((pi : Int)).toNat ByteArray.empty = ps[pi] := by simp [hpi]
            refine ⟨k + 1, ps.set pi (tear t xd ps[pi]), by omega, by go_num, by rw [List.length_set]; exact hplh.out, ?_, ?_, ?_, Bx.setO ((xD.alloc _).drewN _) (by simp; omega) _, Bx.setO ((xA.alloc _).drewN _) (by simp; omega) _, Bx.setO ((xR.alloc _).drewN _) (by simp; omega) _, below_set1 (b := g) (Below.drewN (hB.alloc (by omega) _) _) (by omega)⟩
            · intro s hs
              rcases List.mem_or_eq_of_mem_set hs with hs | rfl
              · exact hps.out s hs
              · rw [tear_size (by omega) (by have := x3h.out; have := hszh.out; omega)]; exact hszh.out
            · rw [← hq1.out, crashP_step hlt, hxh.out]
              simp only
              rw [e1, hth.out]
              simp
            · have h1 : ((wr.alloc (.cells #[Value.int IntKind.i64 pi, Value.string xd] 45)).drewN (nq + 1)).ownsRow w1.heap.size 9 1 (.slice (some ⟨g, 0, none⟩) d.pages.length c) d.pages.length (ps.map .string) := hown.alloc _
              have := (h1.stored pi (Value.string (tear t xd ps[pi]))).1
              simpa [List.map_set, tear] using this
          case measure => simp [intOf]; omega
        · have hps' : Hid (crashP picks d.size 0 d.cache d.pages = ps) := by unfold Hid; rw [← hq1.out]; exact crashP_none _ _ _ (by omega)
          clear cA
          have cA := xA.cell
          have cR := xR.cell
          have fR := xR.free
          have hlR' := xR.lt
          go_wp2
          refine bodyPost_ret (v := .agg #[.int .i64 d.size, .slice (some ⟨g, 0, none⟩) d.pages.length c, .slice none 0 0, .int .i64 (-1)]) (by simp [results, Try.results19, go_sem, cR]) rfl ?_
          rw [hps'.out]
          obtain ⟨o', c', e', hs', hr', _⟩ := ownsRow_at hown
          simp only [Value.slice.injEq] at e'
          obtain ⟨rfl, _, rfl⟩ := e'
          refine ⟨_, rfl, ⟨some ⟨g, 0, none⟩, c, none, 0, by simp only [hplh.out, List.length_nil], ?_, by intro i h; simp at h, crash_ok (by rw [hplh.out]; exact hs') (by rw [hplh.out]; exact hp2000) (fun s hs => by have := hps.out s hs; omega)⟩, below_set4 (b := w.heap.size + 1) hB (by omega)⟩
          refine StrsAt.mono (S := fun b => w1.heap.size ≤ b ∧ b < wr.heap.size) ?_ (fun b h => Gr.new (by omega) (by simp; omega))
          exact (StrsAt.of_row hr').same ((Same.refl _ _).set4 (b := w.heap.size + 1) (by omega))
      · have hkk : Hid (k = d.cache.length) := by unfold Hid; omega
        have hps' : Hid (crashP picks d.size 0 d.cache d.pages = ps) := by unfold Hid; rw [← hq1.out, hkk.out, List.drop_length]; rfl
        clear cA
        have cA := xA.cell
        have cR := xR.cell
        have fR := xR.free
        have hlR' := xR.lt
        go_wp2
        refine bodyPost_ret (v := .agg #[.int .i64 d.size, .slice (some ⟨g, 0, none⟩) d.pages.length c, .slice none 0 0, .int .i64 (-1)]) (by simp [results, Try.results19, go_sem, cR]) rfl ?_
        rw [hps'.out]
        obtain ⟨o', c', e', hs', hr', _⟩ := ownsRow_at hown
        simp only [Value.slice.injEq] at e'
        obtain ⟨rfl, _, rfl⟩ := e'
        refine ⟨_, rfl, ⟨some ⟨g, 0, none⟩, c, none, 0, by simp only [hplh.out, List.length_nil], ?_, by intro i h; simp at h, crash_ok (by rw [hplh.out]; exact hs') (by rw [hplh.out]; exact hp2000) (fun s hs => by have := hps.out s hs; omega)⟩, below_set4 (b := w.heap.size + 1) hB (by omega)⟩
        refine StrsAt.mono (S := fun b => w1.heap.size ≤ b ∧ b < wr.heap.size) ?_ (fun b h => Gr.new (by omega) (by simp; omega))
        exact (StrsAt.of_row hr').same ((Same.refl _ _).set4 (b := w.heap.size + 1) (by omega))

set_option maxHeartbeats 1000000 in
theorem ref40_crash (d : Dsk) (v : Value) (picks : List Int) (qo : Option Addr) (qc : Nat) (w : World) {S T : Nat → Prop} (hD : DskR S w v d) (hq : IntsAt T w qo picks) (hql : picks.length ≤ 1000000) (hn : d.cache.length ≤ 1000000) :
    Calls Try.prog 19 #[v, .slice qo picks.length qc] w (RetD S w (crashD d picks)) := by
  unfold crashD
  cases hz : (chk d != 0)
  · rw [if_neg (by simpa using hz)]
    exact ref40_crash_ok d v picks qo qc w hD hq hql hn (by simpa using hz)
  · rw [if_pos (by simpa using hz)]
    have hD0 := hD
    obtain ⟨po, pc, co, cc, rfl, hp, hc, ok⟩ := hD
    have hbw : ∀ o o', Below w.heap.size w ((w.alloc o).alloc o') := fun o o' => ((Below.refl _ _).alloc (Nat.le_refl _) _).alloc (by simp) _
    go_enter Try.func19, Try.ntmps19
    go_wp2_with fail
    refine (ref40_check d _ _ (hD0.below (hbw _ _))).mono ?_
    rintro e w1 ⟨rfl, hb1⟩
    have xR := (Bx.new (w.alloc _) _ _).belowAll hb1
    rw [World.size_alloc] at xR
    have cR := xR.cell
    have fR := xR.free
    have hB : Below w.heap.size w w1 := (hbw _ _).trans (hb1.mono (by simp; omega))
    go_wp2
    refine bodyPost_ret (v := .agg #[.int .i64 0, .slice none 0 0, .slice none 0 0, .int .i64 0]) (by simp [results, Try.results19, go_sem, cR]) rfl ?_
    exact ⟨_, rfl, zero_DskR _, below_set4 (b := w.heap.size + 1) hB (by omega)⟩
end Go.Proofs.Ytjbcagijfodfgaa
