/- Contracts of Crash of layer 40, of the program's and the reference's. -/
import Derived.Test.YtjbcagijfodfgaaDNew
import Derived.StillTailTactics
namespace Go.Proofs.Ytjbcagijfodfgaa
open Go.RowKit

theorem crashP_step {picks : List Int} {size : Int} {l : List PW} {k : Nat} (h : k < l.length) (ps : List ByteArray) :
    crashP picks size k (l.drop k) ps = crashP picks size (k + 1) (l.drop (k + 1)) (ps.set l[k].page.toNat (tear (takenI picks k size).toNat l[k].data (ps.getD l[k].page.toNat ByteArray.empty))) := by
  rw [List.drop_eq_getElem_cons h, crashP]
theorem tear_size {n : Nat} {a b : ByteArray} (h1 : n ≤ a.size) (h2 : a.size = b.size) : (tear n a b).size = b.size := by
  unfold tear
  rw [ByteArray.size_append, ByteArray.size_extract, ByteArray.size_extract]
  omega
theorem crash_ok {d : Dsk} {ps : List ByteArray} {o : Option Addr} {c : Nat} (hs : SlW o ps.length c) (hp : ps.length ≤ 2000) (hz : ∀ s ∈ ps, (s.size : Int) ≤ 512) : DskOk ⟨d.size, ps, [], -1⟩ o none c 0 := by
  refine ⟨hs, .inl ⟨rfl, rfl, rfl⟩, by simp; omega, by simp, ?_, by simp, by simp⟩
  intro x hx
  have := hz x hx
  omega

set_option maxHeartbeats 2000000 in
theorem disk_crash_ok (d : Dsk) (v : Value) (picks : List Int) (qo : Option Addr) (qc : Nat) (w : World) {S T : Nat → Prop} (_hS : InS S w) (hD : DskR S w v d) (hq : IntsAt T w qo picks) (hql : picks.length ≤ 1000000) (hn : d.cache.length ≤ 1000000) (hz : chk d = 0) :
    Calls Try.prog 18 #[v, .slice qo picks.length qc] w (RetD S w ⟨d.size, crashP picks d.size 0 d.cache d.pages, [], -1⟩) := by
  obtain ⟨v1, v2, v3, v4⟩ := chk_zero hz
  have hr := rangedB_true v1
  have hz0 : (chk d != 0) = false := by simp [hz]
  have hD0 := hD
  obtain ⟨po, pc, co, cc, rfl, hp, hc, ok⟩ := hD
  have ok1 := ok.pages
  obtain ⟨i0, hi, hz0', hz1, hz2⟩ := info_parts infoStr
  have hbw : ∀ o o', Below w.heap.size w ((w.alloc o).alloc o') := fun o o' => ((Below.refl _ _).alloc (Nat.le_refl _) _).alloc (by simp) _
  go_enter Try.func18, Try.ntmps18
  go_wp2_with fail
  refine (disk_check d _ _ (hD0.below (hbw _ _))).mono ?_
  rintro e w1 ⟨rfl, hb1⟩
  have xA := ((Bx.new w _ _).alloc _).belowAll hb1
  have xR := (Bx.new (w.alloc _) _ _).belowAll hb1
  rw [World.size_alloc] at xR
  have cA := xA.cell
  have fA := xA.free
  have cR := xR.cell
  have fR := xR.free
  have hB : Below w.heap.size w w1 := (hbw _ _).trans (hb1.mono (by simp; omega))
  have hlR := xR.lt
  have hlA := xA.lt
  have hp1 := (hp.below (hbw _ _)).below hb1
  have hv2 := Lib.hid v2
  have hv3 := Lib.hid v3
  have hp2000 : d.pages.length ≤ 2000 := by omega
  have hs512 : 1 ≤ d.size ∧ d.size ≤ 512 := hr.2.2
  clear v2 v3 hr
  go_wp2_with (first
    | (refine wpList_makeB rfl (.tmp 15) (.tmp 15) 22 rfl 9 i0 _ 16 Try.underlying22 hi hz0' hz1 hz2 rfl d.pages.length rfl rfl (by omega) (by omega) ?_; intro w2 xG hg2 hz2'; have xA2 := xA.grown hg2 (by simp); have xR2 := xR.grown hg2 (by simp); have hB2 := hB.grown hg2 (by omega) (by intro k e; cases e); have hp2 := hp1.below ((Below.refl _ _).grown hg2 (Nat.le_refl _) (by intro k e; cases e)); clear cA fA cR fR; have cA := xA2.cell; have fA := xA2.free; have hlA2 := xA2.lt)
    | (refine wpList_copyB rfl (.tmp 17) (.tmp 19) _ _ rfl 9 Try.underlying22 (by rw [hi]; simp [hz1]) w1.heap.size d.pages.length d.pages.length pc po (List.replicate d.pages.length (.string .empty)) (d.pages.map .string) 9 rfl rfl xG (by simp) (by simp) hp2.row (strs_one _) ?_; intro w3 xG3 hg3; have xA3 := xA2.grown hg3 (fun e => by have e := Option.some.inj e; omega); have xR3 := xR2.grown hg3 (fun e => by have e := Option.some.inj e; omega); have hB3 := hB2.grown hg3 (by omega) (by intro k e; cases e; omega); clear cA fA; have cA := xA3.cell; have fA := xA3.free; have hlA3 := xA3.lt))
  have hnB := Lib.hid hB3
  go_loopw [24] (fun q wr => ∃ (k : Nat) (ps : List ByteArray), k ≤ d.cache.length ∧ q = .int .i64 k ∧ ps.length = d.pages.length ∧ (∀ s ∈ ps, (s.size : Int) = d.size) ∧ crashP picks d.size k (d.cache.drop k) ps = crashP picks d.size 0 d.cache d.pages ∧ Bx wr w1.heap.size (ps.map Value.string).toArray 9 ∧ Bx wr w.heap.size #[.int .i64 d.size, .slice po d.pages.length pc, .slice co d.cache.length cc, .int .i64 d.left] 25 ∧ Bx wr (w.heap.size + 1) #[.int .i64 0, .slice none 0 0, .slice none 0 0, .int .i64 0] 25 ∧ Below w.heap.size w wr) (fun q _ => d.cache.length - (intOf q).toNat)
  case atStart => exact ⟨0, d.pages, Nat.zero_le _, rfl, rfl, hv2.out, rfl, xG3, xA3, xR3, hB3⟩
  case round =>
    clear cA fA xA2 xA3 xR2 xR3 xG xG3 hg2 hg3 hB2 hB3 hp2 hp1 hlA2 hlA3
    obtain ⟨k, ps, hk, rfl, hpl, hps0, hq0, xG, xA, xR, hB⟩ := hrel
    have hq1 := Lib.hid hq0
    have hps := Lib.hid hps0
    have hplh := Lib.hid hpl
    clear hq0 hps0 hpl
    have cA := xA.cell
    have fA := xA.free
    have hlG := xG.lt
    have hlA' := xA.lt
    by_cases hlt : k < d.cache.length
    · obtain ⟨b, off, rfl, hcell0, hcell1, _⟩ := hc k hlt
      have hcell : wr.cell? ⟨b, off + k * 2, none⟩ = some (.int .i64 d.cache[k].page) := by rw [hB.cell (World.block_lt_of_cell? w _ hcell0)]; exact hcell0
      have hcell' : wr.cell? ⟨b, off + k * 2 + 1, none⟩ = some (.string d.cache[k].data) := by rw [hB.cell (World.block_lt_of_cell? w _ hcell1)]; exact hcell1
      have hbl : b < wr.heap.size := World.block_lt_of_cell? wr _ hcell
      obtain ⟨x1, x2, x3⟩ := hv3.out d.cache[k] (List.getElem_mem hlt)
      generalize hx : d.cache[k] = x at *
      obtain ⟨xp, xd⟩ := x
      simp only at x1 x2 x3 hcell hcell'
      obtain ⟨pi, rfl⟩ := Int.eq_ofNat_of_zero_le x1
      have hpi : pi < ps.length := by rw [hplh.out]; omega
      have gcell : wr.cell? ⟨w1.heap.size, pi, none⟩ = some (.string ps[pi]) := by rw [xG.cell]; simp [hpi]
      have gfree : wr.frozen? ⟨w1.heap.size, pi, none⟩ = false := xG.free pi
      have hsz := hps.out ps[pi] (List.getElem_mem hpi)
      obtain ⟨t1, t2⟩ := takenI_bd picks k d.size (by omega)
      obtain ⟨t, ht⟩ := Int.eq_ofNat_of_zero_le t1
      have htk : ∀ W, IntsAt T W qo picks → Calls Try.prog 29 #[.slice qo picks.length qc, .int .i64 k, .int .i64 d.size] W fun e w' => e = .returned (.int .i64 t) ∧ W = w' := fun W h => ht ▸ disk_taken picks qo qc k d.size (by omega) (by omega) (by omega) (by omega) W h
      have hqW : IntsAt T wr qo picks := hq.below hB
      rw [ht] at t1 t2
      have hth := Lib.hid ht
      have hxh := Lib.hid hx
      have hszh := Lib.hid hsz
      have x3h := Lib.hid x3
      have u1 : t ≤ xd.size := by omega
      have u2 : t ≤ ps[pi].size := by omega
      have u3 : ¬ 9223372036854775807 < ps[pi].size := by omega
      clear ht hx hsz x3 hcell0 hcell1
      go_wp2_with (go_at_call 29; refine (htk _ (hqW.below ((Below.refl _ _).alloc (Nat.le_refl _) _))).mono ?_; rintro e w' ⟨rfl, rfl⟩)
      refine wp_region_still_tail 16 (by kernel_rfl) (by kernel_rfl) ?_
      simp only [List.take_succ_cons, List.take_zero, List.drop_succ_cons, List.drop_zero, World.drew_eq]
      repeat still_step
      refine wpStill_nil ?_
      go_wp2
      go_roundw
      case rel =>
        have e1 : ps.getD ((pi : Int)).toNat ByteArray.empty = ps[pi] := by simp [hpi]
        refine ⟨k + 1, ps.set pi (tear t xd ps[pi]), by omega, by go_num, by rw [List.length_set]; exact hplh.out, ?_, ?_, ?_, (xA.setO (by simp; omega) _).alloc _, (xR.setO (by simp; omega) _).alloc _, ((below_set1 (b := w1.heap.size) hB (by omega)).alloc (by simp; omega) _).drew⟩
        · intro s hs
          rcases List.mem_or_eq_of_mem_set hs with hs | rfl
          · exact hps.out s hs
          · rw [tear_size (by omega) (by have := x3h.out; have := hszh.out; omega)]; exact hszh.out
        · rw [← hq1.out, crashP_step hlt, hxh.out]
          simp only
          rw [e1, hth.out]
          simp
        · have := (xG.set pi (Value.string (tear t xd ps[pi]))).alloc (.cells #[Value.int IntKind.i64 pi, Value.string xd] 45)
          simpa [List.map_set, tear] using this.drew
      case measure => simp [intOf]; omega
    · obtain rfl : k = d.cache.length := by omega
      have hps' : Hid (crashP picks d.size 0 d.cache d.pages = ps) := by unfold Hid; rw [← hq1.out, List.drop_length]; rfl
      have cR := xR.cell
      have fR := xR.free
      have hlR' := xR.lt
      go_wp2
      refine bodyPost_ret (v := .agg #[.int .i64 d.size, .slice (some ⟨w1.heap.size, 0, none⟩) d.pages.length d.pages.length, .slice none 0 0, .int .i64 (-1)]) (by simp [results, Try.results18, go_sem, cR]) rfl ?_
      rw [hps'.out]
      refine ⟨_, rfl, ⟨some ⟨w1.heap.size, 0, none⟩, d.pages.length, none, 0, by simp only [hplh.out, List.length_nil], ?_, by intro i h; simp at h, crash_ok (.inr ⟨_, rfl, by rw [hplh.out]; exact Nat.le_refl _, by simp [maxLen]; omega⟩) (by rw [hplh.out]; exact hp2000) (fun s hs => by have := hps.out s hs; omega)⟩, ?_⟩
      · refine StrsAt.mono (S := (· = w1.heap.size)) ?_ (fun b h => Gr.new (by omega) (by simp; omega))
        exact (StrsAt.of_row (by simpa using RowAt.bx xG)).same (((((Same.refl _ _).set1 (b := w.heap.size) (by omega)).set1 (b := w.heap.size) (by omega)).set1 (b := w.heap.size) (by omega)).set4 (b := w.heap.size + 1) (by omega))
      · exact below_set4 (b := w.heap.size + 1) (below_set1 (b := w.heap.size) (below_set1 (b := w.heap.size) (below_set1 (b := w.heap.size) hB (by omega)) (by omega)) (by omega)) (by omega)

set_option maxHeartbeats 1000000 in
theorem disk_crash (d : Dsk) (v : Value) (picks : List Int) (qo : Option Addr) (qc : Nat) (w : World) {S T : Nat → Prop} (hS : InS S w) (hD : DskR S w v d) (hq : IntsAt T w qo picks) (hql : picks.length ≤ 1000000) (hn : d.cache.length ≤ 1000000) :
    Calls Try.prog 18 #[v, .slice qo picks.length qc] w (RetD S w (crashD d picks)) := by
  unfold crashD
  cases hz : (chk d != 0)
  · rw [if_neg (by simpa using hz)]
    exact disk_crash_ok d v picks qo qc w hS hD hq hql hn (by simpa using hz)
  · rw [if_pos (by simpa using hz)]
    have hD0 := hD
    obtain ⟨po, pc, co, cc, rfl, hp, hc, ok⟩ := hD
    have hbw : ∀ o o', Below w.heap.size w ((w.alloc o).alloc o') := fun o o' => ((Below.refl _ _).alloc (Nat.le_refl _) _).alloc (by simp) _
    go_enter Try.func18, Try.ntmps18
    go_wp2_with fail
    refine (disk_check d _ _ (hD0.below (hbw _ _))).mono ?_
    rintro e w1 ⟨rfl, hb1⟩
    have xR := (Bx.new (w.alloc _) _ _).belowAll hb1
    rw [World.size_alloc] at xR
    have cR := xR.cell
    have fR := xR.free
    have hB : Below w.heap.size w w1 := (hbw _ _).trans (hb1.mono (by simp; omega))
    go_wp2
    refine bodyPost_ret (v := .agg #[.int .i64 0, .slice none 0 0, .slice none 0 0, .int .i64 0]) (by simp [results, Try.results18, go_sem, cR]) rfl ?_
    exact ⟨_, rfl, zero_DskR _, below_set4 (b := w.heap.size + 1) hB (by omega)⟩
end Go.Proofs.Ytjbcagijfodfgaa
