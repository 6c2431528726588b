/- disk.Flush (layer 40): the two failing ways, and all together; the reference's Flush. -/
import Derived.Test.YtjbcagijfodfgaaDFlush
import Derived.Test.YtjbcagijfodfgaaDWriteR
namespace Go.Proofs.Ytjbcagijfodfgaa
open Go.RowKit

set_option maxHeartbeats 1000000 in
theorem disk_flush (d : Dsk) (v : Value) (w : World) {S : Nat → Prop} (hS : InS S w) (hD : DskR S w v d) :
    Calls Try.prog 24 #[v] w (RetDE S w (flushD d).1 (flushD d).2) := by
  have hbw : ∀ o o', Below w.heap.size w ((w.alloc o).alloc o') := fun o o' => ((Below.refl _ _).alloc (Nat.le_refl _) _).alloc (by simp) _
  unfold flushD
  cases hz : (chk d != 0)
  · rw [if_neg (by simpa using hz)]
    cases g4 : (d.left == 0)
    · rw [if_neg (by simpa using g4)]
      exact disk_flush_ok d v w hS hD hz g4
    · rw [if_pos (by simpa using g4)]
      have hD0 := hD
      obtain ⟨po, pc, co, cc, rfl, hp, hc, ok⟩ := hD
      clear hp hc ok
      have hpw : ∀ (W : World) (v : Value), DskR S W v d → Calls Try.prog 32 #[v] W (RetDB S W d false) := fun W v h => by have := disk_power d v W h; rw [if_pos (by simpa using g4), g4] at this; exact this
      go_enter Try.func24, Try.ntmps24
      go_wp2_with fail
      refine (disk_check d _ _ (hD0.below (hbw _ _))).mono ?_
      rintro e w1 ⟨rfl, hb1⟩
      have xA := ((Bx.new w _ _).alloc _).belowAll hb1
      have xR := (Bx.new (w.alloc _) _ _).belowAll hb1
      rw [World.size_alloc] at xR
      have cA := xA.cell
      have fA := xA.free
      have cR := xR.cell
      have fR := xR.free
      have hB : Below w.heap.size w w1 := (hbw _ _).trans (hb1.mono (by simp; omega))
      have hlA := xA.lt
      have hlR := xR.lt
      go_wp2_with fail
      refine (hpw _ _ ((hD0.below (hbw _ _)).below hb1)).mono ?_
      rintro e w2 ⟨v2, rfl, hD2, hb2⟩
      have xA2 := xA.belowAll hb2
      have xR2 := xR.belowAll hb2
      have hB2 : Below w.heap.size w w2 := hB.trans (hb2.mono (by omega))
      clear cA fA cR fR
      have hE2 := hD2
      obtain ⟨po2, pc2, co2, cc2, rfl, hp2, hc2, ok2⟩ := hD2
      have cA := xA2.cell
      have fA := xA2.free
      have cR := xR2.cell
      have fR := xR2.free
      have hlA2 := xA2.lt
      have hlR2 := xR2.lt
      have nA : ¬ Gr S w1 w2 w.heap.size := by rintro (h | h); exact absurd (hS _ h) (by omega); omega
      have nR : ¬ Gr S w1 w2 (w.heap.size + 1) := by rintro (h | h); exact absurd (hS _ h) (by omega); omega
      go_wp2
      refine bodyPost_ret (v := .tuple #[.agg #[.int .i64 d.size, .slice po2 d.pages.length pc2, .slice co2 d.cache.length cc2, .int .i64 d.left], .int .i64 18]) (by simp [results, Try.results24, go_sem, cR]) rfl ?_
      refine ⟨_, rfl, (hE2.same ?_).mono ?_, ?_⟩
      · exact ((Same.refl _ _).set4 nA).set4 nR
      · rintro b (h | h)
        · exact .inl h
        · exact .inr (by simp; omega)
      · exact below_set4 (b := w.heap.size + 1) (below_set4 (b := w.heap.size) hB2 (Nat.le_refl _)) (by omega)
  · rw [if_pos (by simpa using hz)]
    have hD0 := hD
    obtain ⟨po, pc, co, cc, rfl, hp, hc, ok⟩ := hD
    go_enter Try.func24, Try.ntmps24
    go_wp2_with fail
    refine (disk_check d _ _ (hD0.below (hbw _ _))).mono ?_
    rintro e w1 ⟨rfl, hb1⟩
    have xR := (Bx.new (w.alloc _) _ _).belowAll hb1
    rw [World.size_alloc] at xR
    have cR := xR.cell
    have fR := xR.free
    have hB : Below w.heap.size w w1 := (hbw _ _).trans (hb1.mono (by simp; omega))
    go_wp2
    refine bodyPost_ret (v := .tuple #[.agg #[.int .i64 0, .slice none 0 0, .slice none 0 0, .int .i64 0], .int .i64 1]) (by simp [results, Try.results24, go_sem, cR]) rfl ?_
    exact ⟨_, rfl, zero_DskR _, below_set4 (b := w.heap.size + 1) hB (by omega)⟩

theorem flush_ok2 {d : Dsk} {o : Option Addr} {c : Nat} {l : Int} (hp : ∀ s ∈ d.pages, (s.size : Int) = d.size) (hc : ∀ x ∈ d.cache, (x.data.size : Int) = d.size) (hn : d.pages.length ≤ 2000) (hs : d.size ≤ 512) (hl : -9223372036854775808 ≤ l ∧ l ≤ 9223372036854775807)
    (ho : SlW o d.pages.length c) : DskOk ⟨d.size, contentsD d, [], l⟩ o none c 0 :=
  ⟨by rw [show (⟨d.size, contentsD d, [], l⟩ : Dsk).pages.length = d.pages.length from contentsD_len d]; exact ho, .inl ⟨rfl, rfl, rfl⟩, by simp only [contentsD_len]; omega, by simp, fun s h => by have := contents_size hp hc s h; omega, by simp, hl⟩
theorem contentsD_get (d : Dsk) (k : Nat) (h : k < d.pages.length) : (contentsD d)[k]? = some (contentD d k h) := by simp [contentsD, h]
theorem contentsD_take (d : Dsk) (k : Nat) (h : k < d.pages.length) : (contentsD d).take (k + 1) = (contentsD d).take k ++ [contentD d k h] := by
  rw [List.take_add_one, contentsD_get d k h]; rfl

set_option maxHeartbeats 2000000 in
theorem ref40_flush_ok (d : Dsk) (v : Value) (w : World) {S : Nat → Prop} (_hS : InS S w) (hD : DskR S w v d) (hz : (chk d != 0) = false) (g4 : (d.left == 0) = false) :
    Calls Try.prog 25 #[v] w (RetDE S w ⟨d.size, contentsD d, [], (opD d).left⟩ 0) := by
  obtain ⟨v1, v2, v3, v4⟩ := chk_zero (by simpa using hz)
  have hr := rangedB_true v1
  have hD0 := hD
  obtain ⟨po, pc, co, cc, rfl, hp, hc, ok⟩ := hD
  have ok1 := ok.pages
  have okW := Lib.hid ok
  clear ok hp hc
  obtain ⟨i0, hi, hz0, hz1, hz2⟩ := info_parts infoStr
  have hbw : ∀ o o', Below w.heap.size w ((w.alloc o).alloc o') := fun o o' => ((Below.refl _ _).alloc (Nat.le_refl _) _).alloc (by simp) _
  have hpw : ∀ (W : World) (v : Value), DskR S W v d → Calls Try.prog 34 #[v] W (RetDE S W (opD d) 0) := fun W v h => by have := ref40_operate d v W h; rw [if_neg (by simpa using g4), if_neg (by simpa using g4)] at this; exact this
  go_enter Try.func25, Try.ntmps25
  go_wp2_with fail
  refine (ref40_check d _ _ (hD0.below (hbw _ _))).mono ?_
  rintro e w1 ⟨rfl, hb1⟩
  have xA := ((Bx.new w _ _).alloc _).belowAll hb1
  have xR := (Bx.new (w.alloc _) _ _).belowAll hb1
  rw [World.size_alloc] at xR
  have cA := xA.cell
  have fA := xA.free
  have cR := xR.cell
  have fR := xR.free
  have hB : Below w.heap.size w w1 := (hbw _ _).trans (hb1.mono (by simp; omega))
  have hlA := xA.lt
  have hlR := xR.lt
  go_wp2_with fail
  refine (hpw _ _ ((hD0.below (hbw _ _)).below hb1)).mono ?_
  rintro e w2 ⟨v2', rfl, hD2, hb2⟩
  have xA2 := xA.belowAll hb2
  have xR2 := xR.belowAll hb2
  have hB2 : Below w.heap.size w w2 := hB.trans (hb2.mono (by omega))
  clear cA fA cR fR
  obtain ⟨po2, pc2, co2, cc2, rfl, _, _, ok2⟩ := hD2
  have okl := Lib.hid ok2.left
  clear ok2
  have cA := xA2.cell
  have fA := xA2.free
  have cR := xR2.cell
  have fR := xR2.free
  have hlA2 := xA2.lt
  have hlR2 := xR2.lt
  have hw12 : w.heap.size + 1 < w2.heap.size := hlR2
  have hvh := Lib.hid (And.intro v2 v3)
  have hp2000 : d.pages.length ≤ 2000 := by omega
  have hs512 : d.size ≤ 512 := hr.2.2.2
  clear v2 v3 hr
  go_wp2
  clear cA fA cR fR
  go_loopw [6] (fun i wr => ∃ (k : Nat) (v : Value), k ≤ d.pages.length ∧ i = .int .i64 k ∧ wr.ownsRow (w2.heap.size + 1) 9 1 v k (((contentsD d).take k).map .string) ∧ Bx wr w.heap.size #[.int .i64 d.size, .slice po d.pages.length pc, .slice co d.cache.length cc, .int .i64 d.left] 25 ∧ Bx wr (w.heap.size + 1) #[.int .i64 0, .slice none 0 0, .slice none 0 0, .int .i64 0] 25 ∧ Bx wr w2.heap.size #[.int .i64 (opD d).size, v, .slice co2 (opD d).cache.length cc2, .int .i64 (opD d).left] 25 ∧ Below w.heap.size w wr) (fun i _ => d.pages.length - (intOf i).toNat)
  case atStart =>
    exact ⟨0, _, Nat.zero_le _, rfl, World.ownsRow_nil _ _ _ _, xA2.alloc _, xR2.alloc _, Bx.new w2 _ _, hB2.alloc (by omega) _⟩
  case round =>
    clear xA2 xR2 hb2 hlA2 hlR2
    obtain ⟨k, v, hk, rfl, hown, xA, xR, xN, hB⟩ := hrel
    have hlA' := xA.lt
    have hlR' := xR.lt
    have hlN := xN.lt
    have cA := xA.cell
    have fA := xA.free
    have cR := xR.cell
    have fR := xR.free
    have cN := xN.cell
    have fN := xN.free
    by_cases hlt : k < d.pages.length
    · have hcon : ∀ W, Below w.heap.size w W → Calls Try.prog 36 #[.agg #[.int .i64 d.size, .slice po d.pages.length pc, .slice co d.cache.length cc, .int .i64 d.left], .int .i64 k] W fun e w' => e = .returned (.string (contentD d k hlt)) ∧ Below W.heap.size W w' := fun W h => ref40_content d _ k hlt W (hD0.below h)
      obtain ⟨z, ez⟩ : ∃ z, contentD d k hlt = z := ⟨_, rfl⟩
      rw [ez] at hcon
      have ezh := Lib.hid ez
      clear ez
      go_wp2
      go_region_law (first
        | (refine step_app rfl (.tmp 29) (.tmp 33) 22 rfl (w2.heap.size + 1) 9 i0 _ 1 16 Try.underlying22 hi hz0 hz1 hz2 rfl (by decide) v k _ rfl (hown2.alloc _) _ 1 1 [.string z] rfl (by intro e; cases e) rfl (RowAt.bx (Bx.new w3 _ _)) (by simp [Value.oneCell']) (by unfold maxLen; omega) (by omega) (by simp; omega) ?_; intro v4 w4 hown3 hg3; clear cA2 fA2 cR2 fR2 cN2 fN2; obtain ⟨o3, c3, rfl, hs3, hr3, ho3⟩ := ownsRow_at hown3; have xA4 := (xA3.alloc _).grown hg3 (by intro e; have := (hown2.lt _ e.symm).1; omega); have xR4 := (xR3.alloc _).grown hg3 (by intro e; have := (hown2.lt _ e.symm).1; omega); have xN4 := (xN3.alloc _).grown hg3 (by intro e; have := (hown2.lt _ e.symm).1; omega); have cA3 := xA4.cell; have fA3 := xA4.free; have cR3 := xR4.cell; have fR3 := xR4.free; have cN3 := xN4.cell; have fN3 := xN4.free)
        | (go_simp; go_at_call 36; refine (hcon _ (by first | exact hB.drew | exact hB)).mono ?_; rintro e w3 ⟨rfl, hb3⟩; have xA3 := xA.drew.belowAll hb3; have xR3 := xR.drew.belowAll hb3; have xN3 := xN.drew.belowAll hb3; have hown2 := ownsRow_belowAll hown.drew hb3; have hB3 := hB.drew.trans (hb3.mono hB.size); have hl2 := xN3.lt; clear cA fA cR fR cN fN; have cA2 := xA3.cell; have fA2 := xA3.free; have cR2 := xR3.cell; have fR2 := xR3.free; have cN2 := xN3.cell; have fN2 := xN3.free))
      all_goals
        have hB4 : Below w.heap.size w w4 := (hB3.alloc (by omega) _).grown hg3 (by simp; omega) (by intro j e; have := (hown2.lt _ e).1; omega)
        go_wp2
        go_roundw
        case rel =>
          refine ⟨k + 1, _, by omega, by go_num, ?_, xA4.setO (by simp; omega) _, xR4.setO (by simp; omega) _, by simpa using xN4.set 1 _, below_set1 hB4 (by omega)⟩
          rw [contentsD_take d k hlt, ezh.out, List.map_append]; exact ownsRow_setB hown3 (by omega) _
        case measure => simp [intOf]; omega
    · obtain rfl : k = d.pages.length := by omega
      rw [List.take_of_length_le (by rw [contentsD_len]; exact Nat.le_refl _)] at hown
      obtain ⟨o2, c2, rfl, hs2, hr2, ho2⟩ := ownsRow_at hown
      go_wp2
      refine bodyPost_ret (v := .tuple #[.agg #[.int .i64 (opD d).size, .slice o2 d.pages.length c2, .slice none 0 0, .int .i64 (opD d).left], .int .i64 0]) (by simp [results, Try.results25, go_sem, cR]) rfl ?_
      refine ⟨_, rfl, ⟨o2, c2, none, 0, by simp only [contentsD_len]; rfl, ?_, by intro i h; simp at h, flush_ok2 hvh.out.1 (fun x hx => (hvh.out.2 x hx).2.2) hp2000 hs512 okl.out hs2⟩, below_set4 (b := w.heap.size + 1) (below_set1 (b := w2.heap.size) hB (by omega)) (by omega)⟩
      refine StrsAt.mono (S := fun b => w2.heap.size + 1 ≤ b ∧ b < wr.heap.size) ?_ (fun b h => Gr.new (by omega) (by simp only [World.size_setCell]; omega))
      exact (StrsAt.of_row hr2).same (((Same.refl _ _).set1 (b := w2.heap.size) (by omega)).set4 (b := w.heap.size + 1) (by omega))

set_option maxHeartbeats 1000000 in
theorem ref40_flush (d : Dsk) (v : Value) (w : World) {S : Nat → Prop} (hS : InS S w) (hD : DskR S w v d) :
    Calls Try.prog 25 #[v] w (RetDE S w (flushD d).1 (flushD d).2) := by
  have hbw : ∀ o o', Below w.heap.size w ((w.alloc o).alloc o') := fun o o' => ((Below.refl _ _).alloc (Nat.le_refl _) _).alloc (by simp) _
  unfold flushD
  cases hz : (chk d != 0)
  · rw [if_neg (by simpa using hz)]
    cases g4 : (d.left == 0)
    · rw [if_neg (by simpa using g4)]
      exact ref40_flush_ok d v w hS hD hz g4
    · rw [if_pos (by simpa using g4)]
      have hD0 := hD
      obtain ⟨po, pc, co, cc, rfl, hp, hc, ok⟩ := hD
      clear hp hc ok
      have hpw : ∀ (W : World) (v : Value), DskR S W v d → Calls Try.prog 34 #[v] W (RetDE S W d 18) := fun W v h => by have := ref40_operate d v W h; rw [if_pos (by simpa using g4), if_pos (by simpa using g4)] at this; exact this
      go_enter Try.func25, Try.ntmps25
      go_wp2_with fail
      refine (ref40_check d _ _ (hD0.below (hbw _ _))).mono ?_
      rintro e w1 ⟨rfl, hb1⟩
      have xA := ((Bx.new w _ _).alloc _).belowAll hb1
      have xR := (Bx.new (w.alloc _) _ _).belowAll hb1
      rw [World.size_alloc] at xR
      have cA := xA.cell
      have fA := xA.free
      have cR := xR.cell
      have fR := xR.free
      have hB : Below w.heap.size w w1 := (hbw _ _).trans (hb1.mono (by simp; omega))
      have hlA := xA.lt
      have hlR := xR.lt
      go_wp2_with fail
      refine (hpw _ _ ((hD0.below (hbw _ _)).below hb1)).mono ?_
      rintro e w2 ⟨v2, rfl, hD2, hb2⟩
      have xA2 := xA.belowAll hb2
      have xR2 := xR.belowAll hb2
      have hB2 : Below w.heap.size w w2 := hB.trans (hb2.mono (by omega))
      clear cA fA cR fR
      have hE2 := hD2
      obtain ⟨po2, pc2, co2, cc2, rfl, hp2, hc2, ok2⟩ := hD2
      have cA := xA2.cell
      have fA := xA2.free
      have cR := xR2.cell
      have fR := xR2.free
      have hlA2 := xA2.lt
      have hlR2 := xR2.lt
      have nA : ¬ Gr S w1 w2 w.heap.size := by rintro (h | h); exact absurd (hS _ h) (by omega); omega
      have nR : ¬ Gr S w1 w2 (w.heap.size + 1) := by rintro (h | h); exact absurd (hS _ h) (by omega); omega
      go_wp2
      refine bodyPost_ret (v := .tuple #[.agg #[.int .i64 d.size, .slice po2 d.pages.length pc2, .slice co2 d.cache.length cc2, .int .i64 d.left], .int .i64 18]) (by simp [results, Try.results25, go_sem, cR, hlR2]) rfl ?_
      have hin : InS (Gr S w1 w2) w2 := fun b h => by rcases h with h | h; exact Nat.lt_of_lt_of_le (hS _ h) (by omega); omega
      refine ⟨_, rfl, DskR.mono (S := Gr S w1 w2) ?_ (fun b h => by rcases h with h | h; exact .inl h; exact Gr.new (by omega) (by simp; omega)), ?_⟩
      · exact hE2.same (((Same.refl _ _).set4 nR).alloc (hin.size (by simp)) _)
      · exact (below_set4 (b := w.heap.size + 1) hB2 (by omega)).alloc (by simp; omega) _
  · rw [if_pos (by simpa using hz)]
    have hD0 := hD
    obtain ⟨po, pc, co, cc, rfl, hp, hc, ok⟩ := hD
    go_enter Try.func25, Try.ntmps25
    go_wp2_with fail
    refine (ref40_check d _ _ (hD0.below (hbw _ _))).mono ?_
    rintro e w1 ⟨rfl, hb1⟩
    have xR := (Bx.new (w.alloc _) _ _).belowAll hb1
    rw [World.size_alloc] at xR
    have cR := xR.cell
    have fR := xR.free
    have hB : Below w.heap.size w w1 := (hbw _ _).trans (hb1.mono (by simp; omega))
    go_wp2
    refine bodyPost_ret (v := .tuple #[.agg #[.int .i64 0, .slice none 0 0, .slice none 0 0, .int .i64 0], .int .i64 1]) (by simp [results, Try.results25, go_sem, cR]) rfl ?_
    exact ⟨_, rfl, zero_DskR _, below_set4 (b := w.heap.size + 1) hB (by omega)⟩
end Go.Proofs.Ytjbcagijfodfgaa
