/- Contract of the reference's Write of layer 40. -/
import Derived.Test.YtjbcagijfodfgaaDWrite
namespace Go.Proofs.Ytjbcagijfodfgaa
open Go.RowKit

set_option maxHeartbeats 1000000 in
theorem ref40_write_ok (d : Dsk) (v : Value) (i : Int) (data : ByteArray) (w : World) {S : Nat → Prop} (hS : InS S w) (hD : DskR S w v d) (hd : data.size ≤ 140737488351232) (hn : d.cache.length ≤ 1000000) (hz : (chk d != 0) = false) (g1 : decide (i < 0) = false) (g2 : decide ((d.pages.length : Int) ≤ i) = false) (g3 : ((data.size : Int) != d.size) = false) (g4 : (d.left == 0) = false) :
    Calls Try.prog 23 #[v, .int .i64 i, .string data] w (RetDE S w { opD d with cache := d.cache ++ [⟨i, data⟩] } 0) := by
  have hD0 := hD
  obtain ⟨po, pc, co, cc, rfl, hp, hc, ok⟩ := hD
  have ok1 := ok.pages
  have okW := Lib.hid ok
  have hcW := hc
  clear ok hp hc
  obtain ⟨i0, hi, hz0, hz1, hz2⟩ := info_parts infoPW
  have hbw : ∀ o o', Below w.heap.size w ((w.alloc o).alloc o') := fun o o' => ((Below.refl _ _).alloc (Nat.le_refl _) _).alloc (by simp) _
  have slc := okW.out.slc
  have hpw : ∀ (W : World) (v : Value), DskR S W v d → Calls Try.prog 34 #[v] W (RetDE S W (opD d) 0) := fun W v h => by have := ref40_operate d v W h; rw [if_neg (by simpa using g4), if_neg (by simpa using g4)] at this; exact this
  go_enter Try.func23, Try.ntmps23
  go_wp2_with fail
  refine (ref40_check d _ _ (hD0.below (hbw _ _))).mono ?_
  rintro e w1 ⟨rfl, hb1⟩
  have xA := ((Bx.new w _ _).alloc _).belowAll hb1
  have xR := (Bx.new (w.alloc _) _ _).belowAll hb1
  rw [World.size_alloc] at xR
  have cA := xA.cell
  have fA := xA.free
  have cR := xR.cell
  have fR := xR.free
  have hB : Below w.heap.size w w1 := (hbw _ _).trans (hb1.mono (by simp; omega))
  have hlA := xA.lt
  have hlR := xR.lt
  go_wp2_with fail
  refine (hpw _ _ ((hD0.below (hbw _ _)).below hb1)).mono ?_
  rintro e w2 ⟨v2, rfl, hD2, hb2⟩
  have xA2 := xA.belowAll hb2
  have xR2 := xR.belowAll hb2
  have hB2 : Below w.heap.size w w2 := hB.trans (hb2.mono (by omega))
  clear cA fA cR fR
  have hE2 := hD2
  obtain ⟨po2, pc2, co2, cc2, rfl, hp2, hc2, ok2⟩ := hD2
  have cA := xA2.cell
  have fA := xA2.free
  have cR := xR2.cell
  have fR := xR2.free
  have hlA2 := xA2.lt
  have hlR2 := xR2.lt
  have nA : ¬ Gr S w1 w2 w.heap.size := by rintro (h | h); exact absurd (hS _ h) (by omega); omega
  have nR : ¬ Gr S w1 w2 (w.heap.size + 1) := by rintro (h | h); exact absurd (hS _ h) (by omega); omega
  have nN : ¬ Gr S w1 w2 w2.heap.size := by rintro (h | h); exact absurd (hS _ h) (by omega); omega
  have hcW2 : PWsAt S w2 co d.cache := ((hcW.below (hbw _ _)).below hb1).below hb2
  have xN2 := Bx.new w2 #[.int .i64 (opD d).size, .slice po2 (opD d).pages.length pc2, .slice co2 (opD d).cache.length cc2, .int .i64 (opD d).left] 25
  clear hcW hD0 hb1
  go_wp2_with (first
    | (at_builtin; go_loud (refine wpList_app rfl (.tmp 37) (.tmp 39) 23 rfl (w2.heap.size + 1) 45 i0 _ 2 24 Try.underlying23 hi hz0 hz1 hz2 rfl (by decide) _ 0 [] rfl (ownsRow_empty _ _ _ _ _ (by simp) (Nat.le_refl _)) co d.cache.length cc (cellsPW d.cache) rfl slc.nil (cellsPW_len _) (hcW2.row.below (((Below.refl _ _).alloc (Nat.le_refl _) _).alloc (by simp) _)) (cellsPW_one _) (by unfold maxLen; omega) (by omega) (by simp) ?_); go_loud (intro v3 w3 hown3 hg3; simp only [Nat.zero_add, List.nil_append] at hown3; clear cA fA cR fR; have xA3 := ((xA2.alloc _).alloc _).grown hg3 (fun e => by have e : w.heap.size = w2.heap.size + 1 := Option.some.inj e; omega); have xR3 := ((xR2.alloc _).alloc _).grown hg3 (fun e => by have e : w.heap.size + 1 = w2.heap.size + 1 := Option.some.inj e; omega); have xN3 := (xN2.alloc _).grown hg3 (fun e => by have e : w2.heap.size = w2.heap.size + 1 := Option.some.inj e; omega); have cA := xA3.cell; have fA := xA3.free; have cR := xR3.cell; have fR := xR3.free; have cN := xN3.cell; have fN := xN3.free; have hz3 : w2.heap.size + 2 ≤ w3.heap.size := (by have := hg3.size; simpa using this)))
    | (at_builtin; refine wpList_app rfl (.tmp 40) (.tmp 44) 23 rfl (w2.heap.size + 1) 45 i0 _ 2 24 Try.underlying23 hi hz0 hz1 hz2 rfl (by decide) _ d.cache.length (cellsPW d.cache) rfl (hown3.alloc _) _ 1 1 [.int .i64 i, .string data] rfl (by intro e; cases e) rfl (RowAt.bx (Bx.new w3 _ _)) (by simp [Value.oneCell']) (by unfold maxLen; omega) (by omega) (by simp; omega) ?_; intro v4 w4 hown4 hg4; clear cA fA cR fR cN fN; obtain ⟨o4, c4, rfl, hs4, hr4, ho4⟩ := ownsRow_at hown4; have xA4 := (xA3.alloc _).grown hg4 (by intro e; have := (hown3.lt _ e.symm).1; omega); have xR4 := (xR3.alloc _).grown hg4 (by intro e; have := (hown3.lt _ e.symm).1; omega); have xN4 := (xN3.alloc _).grown hg4 (by intro e; have := (hown3.lt _ e.symm).1; omega); have cA := xA4.cell; have fA := xA4.free; have cR := xR4.cell; have fR := xR4.free; have cN := xN4.cell; have fN := xN4.free))
  have hz4 : w3.heap.size + 1 ≤ w4.heap.size := by have := hg4.size; simpa using this
  have hB3 : Below w.heap.size w w3 := ((hB2.alloc (by omega) _).alloc (by simp; omega) _).grown hg3 (by simp; omega) (fun k e => by have e : w2.heap.size + 1 = k := Option.some.inj e; omega)
  have hB4 : Below w.heap.size w w4 := ((hB3.alloc (by omega) _).grown hg4 (by simp; omega) (by intro k e; have := (hown3.lt _ e).1; omega))
  refine bodyPost_ret (v := .tuple #[.agg #[.int .i64 (opD d).size, .slice po2 (opD d).pages.length pc2, .slice o4 (d.cache.length + 1) c4, .int .i64 (opD d).left], .int .i64 0]) (by simp [results, Try.results23, go_sem, cR]) rfl ?_
  refine ⟨_, rfl, ⟨po2, pc2, o4, c4, by simp, ?_, ?_, writeD_ok ok2 hd hn hs4⟩, ?_⟩
  · have hin : InS (Gr S w1 w2) w2 := fun b h => by rcases h with h | h; exact Nat.lt_of_lt_of_le (hS _ h) (by omega); omega
    have hs : Same (Gr S w1 w2) w2 w4 := ((((Same.refl _ _).alloc hin _).alloc (hin.size (by simp)) _).grown hg3 (hin.size (by simp; omega)) (fun b e h => by have e : w2.heap.size + 1 = b := Option.some.inj e; have := hin b h; omega)).alloc (hin.size (by omega)) _ |>.grown hg4 (hin.size (by simp; omega)) (fun b e h => by have := (hown3.lt _ e).1; have := hin b h; omega)
    refine StrsAt.mono (S := Gr S w1 w2) ?_ (fun b h => by rcases h with h | h; exact .inl h; exact Gr.new (by omega) (by simp only [World.size_setCell]; omega))
    exact hp2.same ((hs.set1 nN).set4 nR)
  · refine PWsAt.mono (S := fun b => w2.heap.size + 1 ≤ b ∧ b < w4.heap.size) ?_ (fun b h => Gr.new (by omega) (by simp only [World.size_setCell]; omega))
    exact (PWsAt.of_row (l := d.cache ++ [⟨i, data⟩]) (by rw [cellsPW_app]; exact hr4)).same (((Same.refl _ _).set1 (b := w2.heap.size) (by omega)).set4 (b := w.heap.size + 1) (by omega))
  · exact below_set4 (b := w.heap.size + 1) (below_set1 (b := w2.heap.size) hB4 (by omega)) (by omega)

set_option maxHeartbeats 1000000 in
theorem ref40_write_lost (d : Dsk) (v : Value) (i : Int) (data : ByteArray) (w : World) {S : Nat → Prop} (hS : InS S w) (hD : DskR S w v d) (_hd : data.size ≤ 140737488351232) (_hn : d.cache.length ≤ 1000000) (hz : (chk d != 0) = false) (g1 : decide (i < 0) = false) (g2 : decide ((d.pages.length : Int) ≤ i) = false) (g3 : ((data.size : Int) != d.size) = false) (g4 : (d.left == 0) = true) :
    Calls Try.prog 23 #[v, .int .i64 i, .string data] w (RetDE S w d 18) := by
  have hD0 := hD
  obtain ⟨po, pc, co, cc, rfl, hp, hc, ok⟩ := hD
  have ok1 := ok.pages
  have okW := Lib.hid ok
  have hcW := hc
  clear ok hp hc
  obtain ⟨i0, hi, hz0, hz1, hz2⟩ := info_parts infoPW
  have hbw : ∀ o o', Below w.heap.size w ((w.alloc o).alloc o') := fun o o' => ((Below.refl _ _).alloc (Nat.le_refl _) _).alloc (by simp) _
  have slc := okW.out.slc
  have hpw : ∀ (W : World) (v : Value), DskR S W v d → Calls Try.prog 34 #[v] W (RetDE S W d 18) := fun W v h => by have := ref40_operate d v W h; rw [if_pos (by simpa using g4), if_pos (by simpa using g4)] at this; exact this
  go_enter Try.func23, Try.ntmps23
  go_wp2_with fail
  refine (ref40_check d _ _ (hD0.below (hbw _ _))).mono ?_
  rintro e w1 ⟨rfl, hb1⟩
  have xA := ((Bx.new w _ _).alloc _).belowAll hb1
  have xR := (Bx.new (w.alloc _) _ _).belowAll hb1
  rw [World.size_alloc] at xR
  have cA := xA.cell
  have fA := xA.free
  have cR := xR.cell
  have fR := xR.free
  have hB : Below w.heap.size w w1 := (hbw _ _).trans (hb1.mono (by simp; omega))
  have hlA := xA.lt
  have hlR := xR.lt
  go_wp2_with fail
  refine (hpw _ _ ((hD0.below (hbw _ _)).below hb1)).mono ?_
  rintro e w2 ⟨v2, rfl, hD2, hb2⟩
  have xA2 := xA.belowAll hb2
  have xR2 := xR.belowAll hb2
  have hB2 : Below w.heap.size w w2 := hB.trans (hb2.mono (by omega))
  clear cA fA cR fR
  have hE2 := hD2
  obtain ⟨po2, pc2, co2, cc2, rfl, hp2, hc2, ok2⟩ := hD2
  have cA := xA2.cell
  have fA := xA2.free
  have cR := xR2.cell
  have fR := xR2.free
  have hlA2 := xA2.lt
  have hlR2 := xR2.lt
  have nA : ¬ Gr S w1 w2 w.heap.size := by rintro (h | h); exact absurd (hS _ h) (by omega); omega
  have nR : ¬ Gr S w1 w2 (w.heap.size + 1) := by rintro (h | h); exact absurd (hS _ h) (by omega); omega
  have nN : ¬ Gr S w1 w2 w2.heap.size := by rintro (h | h); exact absurd (hS _ h) (by omega); omega
  go_wp2
  refine bodyPost_ret (v := .tuple #[.agg #[.int .i64 d.size, .slice po2 d.pages.length pc2, .slice co2 d.cache.length cc2, .int .i64 d.left], .int .i64 18]) (by simp [results, Try.results23, go_sem, cR, hlR2]) rfl ?_
  have hin : InS (Gr S w1 w2) w2 := fun b h => by rcases h with h | h; exact Nat.lt_of_lt_of_le (hS _ h) (by omega); omega
  refine ⟨_, rfl, DskR.mono (S := Gr S w1 w2) ?_ (fun b h => by rcases h with h | h; exact .inl h; exact Gr.new (by omega) (by simp; omega)), ?_⟩
  · exact hE2.same (((Same.refl _ _).set4 nR).alloc (hin.size (by simp)) _)
  · exact (below_set4 (b := w.heap.size + 1) hB2 (by omega)).alloc (by simp; omega) _

set_option maxHeartbeats 1000000 in
theorem ref40_write (d : Dsk) (v : Value) (i : Int) (data : ByteArray) (w : World) {S : Nat → Prop} (hS : InS S w) (hD : DskR S w v d) (hd : data.size ≤ 140737488351232) (hn : d.cache.length ≤ 1000000) :
    Calls Try.prog 23 #[v, .int .i64 i, .string data] w (RetDE S w (writeD d i data).1 (writeD d i data).2) := by
  have hD0 := hD
  obtain ⟨po, pc, co, cc, rfl, hp, hc, ok⟩ := hD
  have ok1 := ok.pages
  have okW := Lib.hid ok
  clear ok hp hc
  obtain ⟨i0, hi, hz0, hz1, hz2⟩ := info_parts infoPW
  have hbw : ∀ o o', Below w.heap.size w ((w.alloc o).alloc o') := fun o o' => ((Below.refl _ _).alloc (Nat.le_refl _) _).alloc (by simp) _
  unfold writeD
  cases hz : (chk d != 0)
  · rw [if_neg (by simpa using hz)]
    cases g1 : decide (i < 0)
    · cases g2 : decide ((d.pages.length : Int) ≤ i)
      · rw [if_neg (by simp at g1 g2; omega)]
        cases g3 : ((data.size : Int) != d.size)
        · rw [if_neg (by simpa using g3)]
          cases g4 : (d.left == 0)
          · rw [if_neg (by simpa using g4)]
            exact ref40_write_ok d _ i data w hS hD0 hd hn hz g1 g2 g3 g4
          · rw [if_pos (by simpa using g4)]
            exact ref40_write_lost d _ i data w hS hD0 hd hn hz g1 g2 g3 g4
        · rw [if_pos (by simpa using g3)]
          go_enter Try.func23, Try.ntmps23
          go_wp2_with fail
          refine (ref40_check d _ _ (hD0.below (hbw _ _))).mono ?_
          rintro e w1 ⟨rfl, hb1⟩
          have xA := ((Bx.new w _ _).alloc _).belowAll hb1
          have xR := (Bx.new (w.alloc _) _ _).belowAll hb1
          rw [World.size_alloc] at xR
          have cA := xA.cell
          have fA := xA.free
          have cR := xR.cell
          have fR := xR.free
          have hB : Below w.heap.size w w1 := (hbw _ _).trans (hb1.mono (by simp; omega))
          have hlA := xA.lt
          have hlR := xR.lt
          go_wp2
          refine bodyPost_ret (v := .tuple #[.agg #[.int .i64 0, .slice none 0 0, .slice none 0 0, .int .i64 0], .int .i64 10]) (by simp [results, Try.results23, go_sem, cR]) rfl ?_
          exact ⟨_, rfl, zero_DskR _, (by repeat (first | exact hB | (refine Below.setCell ?_ (by simp) _) | (refine Below.alloc ?_ (by simp; omega) _) | (refine Below.drewN ?_ _) | (refine Below.drew ?_)))⟩
      · rw [if_pos (by simp at g1 g2; omega)]
        go_enter Try.func23, Try.ntmps23
        go_wp2_with fail
        refine (ref40_check d _ _ (hD0.below (hbw _ _))).mono ?_
        rintro e w1 ⟨rfl, hb1⟩
        have xA := ((Bx.new w _ _).alloc _).belowAll hb1
        have xR := (Bx.new (w.alloc _) _ _).belowAll hb1
        rw [World.size_alloc] at xR
        have cA := xA.cell
        have fA := xA.free
        have cR := xR.cell
        have fR := xR.free
        have hB : Below w.heap.size w w1 := (hbw _ _).trans (hb1.mono (by simp; omega))
        have hlA := xA.lt
        have hlR := xR.lt
        go_wp2
        refine bodyPost_ret (v := .tuple #[.agg #[.int .i64 0, .slice none 0 0, .slice none 0 0, .int .i64 0], .int .i64 2]) (by simp [results, Try.results23, go_sem, cR]) rfl ?_
        exact ⟨_, rfl, zero_DskR _, (by repeat (first | exact hB | (refine Below.setCell ?_ (by simp) _) | (refine Below.alloc ?_ (by simp; omega) _) | (refine Below.drewN ?_ _) | (refine Below.drew ?_)))⟩
    · rw [if_pos (by simp at g1; omega)]
      go_enter Try.func23, Try.ntmps23
      go_wp2_with fail
      refine (ref40_check d _ _ (hD0.below (hbw _ _))).mono ?_
      rintro e w1 ⟨rfl, hb1⟩
      have xA := ((Bx.new w _ _).alloc _).belowAll hb1
      have xR := (Bx.new (w.alloc _) _ _).belowAll hb1
      rw [World.size_alloc] at xR
      have cA := xA.cell
      have fA := xA.free
      have cR := xR.cell
      have fR := xR.free
      have hB : Below w.heap.size w w1 := (hbw _ _).trans (hb1.mono (by simp; omega))
      have hlA := xA.lt
      have hlR := xR.lt
      go_wp2
      refine bodyPost_ret (v := .tuple #[.agg #[.int .i64 0, .slice none 0 0, .slice none 0 0, .int .i64 0], .int .i64 2]) (by simp [results, Try.results23, go_sem, cR]) rfl ?_
      exact ⟨_, rfl, zero_DskR _, (by repeat (first | exact hB | (refine Below.setCell ?_ (by simp) _) | (refine Below.alloc ?_ (by simp; omega) _) | (refine Below.drewN ?_ _) | (refine Below.drew ?_)))⟩
  · rw [if_pos (by simpa using hz)]
    go_enter Try.func23, Try.ntmps23
    go_wp2_with fail
    refine (ref40_check d _ _ (hD0.below (hbw _ _))).mono ?_
    rintro e w1 ⟨rfl, hb1⟩
    have xA := ((Bx.new w _ _).alloc _).belowAll hb1
    have xR := (Bx.new (w.alloc _) _ _).belowAll hb1
    rw [World.size_alloc] at xR
    have cA := xA.cell
    have fA := xA.free
    have cR := xR.cell
    have fR := xR.free
    have hB : Below w.heap.size w w1 := (hbw _ _).trans (hb1.mono (by simp; omega))
    have hlA := xA.lt
    have hlR := xR.lt
    go_wp2
    refine bodyPost_ret (v := .tuple #[.agg #[.int .i64 0, .slice none 0 0, .slice none 0 0, .int .i64 0], .int .i64 1]) (by simp [results, Try.results23, go_sem, cR]) rfl ?_
    exact ⟨_, rfl, zero_DskR _, (by repeat (first | exact hB | (refine Below.setCell ?_ (by simp) _) | (refine Below.alloc ?_ (by simp; omega) _) | (refine Below.drewN ?_ _) | (refine Below.drew ?_)))⟩

end Go.Proofs.Ytjbcagijfodfgaa
