/- Contracts of Write of layer 40, of the program's and the reference's, and of slices.Clone at lists of writes. -/
import Derived.Test.YtjbcagijfodfgaaDSmall
import Derived.WalkSpells
namespace Go.Proofs.Ytjbcagijfodfgaa
open Go.RowKit

theorem infoPW : (Try.prog.info? 45).map (fun i => (i.zero, i.size, i.bytes)) = some (some (.agg #[.int .i64 0, .string .empty]), 2, 24) := by kernel_rfl

set_option maxHeartbeats 1000000 in
theorem clone_pw (w : World) {S : Nat → Prop} (o : Option Addr) (l : List PW) (c : Nat) (hs : SlW o l.length c) (h : PWsAt S w o l) (hl : l.length ≤ 1000000) :
    Calls Try.prog 33 #[.slice o l.length c] w fun e w' => ∃ v, e = .returned v ∧ w'.ownsRow w.heap.size 45 2 v l.length (cellsPW l) ∧ Below w.heap.size w w' := by
  obtain ⟨i0, hi, hz0, hz1, hz2⟩ := info_parts infoPW
  have heql := fun (w : World) (a : Option Addr) (n c : Nat) => Lib.run_eql_slice_nil (P := Try.prog) w 23 45 a n c 0 0 Try.underlying23
  rcases hs with ⟨rfl, hn, rfl⟩ | ⟨a, rfl, hnc, hcm⟩
  · have hl0 : l = [] := List.eq_nil_of_length_eq_zero hn
    subst hl0
    go_enter Try.func33, Try.ntmps33
    go_wp2
    go_ret
    exact ⟨_, rfl, World.ownsRow_nil _ _ _ _, Below.refl _ _⟩
  · go_enter Try.func33, Try.ntmps33
    go_wp2_with (at_builtin; refine wpList_app rfl _ _ 23 rfl w.heap.size 45 i0 _ 2 24 Try.underlying23 hi hz0 hz1 hz2 rfl (by decide) _ 0 [] rfl (World.ownsRow_made w #[] 0 (Nat.le_refl _) (by simp [maxLen]) rfl) _ l.length c (cellsPW l) rfl (by intro e; cases e) (cellsPW_len l) (h.row.below ((Below.refl _ _).alloc (Nat.le_refl _) _)) (cellsPW_one l) (by unfold maxLen; omega) (by omega) (by simp) ?_; intro v' w1 hown hg)
    go_ret
    simp only [Nat.zero_add, List.nil_append] at hown
    exact ⟨_, rfl, hown, ((Below.refl _ _).alloc (Nat.le_refl _) _).grown hg (by simp) (by intro k hk; cases hk; exact Nat.le_refl _)⟩

theorem zero_ok : DskOk zeroD none none 0 0 := ⟨.inl ⟨rfl, rfl, rfl⟩, .inl ⟨rfl, rfl, rfl⟩, by simp [zeroD], by simp [zeroD], by simp [zeroD], by simp [zeroD], by simp [zeroD]⟩
theorem zero_DskR {S : Nat → Prop} (w : World) : DskR S w (.agg #[.int .i64 0, .slice none 0 0, .slice none 0 0, .int .i64 0]) zeroD :=
  ⟨none, 0, none, 0, rfl, by intro i h; simp [zeroD] at h, by intro i h; simp [zeroD] at h, zero_ok⟩

theorem writeD_ok {d : Dsk} {po co : Option Addr} {pc cc : Nat} (h : DskOk d po co pc cc) {co' : Option Addr} {cc' : Nat} {i : Int} {data : ByteArray} (hd : data.size ≤ 140737488351232) (hc : d.cache.length ≤ 1000000) (hs : SlW co' (d.cache.length + 1) cc') :
    DskOk { d with cache := d.cache ++ [⟨i, data⟩] } po co' pc cc' := by
  refine ⟨h.slp, by simpa using hs, h.pages, by simp; omega, h.strs, ?_, h.left⟩
  intro x hx
  simp at hx
  rcases hx with hx | rfl
  · exact h.datas x hx
  · exact hd

set_option maxHeartbeats 1000000 in
theorem disk_write_ok (d : Dsk) (v : Value) (i : Int) (data : ByteArray) (w : World) {S : Nat → Prop} (hS : InS S w) (hD : DskR S w v d) (hd : data.size ≤ 140737488351232) (hn : d.cache.length ≤ 1000000) (hz : (chk d != 0) = false) (g1 : decide (i < 0) = false) (g2 : decide ((d.pages.length : Int) ≤ i) = false) (g3 : ((data.size : Int) != d.size) = false) (g4 : (d.left == 0) = false) :
    Calls Try.prog 22 #[v, .int .i64 i, .string data] w (RetDE S w { opD d with cache := d.cache ++ [⟨i, data⟩] } 0) := by
  have hD0 := hD
  obtain ⟨po, pc, co, cc, rfl, hp, hc, ok⟩ := hD
  have ok1 := ok.pages
  have okW := Lib.hid ok
  clear ok hp hc
  obtain ⟨i0, hi, hz0, hz1, hz2⟩ := info_parts infoPW
  have hbw : ∀ o o', Below w.heap.size w ((w.alloc o).alloc o') := fun o o' => ((Below.refl _ _).alloc (Nat.le_refl _) _).alloc (by simp) _
  have hpw : ∀ (W : World) (v : Value), DskR S W v d → Calls Try.prog 32 #[v] W (RetDB S W (opD d) true) := fun W v h => by have := disk_power d v W h; rw [if_neg (by simpa using g4), g4] at this; exact this
  go_enter Try.func22, Try.ntmps22
  go_wp2_with fail
  refine (disk_check d _ _ (hD0.below (hbw _ _))).mono ?_
  rintro e w1 ⟨rfl, hb1⟩
  have xA := ((Bx.new w _ _).alloc _).belowAll hb1
  have xR := (Bx.new (w.alloc _) _ _).belowAll hb1
  rw [World.size_alloc] at xR
  have cA := xA.cell
  have fA := xA.free
  have cR := xR.cell
  have fR := xR.free
  have hB : Below w.heap.size w w1 := (hbw _ _).trans (hb1.mono (by simp; omega))
  have hlA := xA.lt
  have hlR := xR.lt
  go_wp2_with fail
  refine (hpw _ _ ((hD0.below (hbw _ _)).below hb1)).mono ?_
  rintro e w2 ⟨v2, rfl, hD2, hb2⟩
  have xA2 := xA.belowAll hb2
  have xR2 := xR.belowAll hb2
  have hB2 : Below w.heap.size w w2 := hB.trans (hb2.mono (by omega))
  clear cA fA cR fR
  have hE2 := hD2
  obtain ⟨po2, pc2, co2, cc2, rfl, hp2, hc2, ok2⟩ := hD2
  have cA := xA2.cell
  have fA := xA2.free
  have cR := xR2.cell
  have fR := xR2.free
  have hlA2 := xA2.lt
  have hlR2 := xR2.lt
  have nA : ¬ Gr S w1 w2 w.heap.size := by rintro (h | h); exact absurd (hS _ h) (by omega); omega
  have nR : ¬ Gr S w1 w2 (w.heap.size + 1) := by rintro (h | h); exact absurd (hS _ h) (by omega); omega
  go_wp2_with fail
  refine (clone_pw _ _ d.cache _ ok2.slc (hc2.same ((Same.refl _ _).set4 nA)) hn).mono ?_
  rintro e w3 ⟨v3, rfl, hown, hb3⟩
  have xA3 := xA2.set4.belowAll hb3
  have xR3 := (xR2.setO4 (b' := w.heap.size) (by simp)).belowAll hb3
  have hB3 := (below_set4 (b := w.heap.size) hB2 (Nat.le_refl _)).trans (hb3.mono (by simp; omega))
  have hp3 := (hp2.same ((Same.refl _ _).set4 nA)).below hb3
  clear cA fA cR fR
  have cA := xA3.cell
  have fA := xA3.free
  have cR := xR3.cell
  have fR := xR3.free
  have hz3 : w2.heap.size ≤ w3.heap.size := by have := hb3.size; simpa using this
  simp only [World.size_setCell] at hown
  go_wp2_with (at_builtin; refine wpList_app rfl _ _ 23 rfl w2.heap.size 45 i0 _ 2 24 Try.underlying23 hi hz0 hz1 hz2 rfl (by decide) _ d.cache.length (cellsPW d.cache) rfl (hown.alloc _) _ 1 1 [.int .i64 i, .string data] rfl (by intro e; cases e) rfl (RowAt.bx (Bx.new w3 _ _)) (by simp [Value.oneCell']) (by unfold maxLen; omega) (by omega) (by simp; omega) ?_; intro v4 w4 hown4 hg4; clear cA fA cR fR; obtain ⟨o4, c4, rfl, hs4, hr4, ho4⟩ := ownsRow_at hown4; have xA4 := (xA3.alloc _).grown hg4 (by intro e; have := (hown.lt _ e.symm).1; omega); have xR4 := (xR3.alloc _).grown hg4 (by intro e; have := (hown.lt _ e.symm).1; omega); have cA := xA4.cell; have fA := xA4.free; have cR := xR4.cell; have fR := xR4.free)
  have hz4 : w3.heap.size + 1 ≤ w4.heap.size := by have := hg4.size; simpa using this
  have hB4 : Below w.heap.size w w4 := ((hB3.alloc (by omega) _).grown hg4 (by simp; omega) (by intro k e; have := (hown.lt _ e).1; omega))
  refine bodyPost_ret (v := .tuple #[.agg #[.int .i64 (opD d).size, .slice po2 (opD d).pages.length pc2, .slice o4 (d.cache.length + 1) c4, .int .i64 (opD d).left], .int .i64 0]) (by simp [results, Try.results22, go_sem, cR]) rfl ?_
  refine ⟨_, rfl, ⟨po2, pc2, o4, c4, by simp, ?_, ?_, writeD_ok ok2 hd hn hs4⟩, ?_⟩
  · have hI : InS (Gr S w1 w2) w3 := fun b h => by rcases h with h | h; exact Nat.lt_of_lt_of_le (hS _ h) (by omega); omega
    have hs : Same (Gr S w1 w2) (w3.alloc _) w4 := Same.of_grown hg4 (fun b h => by have := hI b h; simp; omega) (fun b e h => by have := (hown.lt _ e).1; rcases h with h | h; exact absurd (hS _ h) (by omega); omega)
    refine StrsAt.mono (S := Gr S w1 w2) ?_ (fun b h => by rcases h with h | h; exact .inl h; exact Gr.new (by omega) (by simp only [World.size_setCell]; omega))
    exact (hp3.below ((Below.refl _ _).alloc (Nat.le_refl _) _)).same ((hs.set1 nA).set4 nR)
  · refine PWsAt.mono (S := fun b => w2.heap.size ≤ b ∧ b < w4.heap.size) ?_ (fun b h => Gr.new (by omega) (by simp only [World.size_setCell]; omega))
    exact (PWsAt.of_row (l := d.cache ++ [⟨i, data⟩]) (by rw [cellsPW_app]; exact hr4)).same (((Same.refl _ _).set1 (b := w.heap.size) (by omega)).set4 (b := w.heap.size + 1) (by omega))
  · exact below_set4 (b := w.heap.size + 1) (below_set1 (b := w.heap.size) hB4 (Nat.le_refl _)) (by omega)

set_option maxHeartbeats 1000000 in
theorem disk_write_lost (d : Dsk) (v : Value) (i : Int) (data : ByteArray) (w : World) {S : Nat → Prop} (hS : InS S w) (hD : DskR S w v d) (_hd : data.size ≤ 140737488351232) (_hn : d.cache.length ≤ 1000000) (hz : (chk d != 0) = false) (g1 : decide (i < 0) = false) (g2 : decide ((d.pages.length : Int) ≤ i) = false) (g3 : ((data.size : Int) != d.size) = false) (g4 : (d.left == 0) = true) :
    Calls Try.prog 22 #[v, .int .i64 i, .string data] w (RetDE S w d 18) := by
  have hD0 := hD
  obtain ⟨po, pc, co, cc, rfl, hp, hc, ok⟩ := hD
  have ok1 := ok.pages
  have okW := Lib.hid ok
  clear ok hp hc
  obtain ⟨i0, hi, hz0, hz1, hz2⟩ := info_parts infoPW
  have hbw : ∀ o o', Below w.heap.size w ((w.alloc o).alloc o') := fun o o' => ((Below.refl _ _).alloc (Nat.le_refl _) _).alloc (by simp) _
  have hpw : ∀ (W : World) (v : Value), DskR S W v d → Calls Try.prog 32 #[v] W (RetDB S W d false) := fun W v h => by have := disk_power d v W h; rw [if_pos (by simpa using g4), g4] at this; exact this
  go_enter Try.func22, Try.ntmps22
  go_wp2_with fail
  refine (disk_check d _ _ (hD0.below (hbw _ _))).mono ?_
  rintro e w1 ⟨rfl, hb1⟩
  have xA := ((Bx.new w _ _).alloc _).belowAll hb1
  have xR := (Bx.new (w.alloc _) _ _).belowAll hb1
  rw [World.size_alloc] at xR
  have cA := xA.cell
  have fA := xA.free
  have cR := xR.cell
  have fR := xR.free
  have hB : Below w.heap.size w w1 := (hbw _ _).trans (hb1.mono (by simp; omega))
  have hlA := xA.lt
  have hlR := xR.lt
  go_wp2_with fail
  refine (hpw _ _ ((hD0.below (hbw _ _)).below hb1)).mono ?_
  rintro e w2 ⟨v2, rfl, hD2, hb2⟩
  have xA2 := xA.belowAll hb2
  have xR2 := xR.belowAll hb2
  have hB2 : Below w.heap.size w w2 := hB.trans (hb2.mono (by omega))
  clear cA fA cR fR
  have hE2 := hD2
  obtain ⟨po2, pc2, co2, cc2, rfl, hp2, hc2, ok2⟩ := hD2
  have cA := xA2.cell
  have fA := xA2.free
  have cR := xR2.cell
  have fR := xR2.free
  have hlA2 := xA2.lt
  have hlR2 := xR2.lt
  have nA : ¬ Gr S w1 w2 w.heap.size := by rintro (h | h); exact absurd (hS _ h) (by omega); omega
  have nR : ¬ Gr S w1 w2 (w.heap.size + 1) := by rintro (h | h); exact absurd (hS _ h) (by omega); omega
  go_wp2
  refine bodyPost_ret (v := .tuple #[.agg #[.int .i64 d.size, .slice po2 d.pages.length pc2, .slice co2 d.cache.length cc2, .int .i64 d.left], .int .i64 18]) (by simp [results, Try.results22, go_sem, cR]) rfl ?_
  refine ⟨_, rfl, (hE2.same ?_).mono ?_, ?_⟩
  · exact ((Same.refl _ _).set4 nA).set4 nR
  · rintro b (h | h)
    · exact .inl h
    · exact .inr (by simp; omega)
  · exact below_set4 (b := w.heap.size + 1) (below_set4 (b := w.heap.size) hB2 (Nat.le_refl _)) (by omega)

set_option maxHeartbeats 1000000 in
theorem disk_write (d : Dsk) (v : Value) (i : Int) (data : ByteArray) (w : World) {S : Nat → Prop} (hS : InS S w) (hD : DskR S w v d) (hd : data.size ≤ 140737488351232) (hn : d.cache.length ≤ 1000000) :
    Calls Try.prog 22 #[v, .int .i64 i, .string data] w (RetDE S w (writeD d i data).1 (writeD d i data).2) := by
  have hD0 := hD
  obtain ⟨po, pc, co, cc, rfl, hp, hc, ok⟩ := hD
  have ok1 := ok.pages
  have okW := Lib.hid ok
  clear ok hp hc
  obtain ⟨i0, hi, hz0, hz1, hz2⟩ := info_parts infoPW
  have hbw : ∀ o o', Below w.heap.size w ((w.alloc o).alloc o') := fun o o' => ((Below.refl _ _).alloc (Nat.le_refl _) _).alloc (by simp) _
  unfold writeD
  cases hz : (chk d != 0)
  · rw [if_neg (by simpa using hz)]
    cases g1 : decide (i < 0)
    · cases g2 : decide ((d.pages.length : Int) ≤ i)
      · rw [if_neg (by simp at g1 g2; omega)]
        cases g3 : ((data.size : Int) != d.size)
        · rw [if_neg (by simpa using g3)]
          cases g4 : (d.left == 0)
          · rw [if_neg (by simpa using g4)]
            exact disk_write_ok d _ i data w hS hD0 hd hn hz g1 g2 g3 g4
          · rw [if_pos (by simpa using g4)]
            exact disk_write_lost d _ i data w hS hD0 hd hn hz g1 g2 g3 g4
        · rw [if_pos (by simpa using g3)]
          go_enter Try.func22, Try.ntmps22
          go_wp2_with fail
          refine (disk_check d _ _ (hD0.below (hbw _ _))).mono ?_
          rintro e w1 ⟨rfl, hb1⟩
          have xA := ((Bx.new w _ _).alloc _).belowAll hb1
          have xR := (Bx.new (w.alloc _) _ _).belowAll hb1
          rw [World.size_alloc] at xR
          have cA := xA.cell
          have fA := xA.free
          have cR := xR.cell
          have fR := xR.free
          have hB : Below w.heap.size w w1 := (hbw _ _).trans (hb1.mono (by simp; omega))
          have hlA := xA.lt
          have hlR := xR.lt
          go_wp2
          refine bodyPost_ret (v := .tuple #[.agg #[.int .i64 0, .slice none 0 0, .slice none 0 0, .int .i64 0], .int .i64 10]) (by simp [results, Try.results22, go_sem, cR]) rfl ?_
          exact ⟨_, rfl, zero_DskR _, (by repeat (first | exact hB | (refine Below.setCell ?_ (by simp) _) | (refine Below.alloc ?_ (by simp; omega) _) | (refine Below.drewN ?_ _) | (refine Below.drew ?_)))⟩
      · rw [if_pos (by simp at g1 g2; omega)]
        go_enter Try.func22, Try.ntmps22
        go_wp2_with fail
        refine (disk_check d _ _ (hD0.below (hbw _ _))).mono ?_
        rintro e w1 ⟨rfl, hb1⟩
        have xA := ((Bx.new w _ _).alloc _).belowAll hb1
        have xR := (Bx.new (w.alloc _) _ _).belowAll hb1
        rw [World.size_alloc] at xR
        have cA := xA.cell
        have fA := xA.free
        have cR := xR.cell
        have fR := xR.free
        have hB : Below w.heap.size w w1 := (hbw _ _).trans (hb1.mono (by simp; omega))
        have hlA := xA.lt
        have hlR := xR.lt
        go_wp2
        refine bodyPost_ret (v := .tuple #[.agg #[.int .i64 0, .slice none 0 0, .slice none 0 0, .int .i64 0], .int .i64 2]) (by simp [results, Try.results22, go_sem, cR]) rfl ?_
        exact ⟨_, rfl, zero_DskR _, (by repeat (first | exact hB | (refine Below.setCell ?_ (by simp) _) | (refine Below.alloc ?_ (by simp; omega) _) | (refine Below.drewN ?_ _) | (refine Below.drew ?_)))⟩
    · rw [if_pos (by simp at g1; omega)]
      go_enter Try.func22, Try.ntmps22
      go_wp2_with fail
      refine (disk_check d _ _ (hD0.below (hbw _ _))).mono ?_
      rintro e w1 ⟨rfl, hb1⟩
      have xA := ((Bx.new w _ _).alloc _).belowAll hb1
      have xR := (Bx.new (w.alloc _) _ _).belowAll hb1
      rw [World.size_alloc] at xR
      have cA := xA.cell
      have fA := xA.free
      have cR := xR.cell
      have fR := xR.free
      have hB : Below w.heap.size w w1 := (hbw _ _).trans (hb1.mono (by simp; omega))
      have hlA := xA.lt
      have hlR := xR.lt
      go_wp2
      refine bodyPost_ret (v := .tuple #[.agg #[.int .i64 0, .slice none 0 0, .slice none 0 0, .int .i64 0], .int .i64 2]) (by simp [results, Try.results22, go_sem, cR]) rfl ?_
      exact ⟨_, rfl, zero_DskR _, (by repeat (first | exact hB | (refine Below.setCell ?_ (by simp) _) | (refine Below.alloc ?_ (by simp; omega) _) | (refine Below.drewN ?_ _) | (refine Below.drew ?_)))⟩
  · rw [if_pos (by simpa using hz)]
    go_enter Try.func22, Try.ntmps22
    go_wp2_with fail
    refine (disk_check d _ _ (hD0.below (hbw _ _))).mono ?_
    rintro e w1 ⟨rfl, hb1⟩
    have xA := ((Bx.new w _ _).alloc _).belowAll hb1
    have xR := (Bx.new (w.alloc _) _ _).belowAll hb1
    rw [World.size_alloc] at xR
    have cA := xA.cell
    have fA := xA.free
    have cR := xR.cell
    have fR := xR.free
    have hB : Below w.heap.size w w1 := (hbw _ _).trans (hb1.mono (by simp; omega))
    have hlA := xA.lt
    have hlR := xR.lt
    go_wp2
    refine bodyPost_ret (v := .tuple #[.agg #[.int .i64 0, .slice none 0 0, .slice none 0 0, .int .i64 0], .int .i64 1]) (by simp [results, Try.results22, go_sem, cR]) rfl ?_
    exact ⟨_, rfl, zero_DskR _, (by repeat (first | exact hB | (refine Below.setCell ?_ (by simp) _) | (refine Below.alloc ?_ (by simp; omega) _) | (refine Below.drewN ?_ _) | (refine Below.drew ?_)))⟩

end Go.Proofs.Ytjbcagijfodfgaa
