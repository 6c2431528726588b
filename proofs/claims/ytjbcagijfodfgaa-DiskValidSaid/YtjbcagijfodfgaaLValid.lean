/- law DiskValid: the walk. -/
import Derived.Test.YtjbcagijfodfgaaLV
namespace Go.Proofs.Ytjbcagijfodfgaa
open Go.RowKit

def ValidStep (d X : Dsk) : Prop := X.pages.length = 0 ∨ (chk d = 0 ∧ chk X = 0 ∧ X.pages.length = d.pages.length ∧ X.size = d.size ∧ 0 < X.pages.length)
theorem pages_pos {d : Dsk} (h : chk d = 0) : 0 < d.pages.length := by have := rangedB_true (chk_zero h).1; omega
theorem valid_write (d : Dsk) (i : Int) (data : ByteArray) {A : Dsk} {ea : Int} (h : writeD d i data = (A, ea)) : ValidStep d A ∧ ((0 < A.pages.length ∧ ((ea == 0) = true ∨ (ea == 0) = false ∧ (ea == 18) = true)) ∨ (A.pages.length = 0 ∧ (ea == 0) = false ∧ (ea == 18) = false)) := by
  have hc := write_cases d i data
  rw [h] at hc
  rcases hc with ⟨h1, h2, h3⟩ | ⟨g0, g1, g2, g3, ⟨h1, _, h2⟩ | ⟨h1, g4, h2⟩⟩
  · have h1 : ea ≠ 0 := h1
    have h2 : ea ≠ 18 := h2
    have h3 : A = zeroD := h3
    subst h3
    exact ⟨.inl rfl, .inr ⟨rfl, by simpa using h1, by simpa using h2⟩⟩
  · have h1 : ea = 18 := h1
    have h2 : A = d := h2
    subst h1; subst h2
    exact ⟨.inr ⟨g0, g0, rfl, rfl, pages_pos g0⟩, .inl ⟨pages_pos g0, .inr ⟨rfl, rfl⟩⟩⟩
  · have h1 : ea = 0 := h1
    have h2 : A = { opD d with cache := d.cache ++ [⟨i, data⟩] } := h2
    have gp := pages_pos g0
    subst h1; subst h2
    exact ⟨.inr ⟨g0, write_chk g0 g1 g2 g3, rfl, rfl, gp⟩, .inl ⟨gp, .inl rfl⟩⟩
theorem valid_flush (d : Dsk) {A : Dsk} {ea : Int} (h : flushD d = (A, ea)) : ValidStep d A ∧ ((chk d = 0 ∧ 0 < A.pages.length ∧ ((ea == 0) = true ∨ (ea == 0) = false ∧ (ea == 18) = true)) ∨ (chk d ≠ 0 ∧ A.pages.length = 0 ∧ (ea == 0) = false ∧ (ea == 18) = false)) := by
  have hc := flush_cases d
  rw [h] at hc
  rcases hc with ⟨h1, g, h3⟩ | ⟨h1, g0, _, h2⟩ | ⟨h1, g0, _, h2⟩
  · have h1 : ea = 1 := h1
    have h3 : A = zeroD := h3
    subst h3; subst h1
    exact ⟨.inl rfl, .inr ⟨g, rfl, rfl, rfl⟩⟩
  · have h1 : ea = 18 := h1
    have h2 : A = d := h2
    subst h1; subst h2
    exact ⟨.inr ⟨g0, g0, rfl, rfl, pages_pos g0⟩, .inl ⟨g0, pages_pos g0, .inr ⟨rfl, rfl⟩⟩⟩
  · have h1 : ea = 0 := h1
    have h2 : A = ⟨d.size, contentsD d, [], (opD d).left⟩ := h2
    subst h1; subst h2
    have hp : 0 < (contentsD d).length := by rw [contentsD_len]; exact pages_pos g0
    exact ⟨.inr ⟨g0, flush_chk g0 _ (opD_left (chk_zero g0).2.2.2), contentsD_len d, rfl, hp⟩, .inl ⟨g0, hp, .inl rfl⟩⟩
theorem valid_crash (d : Dsk) (picks : List Int) {A : Dsk} (h : crashD d picks = A) : ValidStep d A ∧ ((chk d = 0 ∧ 0 < A.pages.length) ∨ (chk d ≠ 0 ∧ A.pages.length = 0)) := by
  by_cases g : chk d = 0
  · have hp : 0 < A.pages.length := by rw [← h, crash_len g]; exact pages_pos g
    exact ⟨.inr ⟨g, by rw [← h]; exact crash_chk g picks, by rw [← h]; exact crash_len g picks, by rw [← h]; exact crash_size g picks, hp⟩, .inl ⟨g, hp⟩⟩
  · have : A = zeroD := by rw [← h]; unfold crashD; rw [if_pos g]
    subst this
    exact ⟨.inl rfl, .inr ⟨g, rfl⟩⟩

set_option maxRecDepth 100000 in
set_option maxHeartbeats 8000000 in
theorem law40_valid_walk (w : World) (d : Dsk) (v : Value) (hD : DskV w v d) (i : Int) (data : ByteArray) (hd : data.size ≤ 140737488351232) (picks : List Int) (qo : Option Addr) (qc : Nat) (hq : IntsAt (· < w.heap.size) w qo picks)
    (hg : greatW d.pages d.cache = false) (hm : decide ((600 : Int) < (data.size : Int)) = false) (hl : decide ((30 : Int) < (picks.length : Int)) = false) :
    Calls Try.prog 10 #[v, .int .i64 i, .string data, .slice qo picks.length qc] w fun e w' => e = .returned (.bool true) ∧ Below w.heap.size w w' := by
  have hD0 := hD
  obtain ⟨po, pc, co, cc, rfl⟩ := hD.agg
  have okp : d.pages.length ≤ 140737488351232 := by obtain ⟨_, _, _, _, _, _, _, ok⟩ := hD; exact ok.pages
  clear hD
  have hl' := of_decide_eq_false hl
  have hg' := great_false hg
  obtain ⟨A, ea, eA⟩ : ∃ A ea, writeD d i data = (A, ea) := ⟨_, _, rfl⟩
  obtain ⟨F, ef, eF⟩ : ∃ F ef, flushD d = (F, ef) := ⟨_, _, rfl⟩
  obtain ⟨C, eC⟩ : ∃ C, crashD d picks = C := ⟨_, rfl⟩
  have KA := Lib.hid (valid_write d i data eA)
  have KF := Lib.hid (valid_flush d eF)
  have KC := Lib.hid (valid_crash d picks eC)
  have EA := Lib.hid eA
  have EF := Lib.hid eF
  have EC := Lib.hid eC
  clear eA eF eC
  obtain ⟨c, hc⟩ : ∃ c, chk d = c := ⟨_, rfl⟩
  have hch := Lib.hid hc
  clear hc
  obtain ⟨cb, hcv⟩ : ∃ cb, (c == 0) = cb := ⟨_, rfl⟩
  go_enter Try.func10, Try.ntmps10
  go_wp2_with fail
  refine (v_great d _ _ (hD0.below (Below.one _ _)) hg).mono ?_
  rintro e w1 ⟨rfl, hb1⟩
  have x1 := (Bx.new w _ _).belowAll hb1
  have hB1 : Below w.heap.size w w1 := Below.then (Below.one _ _) hb1 (by simp)
  have z1 := hB1.size
  have cX := x1.cell
  have lX := x1.lt
  go_wp2_with fail
  refine (v_write d _ i data _ (hD0.below hB1) hd (by omega) EA.out).mono ?_
  rintro e w2 ⟨v2, rfl, hN2, hb2⟩
  have x2 := x1.belowAll hb2
  have hB2 := Below.then hB1 hb2 z1
  have z2 := hB2.size
  clear x1 cX lX
  have hM2 := hN2
  obtain ⟨po2, pc2, co2, cc2, rfl⟩ := hN2.agg
  have cX := x2.cell
  have lX := x2.lt
  go_wp2_with fail
  refine (v_flush d _ _ ((hD0.below hB2).below (Below.one _ _)) EF.out).mono ?_
  rintro e w3 ⟨v3, rfl, hN3, hb3⟩
  have x3 := (x2.alloc _).belowAll hb3
  have a3 := (Bx.new w2 _ _).belowAll hb3
  have hB3 := Below.then (hB2.alloc z2 _) hb3 (by simp; omega)
  have z3 := hB3.size
  have hA3 := (hM2.below (Below.one _ _)).below hb3
  clear x2 cX lX hM2 hN2
  have hM3 := hN3
  obtain ⟨po3, pc3, co3, cc3, rfl⟩ := hN3.agg
  have cX := x3.cell
  have lX := x3.lt
  go_wp2_with fail
  refine (v_crash d _ picks qo qc _ ((hD0.below hB3).below (Below.one _ _)) ((hq.below hB3).below (Below.one _ _)) (by omega) (by omega) EC.out).mono ?_
  rintro e w4 ⟨v4, rfl, hN4, hb4⟩
  have x4 := (x3.alloc _).belowAll hb4
  have a4 := (a3.alloc _).belowAll hb4
  have f4 := (Bx.new w3 _ _).belowAll hb4
  have hB4 := Below.then (hB3.alloc z3 _) hb4 (by simp; omega)
  have z4 := hB4.size
  have hA4 := (hA3.below (Below.one _ _)).below hb4
  have hF4 := (hM3.below (Below.one _ _)).below hb4
  clear x3 a3 cX lX hM3 hN3 hA3
  have hM4 := hN4
  obtain ⟨po4, pc4, co4, cc4, rfl⟩ := hN4.agg
  have cX := x4.cell
  have lX := x4.lt
  go_wp2_with fail
  refine (v_check d _ _ ((hD0.below hB4).below (Below.one _ _)) hch.out).mono ?_
  rintro e w5 ⟨rfl, hb5⟩
  have x5 := (x4.alloc _).belowAll hb5
  have a5 := (a4.alloc _).belowAll hb5
  have f5 := (f4.alloc _).belowAll hb5
  have c5 := (Bx.new w4 _ _).belowAll hb5
  have hB5 := Below.then (hB4.alloc z4 _) hb5 (by simp; omega)
  have z5 := hB5.size
  have hA5 := (hA4.below (Below.one _ _)).below hb5
  have hF5 := (hF4.below (Below.one _ _)).below hb5
  have hC5 := (hM4.below (Below.one _ _)).below hb5
  clear x4 a4 f4 cX lX hM4 hN4 hA4 hF4
  have cX := x5.cell
  have lX := x5.lt
  have cA := a5.cell
  have lA := a5.lt
  have cF := f5.cell
  have lF := f5.lt
  have cC := c5.cell
  have lC := c5.lt
  go_wp2
  have x6 := x5.alloc (.cells #[.int .i64 A.size, .slice po2 A.pages.length pc2, .slice co2 A.cache.length cc2, .int .i64 A.left, .int .i64 F.size, .slice po3 F.pages.length pc3, .slice co3 F.cache.length cc3, .int .i64 F.left, .int .i64 C.size, .slice po4 C.pages.length pc4, .slice co4 C.cache.length cc4, .int .i64 C.left] 25)
  have a6 := a5.alloc (.cells #[.int .i64 A.size, .slice po2 A.pages.length pc2, .slice co2 A.cache.length cc2, .int .i64 A.left, .int .i64 F.size, .slice po3 F.pages.length pc3, .slice co3 F.cache.length cc3, .int .i64 F.left, .int .i64 C.size, .slice po4 C.pages.length pc4, .slice co4 C.cache.length cc4, .int .i64 C.left] 25)
  have f6 := f5.alloc (.cells #[.int .i64 A.size, .slice po2 A.pages.length pc2, .slice co2 A.cache.length cc2, .int .i64 A.left, .int .i64 F.size, .slice po3 F.pages.length pc3, .slice co3 F.cache.length cc3, .int .i64 F.left, .int .i64 C.size, .slice po4 C.pages.length pc4, .slice co4 C.cache.length cc4, .int .i64 C.left] 25)
  have c6 := c5.alloc (.cells #[.int .i64 A.size, .slice po2 A.pages.length pc2, .slice co2 A.cache.length cc2, .int .i64 A.left, .int .i64 F.size, .slice po3 F.pages.length pc3, .slice co3 F.cache.length cc3, .int .i64 F.left, .int .i64 C.size, .slice po4 C.pages.length pc4, .slice co4 C.cache.length cc4, .int .i64 C.left] 25)
  have s6 := Bx.new w5 #[.int .i64 A.size, .slice po2 A.pages.length pc2, .slice co2 A.cache.length cc2, .int .i64 A.left, .int .i64 F.size, .slice po3 F.pages.length pc3, .slice co3 F.cache.length cc3, .int .i64 F.left, .int .i64 C.size, .slice po4 C.pages.length pc4, .slice co4 C.cache.length cc4, .int .i64 C.left] 25
  have hA6 := hA5.below (Below.one w5 (.cells #[.int .i64 A.size, .slice po2 A.pages.length pc2, .slice co2 A.cache.length cc2, .int .i64 A.left, .int .i64 F.size, .slice po3 F.pages.length pc3, .slice co3 F.cache.length cc3, .int .i64 F.left, .int .i64 C.size, .slice po4 C.pages.length pc4, .slice co4 C.cache.length cc4, .int .i64 C.left] 25))
  have hF6 := hF5.below (Below.one w5 (.cells #[.int .i64 A.size, .slice po2 A.pages.length pc2, .slice co2 A.cache.length cc2, .int .i64 A.left, .int .i64 F.size, .slice po3 F.pages.length pc3, .slice co3 F.cache.length cc3, .int .i64 F.left, .int .i64 C.size, .slice po4 C.pages.length pc4, .slice co4 C.cache.length cc4, .int .i64 C.left] 25))
  have hC6 := hC5.below (Below.one w5 (.cells #[.int .i64 A.size, .slice po2 A.pages.length pc2, .slice co2 A.cache.length cc2, .int .i64 A.left, .int .i64 F.size, .slice po3 F.pages.length pc3, .slice co3 F.cache.length cc3, .int .i64 F.left, .int .i64 C.size, .slice po4 C.pages.length pc4, .slice co4 C.cache.length cc4, .int .i64 C.left] 25))
  have hB6 := hB5.alloc z5 (.cells #[.int .i64 A.size, .slice po2 A.pages.length pc2, .slice co2 A.cache.length cc2, .int .i64 A.left, .int .i64 F.size, .slice po3 F.pages.length pc3, .slice co3 F.cache.length cc3, .int .i64 F.left, .int .i64 C.size, .slice po4 C.pages.length pc4, .slice co4 C.cache.length cc4, .int .i64 C.left] 25)
  clear cX lX cA lA cF lF cC lC x5 a5 f5 c5 hA5 hF5 hC5
  generalize w5.alloc (.cells #[.int .i64 A.size, .slice po2 A.pages.length pc2, .slice co2 A.cache.length cc2, .int .i64 A.left, .int .i64 F.size, .slice po3 F.pages.length pc3, .slice co3 F.cache.length cc3, .int .i64 F.left, .int .i64 C.size, .slice po4 C.pages.length pc4, .slice co4 C.cache.length cc4, .int .i64 C.left] 25) = w6 at *
  go_loopw [53] (fun t wr => (t = .int .i64 0 ∨ t = .int .i64 1 ∨ t = .int .i64 2 ∨ t = .int .i64 3) ∧ Below w.heap.size w wr ∧ Bx wr w.heap.size #[.int .i64 d.size, .slice po d.pages.length pc, .slice co d.cache.length cc, .int .i64 d.left] 25 ∧ Bx wr w2.heap.size #[.int .i64 A.size, .slice po2 A.pages.length pc2, .slice co2 A.cache.length cc2, .int .i64 A.left] 25 ∧ Bx wr w3.heap.size #[.int .i64 F.size, .slice po3 F.pages.length pc3, .slice co3 F.cache.length cc3, .int .i64 F.left] 25 ∧ Bx wr w4.heap.size #[.int .i64 C.size, .slice po4 C.pages.length pc4, .slice co4 C.cache.length cc4, .int .i64 C.left] 25 ∧ Bx wr w5.heap.size #[.int .i64 A.size, .slice po2 A.pages.length pc2, .slice co2 A.cache.length cc2, .int .i64 A.left, .int .i64 F.size, .slice po3 F.pages.length pc3, .slice co3 F.cache.length cc3, .int .i64 F.left, .int .i64 C.size, .slice po4 C.pages.length pc4, .slice co4 C.cache.length cc4, .int .i64 C.left] 25 ∧
    DskV wr (.agg #[.int .i64 A.size, .slice po2 A.pages.length pc2, .slice co2 A.cache.length cc2, .int .i64 A.left]) A ∧ DskV wr (.agg #[.int .i64 F.size, .slice po3 F.pages.length pc3, .slice co3 F.cache.length cc3, .int .i64 F.left]) F ∧ DskV wr (.agg #[.int .i64 C.size, .slice po4 C.pages.length pc4, .slice co4 C.cache.length cc4, .int .i64 C.left]) C) (fun t _ => 3 - (intOf t).toNat)
  case atStart => exact ⟨.inl rfl, hB6, x6, a6, f6, c6, s6, hA6, hF6, hC6⟩
  case round =>
    clear hB6 x6 a6 f6 c6 s6 hA6 hF6 hC6
    obtain ⟨hk3, hb, xL, x2, x3, x4, xS, hA, hF, hC⟩ := hrel
    have hzb := hb.size
    have cX := xL.cell
    have lX := xL.lt
    have cA := x2.cell
    have lA := x2.lt
    have cF := x3.cell
    have lF := x3.lt
    have cC := x4.cell
    have lC := x4.lt
    have cS := xS.cell
    have lS := xS.lt
    rcases hk3 with rfl | rfl | rfl | rfl
    · have hS := KA.out.1
      rcases hS with h0 | ⟨h0, h1, h2, h3, h4⟩
      · have hp : decide (0 < A.pages.length) = false := by rw [h0]; rfl
        clear h0
        go_wp2
        go_roundw
        case rel => exact ⟨.inr (.inl rfl), hb.alloc hzb _, xL.alloc _, x2.alloc _, x3.alloc _, x4.alloc _, xS.alloc _, hA.below (Below.one _ _), hF.below (Below.one _ _), hC.below (Below.one _ _)⟩
        case measure => simp [intOf]
      · have hp : decide (0 < A.pages.length) = true := decide_eq_true h4
        have hcb : cb = true := by rw [← hcv, ← hch.out, h0]; rfl
        subst hcb
        have hpl : ((A.pages.length : Int) != (d.pages.length : Int)) = false := by rw [h2]; simp
        have hps : (A.size != d.size) = false := by rw [h3]; simp
        have H1 := Lib.hid h1
        clear h0 h1 h2 h3 h4
        go_wp2_with fail
        refine (v_check A _ _ (hA.below (Below.one _ _)) H1.out).mono ?_
        rintro e t1 ⟨rfl, hr0⟩
        have hr1 := Below.then (Below.one wr _) hr0 (by simp)
        obtain ⟨q1, _⟩ := bcell hr1
        have xB := (Bx.new wr _ _).belowAll hr0
        have cB := xB.cell
        have lB := xB.lt
        go_wp2
        go_roundw
        case rel => exact ⟨.inr (.inl rfl), Below.then hb hr1 hzb, xL.belowAll hr1, x2.belowAll hr1, x3.belowAll hr1, x4.belowAll hr1, xS.belowAll hr1, hA.below hr1, hF.below hr1, hC.below hr1⟩
        case measure => simp [intOf]
    · have hS := KF.out.1
      rcases hS with h0 | ⟨h0, h1, h2, h3, h4⟩
      · have hp : decide (0 < F.pages.length) = false := by rw [h0]; rfl
        clear h0
        go_wp2
        go_roundw
        case rel => exact ⟨.inr (.inr (.inl rfl)), hb.alloc hzb _, xL.alloc _, x2.alloc _, x3.alloc _, x4.alloc _, xS.alloc _, hA.below (Below.one _ _), hF.below (Below.one _ _), hC.below (Below.one _ _)⟩
        case measure => simp [intOf]
      · have hp : decide (0 < F.pages.length) = true := decide_eq_true h4
        have hcb : cb = true := by rw [← hcv, ← hch.out, h0]; rfl
        subst hcb
        have hpl : ((F.pages.length : Int) != (d.pages.length : Int)) = false := by rw [h2]; simp
        have hps : (F.size != d.size) = false := by rw [h3]; simp
        have H1 := Lib.hid h1
        clear h0 h1 h2 h3 h4
        go_wp2_with fail
        refine (v_check F _ _ (hF.below (Below.one _ _)) H1.out).mono ?_
        rintro e t1 ⟨rfl, hr0⟩
        have hr1 := Below.then (Below.one wr _) hr0 (by simp)
        obtain ⟨q1, _⟩ := bcell hr1
        have xB := (Bx.new wr _ _).belowAll hr0
        have cB := xB.cell
        have lB := xB.lt
        go_wp2
        go_roundw
        case rel => exact ⟨.inr (.inr (.inl rfl)), Below.then hb hr1 hzb, xL.belowAll hr1, x2.belowAll hr1, x3.belowAll hr1, x4.belowAll hr1, xS.belowAll hr1, hA.below hr1, hF.below hr1, hC.below hr1⟩
        case measure => simp [intOf]
    · have hS := KC.out.1
      rcases hS with h0 | ⟨h0, h1, h2, h3, h4⟩
      · have hp : decide (0 < C.pages.length) = false := by rw [h0]; rfl
        clear h0
        go_wp2
        go_roundw
        case rel => exact ⟨.inr (.inr (.inr rfl)), hb.alloc hzb _, xL.alloc _, x2.alloc _, x3.alloc _, x4.alloc _, xS.alloc _, hA.below (Below.one _ _), hF.below (Below.one _ _), hC.below (Below.one _ _)⟩
        case measure => simp [intOf]
      · have hp : decide (0 < C.pages.length) = true := decide_eq_true h4
        have hcb : cb = true := by rw [← hcv, ← hch.out, h0]; rfl
        subst hcb
        have hpl : ((C.pages.length : Int) != (d.pages.length : Int)) = false := by rw [h2]; simp
        have hps : (C.size != d.size) = false := by rw [h3]; simp
        have H1 := Lib.hid h1
        clear h0 h1 h2 h3 h4
        go_wp2_with fail
        refine (v_check C _ _ (hC.below (Below.one _ _)) H1.out).mono ?_
        rintro e t1 ⟨rfl, hr0⟩
        have hr1 := Below.then (Below.one wr _) hr0 (by simp)
        obtain ⟨q1, _⟩ := bcell hr1
        have xB := (Bx.new wr _ _).belowAll hr0
        have cB := xB.cell
        have lB := xB.lt
        go_wp2
        go_roundw
        case rel => exact ⟨.inr (.inr (.inr rfl)), Below.then hb hr1 hzb, xL.belowAll hr1, x2.belowAll hr1, x3.belowAll hr1, x4.belowAll hr1, xS.belowAll hr1, hA.below hr1, hF.below hr1, hC.below hr1⟩
        case measure => simp [intOf]
    · have hA1 := KA.out.1
      have hA3 := KA.out.2
      have hF3 := KF.out.2
      have hC3 := KC.out.2
      rcases hC3 with ⟨k0, k1⟩ | ⟨k0, k1⟩
      · have hcb : cb = true := by rw [← hcv, ← hch.out, k0]; rfl
        subst hcb
        rcases hF3 with ⟨_, f1, f2⟩ | ⟨f0, _⟩
        · have pC := decide_eq_true k1
          have pF := decide_eq_true f1
          clear hA1 k0 k1 f1
          rcases hA3 with ⟨a1, a2 | ⟨a2, a3⟩⟩ | ⟨a1, a2, a3⟩
          · have pA := decide_eq_true a1
            clear a1
            rcases f2 with f2 | ⟨f2, f3⟩
            all_goals
              go_wp2_with fail
              refine (law40_awake _).mono ?_
              rintro e w9 ⟨rfl, hb9⟩
              go_wp2
              go_ret
              exact ⟨rfl, Below.then hb hb9 hzb⟩
          · have pA := decide_eq_true a1
            clear a1
            rcases f2 with f2 | ⟨f2, f3⟩
            all_goals
              go_wp2_with fail
              refine (law40_awake _).mono ?_
              rintro e w9 ⟨rfl, hb9⟩
              go_wp2
              go_ret
              exact ⟨rfl, Below.then hb hb9 hzb⟩
          · have pA : decide (0 < A.pages.length) = false := by rw [a1]; rfl
            clear a1
            rcases f2 with f2 | ⟨f2, f3⟩
            all_goals
              go_wp2_with fail
              refine (law40_awake _).mono ?_
              rintro e w9 ⟨rfl, hb9⟩
              go_wp2
              go_ret
              exact ⟨rfl, Below.then hb hb9 hzb⟩
        · exact absurd k0 f0
      · have hcb : cb = false := by rw [← hcv, ← hch.out]; simpa using k0
        subst hcb
        rcases hF3 with ⟨f0, _⟩ | ⟨_, f1, f2, f3⟩
        · exact absurd f0 k0
        · rcases hA3 with ⟨a1, _⟩ | ⟨a1, a2, a3⟩
          · rcases hA1 with h | ⟨h, _⟩
            · omega
            · exact absurd h k0
          · have pA : decide (0 < A.pages.length) = false := by rw [a1]; rfl
            have pF : decide (0 < F.pages.length) = false := by rw [f1]; rfl
            clear a1 f1 k1 k0 hA1
            go_wp2_with fail
            refine (law40_awake _).mono ?_
            rintro e w9 ⟨rfl, hb9⟩
            go_wp2
            go_ret
            exact ⟨rfl, Below.then hb hb9 hzb⟩

set_option maxRecDepth 100000 in
set_option maxHeartbeats 4000000 in
theorem law40_valid (w : World) (d : Dsk) (v : Value) (hD : DskV w v d) (i : Int) (data : ByteArray) (hd : data.size ≤ 140737488351232) (picks : List Int) (qo : Option Addr) (qc : Nat) (hq : IntsAt (· < w.heap.size) w qo picks) (_hql : picks.length * 8 ≤ 140737488351232) (_hpw : ∀ x ∈ picks, -9223372036854775808 ≤ x ∧ x ≤ 9223372036854775807) :
    Calls Try.prog 10 #[v, .int .i64 i, .string data, .slice qo picks.length qc] w fun e w' => e = .returned (.bool true) ∧ Below w.heap.size w w' := by
  have hD0 := hD
  obtain ⟨po, pc, co, cc, rfl⟩ := hD.agg
  cases hg : greatW d.pages d.cache
  · cases hm : decide ((600 : Int) < (data.size : Int))
    · cases hl : decide ((30 : Int) < (picks.length : Int))
      · exact law40_valid_walk w d _ hD i data hd picks qo qc hq hg hm hl
      · clear hD
        go_enter Try.func10, Try.ntmps10
        go_wp2_with fail
        refine (v_great d _ _ (hD0.below (Below.one _ _)) hg).mono ?_
        rintro e w1 ⟨rfl, hb1⟩
        go_wp2_with fail
        refine (law40_awake _).mono ?_
        rintro e w2 ⟨rfl, hb2⟩
        go_wp2
        go_ret
        exact ⟨rfl, Below.then (Below.then (Below.one _ _) hb1 (by simp)) hb2 (by have := hb1.size; simp at this; omega)⟩
    · clear hD
      go_enter Try.func10, Try.ntmps10
      go_wp2_with fail
      refine (v_great d _ _ (hD0.below (Below.one _ _)) hg).mono ?_
      rintro e w1 ⟨rfl, hb1⟩
      go_wp2_with fail
      refine (law40_awake _).mono ?_
      rintro e w2 ⟨rfl, hb2⟩
      go_wp2
      go_ret
      exact ⟨rfl, Below.then (Below.then (Below.one _ _) hb1 (by simp)) hb2 (by have := hb1.size; simp at this; omega)⟩
  · clear hD
    go_enter Try.func10, Try.ntmps10
    go_wp2_with fail
    refine (v_great d _ _ (hD0.below (Below.one _ _)) hg).mono ?_
    rintro e w1 ⟨rfl, hb1⟩
    go_wp2_with fail
    refine (law40_awake _).mono ?_
    rintro e w2 ⟨rfl, hb2⟩
    go_wp2
    go_ret
    exact ⟨rfl, Below.then (Below.then (Below.one _ _) hb1 (by simp)) hb2 (by have := hb1.size; simp at this; omega)⟩
end Go.Proofs.Ytjbcagijfodfgaa
