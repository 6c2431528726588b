/- quiltref48.Run. -/
import Derived.Test.YtebgopdmeghmhaaGreatRfSorted
import Derived.Test.YtebgopdmeghmhaaGreatRcRunW
import Derived.Test.YtebgopdmeghmhaaGreatRfAns
namespace Go.Proofs.YtebgopdmeghmhaaGreat
open Go.RowKit

set_option maxRecDepth 100000 in
set_option maxHeartbeats 8000000 in
theorem rf_Run {S1 S2 : Nat → Prop} (w : World) (va vb : Value) (a b : List (List UInt8)) (h : DigR S1 w va a) (h2 : DigR S2 w vb b) (la : a.length ≤ 60) (lb : b.length ≤ 60) :
    Calls Tryz.prog 6 #[va, vb] w (RunP w (runR a b)) := by
  obtain ⟨oa, ca, rfl⟩ : ∃ o c, va = .slice o a.length c := by obtain ⟨⟨o, c, e, _⟩, _⟩ := h; rw [digC_size] at e; exact ⟨o, c, e⟩
  obtain ⟨ob, cb, rfl⟩ : ∃ o c, vb = .slice o b.length c := by obtain ⟨⟨o, c, e, _⟩, _⟩ := h2; rw [digC_size] at e; exact ⟨o, c, e⟩
  have Hasa := Lib.hid (fun W (hW : Below w.heap.size w W) => rf_ascending W _ a (h.below hW) (by omega))
  have Hasb := Lib.hid (fun W (hW : Below w.heap.size w W) => rf_ascending W _ b (h2.below hW) (by omega))
  have HDa := Lib.hid h.lt
  have HDb := Lib.hid h2
  have da := Lib.hid h.2
  have db := Lib.hid h2.2
  obtain ⟨idg, hidg, hzd, hsd, hbyd⟩ := info_parts infoDg
  have Hi := Lib.hid (And.intro hidg (And.intro hzd (And.intro hsd hbyd)))
  have hB0 : Below w.heap.size w ((w.alloc (.cells #[] 39)).alloc (.cells #[] 39)) := (Below.one w _).alloc (by simp) _
  have HM0 : Hid (Mr ((w.alloc (.cells #[] 39)).alloc (.cells #[] 39)) w.heap.size (.slice (some ⟨w.heap.size, 0, none⟩) 0 0) (.slice (some ⟨w.heap.size + 1, 0, none⟩) 0 0) [] []) := Lib.hid
    ⟨⟨ownsRow_bx0 (base := w.heap.size) (size := 32) ((Bx.new w #[] 39).alloc (.cells #[] 39)) (Nat.le_refl _), fun _ h => by cases h⟩,
      ⟨ownsRow_bx0 (base := w.heap.size) (size := 32) (Bx.newAt (w.alloc (.cells #[] 39)) #[] 39 (w.heap.size + 1) (by simp)) (by omega), fun _ h => by cases h⟩,
      (fun k e e2 => by simp [Value.ownBlock] at e e2; omega), by simp; omega⟩
  obtain ⟨na, hna⟩ : ∃ n, a.length = n := ⟨_, rfl⟩
  obtain ⟨nb, hnb⟩ : ∃ n, b.length = n := ⟨_, rfl⟩
  have Hna := Lib.hid hna
  have Hnb := Lib.hid hnb
  have Hla := Lib.hid la
  have Hlb := Lib.hid lb
  rw [hna] at Hasa HDa ⊢
  rw [hnb] at Hasb HDb ⊢
  clear h h2 hidg hzd hsd hbyd hna hnb la lb
  go_enter Tryz.func6, Tryz.ntmps6
  go_wp2_with fail
  generalize (w.alloc (.cells #[] 39)).alloc (.cells #[] 39) = w0 at *
  cases hxa : ascB a
  · rw [hxa] at Hasa
    have Hres : Hid (runR a b = ([], [], 0)) := Lib.hid (by unfold runR; rw [hxa]; rfl)
    refine (Hasa.out w0 hB0).mono ?_
    rintro e w1 ⟨rfl, hb1⟩
    have HM1 := Lib.hid (HM0.out.below hb1)
    have hB1 := Below.then hB0 hb1 hB0.size
    go_wp2
    rw [Hres.out]
    exact bodyPost_ret (v := .tuple #[.slice (some ⟨w.heap.size, 0, none⟩) 0 0, .slice (some ⟨w.heap.size + 1, 0, none⟩) 0 0, .int .i64 0]) (by simp [results, Tryz.results6, go_sem]) rfl ⟨_, _, rfl, HM1.out.a.dig, HM1.out.b.dig, hB1⟩
  · rw [hxa] at Hasa
    refine (Hasa.out w0 hB0).mono ?_
    rintro e w1 ⟨rfl, hb1⟩
    have hBx := Below.then hB0 hb1 hB0.size
    have HMx := Lib.hid (HM0.out.below hb1)
    clear Hasa HM0 hB0 hb1
    cases hxb : ascB b
    · rw [hxb] at Hasb
      have Hres : Hid (runR a b = ([], [], 0)) := Lib.hid (by unfold runR; rw [hxa, hxb]; rfl)
      go_wp2_with fail
      refine (Hasb.out w1 hBx).mono ?_
      rintro e w2 ⟨rfl, hb2⟩
      have HM1 := Lib.hid (HMx.out.below hb2)
      have hB1 := Below.then hBx hb2 hBx.size
      go_wp2
      rw [Hres.out]
      exact bodyPost_ret (v := .tuple #[.slice (some ⟨w.heap.size, 0, none⟩) 0 0, .slice (some ⟨w.heap.size + 1, 0, none⟩) 0 0, .int .i64 0]) (by simp [results, Tryz.results6, go_sem]) rfl ⟨_, _, rfl, HM1.out.a.dig, HM1.out.b.dig, hB1⟩
    · rw [hxb] at Hasb
      have hA := Lib.hid (of_decide_eq_true hxa)
      have hB := Lib.hid (of_decide_eq_true hxb)
      clear hxa hxb
      go_wp2_with fail
      refine (Hasb.out w1 hBx).mono ?_
      rintro e w4 ⟨rfl, hb2⟩
      have HM4 := Lib.hid (HMx.out.below hb2)
      have hB4 := Below.then hBx hb2 hBx.size
      clear hb2 hBx HMx Hasb
      have hst := rf_Start w4 (.slice oa a.length ca) a (by have h1 := HDa.out.below hB4; rw [← Hna.out] at h1; exact h1) (by have := Hla.out; omega)
      rw [Hna.out] at hst
      have Hst := Lib.hid hst
      clear hst
      go_wp2_with fail
      refine Hst.out.mono ?_
      rintro e w5 ⟨lv0, rfl, hR5, hb5⟩
      have hB5 := Below.then hB4 hb5 hB4.size
      have HM5 : Hid (Mr w5 w.heap.size (.slice (some ⟨w.heap.size, 0, none⟩) 0 0) (.slice (some ⟨w.heap.size + 1, 0, none⟩) 0 0) (itR a b 0).m0 (itR a b 0).m1) := Lib.hid (HM4.out.below hb5)
      have HR5 : Hid (RgsR (OffS (.slice (some ⟨w.heap.size, 0, none⟩) 0 0) (.slice (some ⟨w.heap.size + 1, 0, none⟩) 0 0)) w5 lv0 (itR a b 0).l) := Lib.hid (hR5.mono fun q hq => by
        rcases hq with hq | hq
        · exact ⟨fun e => by have := (HM4.out.a.lt e).1; have := hq.2; omega, fun e => by have := (HM4.out.b.lt e).1; have := hq.2; omega⟩
        · exact HM4.out.offN hq.1)
      clear hR5 hb5 hB4 HM4 Hst
      go_wp2_with fail
      go_loopw [7, 8, 9, 10] (fun a7 a8 a9 a10 wr => ∃ (j : Nat) (lv u v : Value), j ≤ 8 ∧ a7 = u ∧ a8 = v ∧ a9 = lv ∧ a10 = .int .i64 ((itR a b j).c : Int) ∧ Hid (RgsR (OffS u v) wr lv (itR a b j).l) ∧ Hid (Mr wr w.heap.size u v (itR a b j).m0 (itR a b j).m1) ∧ Below w.heap.size w wr) (fun _ _ _ a10 _ => 10 - (intOf a10).toNat)
      case atStart => exact ⟨0, lv0, _, _, by omega, rfl, rfl, rfl, rfl, HR5, HM5, hB5⟩
      case round =>
        clear HR5 HM5 hB5
        obtain ⟨j, lv, u, v, hj, h7, h8, h9, rfl, HR, HM, hBr⟩ := hrel
        have h7' := h7.symm
        have h8' := h8.symm
        have h9' := h9.symm
        clear h7 h8 h9
        subst h7' h8' h9'
        obtain ⟨hex, hl512, hcj, hcle⟩ := ex_at hA.out hB.out da.out db.out Hla.out Hlb.out j (by omega)
        by_cases h0 : (itR a b j).l.length = 0
        · obtain ⟨ol, cl, hlv⟩ := HR.out.slice
          subst hlv
          have hmr := run_at hA.out hB.out da.out db.out Hla.out Hlb.out j (by omega) h0
          have hml := m_len hA.out hB.out da.out db.out Hla.out Hlb.out j (by omega)
          have Hml := Lib.hid hml
          have hpos : ¬ (0 : Int) < 0 := by omega
          rw [h0]
          obtain ⟨cc, hcc⟩ : ∃ cc, (itR a b j).c = cc := ⟨_, rfl⟩
          rw [hcc]
          rw [hcc] at hmr
          have Hres := Lib.hid hmr
          clear hcj hex hl512 hcle hmr hml hcc h0 HR
          go_wp2_with fail
          refine (rf_sorted wr u _ HM.out.a.dig (by have := Hml.out; omega)).mono ?_
          rintro e w7 ⟨u7, rfl, hd7, hb7⟩
          have Hd7 := Lib.hid hd7
          have hB7 := Below.then hBr hb7 hBr.size
          have HM7 := Lib.hid (HM.out.below hb7)
          have z7 := hBr.size
          clear hd7 HM
          go_wp2_with fail
          refine (rf_sorted w7 v _ HM7.out.b.dig (by have := Hml.out; omega)).mono ?_
          rintro e w8 ⟨v8, rfl, hd8, hb8⟩
          have Hd8 := Lib.hid hd8
          have Hd78 := Lib.hid (Hd7.out.below hb8)
          have hB8 := Below.then hB7 hb8 hB7.size
          have z8 := hb7.size
          have z9 := hb8.size
          clear hd8 hb8 hb7
          go_wp2
          rw [Hres.out]
          exact bodyPost_ret (v := .tuple #[u7, v8, .int .i64 cc]) (by simp [results, Tryz.results6, go_sem]) rfl ⟨_, _, rfl, Hd78.out.mono fun q hq => ⟨by have := hq.1; omega, by have := hq.2; omega⟩, Hd8.out.mono fun q hq => ⟨by have := hq.1; omega, hq.2⟩, hB8⟩
        · obtain ⟨hc, hj7⟩ := hcj h0
          obtain ⟨ol, cl, hlv⟩ := HR.out.slice
          subst hlv
          have hpos : (0 : Int) < ((itR a b j).l.length : Int) := by omega
          obtain ⟨cc, hcc⟩ : ∃ cc, (itR a b j).c = cc := ⟨_, rfl⟩
          have Hcc := Lib.hid hcc
          have hcc9 : cc ≤ 8 := by omega
          rw [hcc]
          have hmod2 := Nat.mod_two_eq_zero_or_one cc
          have Hl62 := Lib.hid (show (itR a b j).l.length ≤ 4611686018427387904 by omega)
          clear hc hcle hcc hcj hex hl512
          rcases hmod2 with hmod | hmod
          · have hpar : ((cc : Int) + 1).tmod 2 = 1 := by rw [Int.tmod_eq_emod_of_nonneg (by omega)]; omega
            have hpar2 : ((cc : Int) + 1) % 2 = 1 := by omega
            obtain ⟨he0, hnx⟩ := st_even hA.out hB.out da.out db.out Hla.out Hlb.out j hj h0 (by rw [Hcc.out]; exact hmod)
            have hml2 := m_len hA.out hB.out da.out db.out Hla.out Hlb.out (j + 1) (by omega)
            rw [hnx] at hml2
            simp only [List.length_append] at hml2
            have Hml2 := Lib.hid hml2
            have hans := rf_Answer wr (.slice ob b.length cb) _ b (itR a b j).l (by have h1 := HDb.out.below hBr; rw [← Hnb.out] at h1; exact h1) HR.out (by have := Hlb.out; omega) Hl62.out (ids_len hA.out hB.out da.out db.out Hla.out Hlb.out j (by omega))
            rw [Hnb.out] at hans
            have Hans := Lib.hid hans
            have He0 := Lib.hid he0
            have Hnx := Lib.hid hnx
            clear hml2 hans he0 hnx
            go_wp2_with fail
            refine Hans.out.mono ?_
            rintro e w6 ⟨lv2, x, y, rfl, hR6, hx6, hy6, hb6⟩
            rw [He0.out]
            have HM6 := Lib.hid (HM.out.below hb6)
            have hB6 := Below.then hBr hb6 hBr.size
            have HR6 : Hid (RgsR (OffS u v) w6 lv2 (ansD b (itR a b j).l).r) := Lib.hid (hR6.mono fun q hq => HM.out.offN hq.1)
            have Hy6 := Lib.hid hy6
            have Hx6 : Hid (DigR (OffS u v) w6 x (ansD b (itR a b j).l).w) := Lib.hid (hx6.mono fun q hq => HM.out.offN hq.1)
            clear hR6 hx6 hy6 hb6 Hans
            obtain ⟨ox, cx, rfl⟩ : ∃ o c, y = .slice o (ansD b (itR a b j).l).g.length c := by obtain ⟨⟨o, c, e, _⟩, _⟩ := Hy6.out; rw [digC_size] at e; exact ⟨o, c, e⟩
            obtain ⟨oy, cy, rfl⟩ : ∃ o c, x = .slice o (ansD b (itR a b j).l).w.length c := by obtain ⟨⟨o, c, e, _⟩, _⟩ := Hx6.out; rw [digC_size] at e; exact ⟨o, c, e⟩
            obtain ⟨ol, cl, rfl⟩ := HR6.out.slice
            have Hrx := Lib.hid Hy6.out.row
            have Hfx := Lib.hid (digC_flat Hy6.out.2)
            have Hfy := Lib.hid (digC_flat Hx6.out.2)
            generalize ansD b (itR a b j).l = An at *
            go_wp2_with (first
              | (refine wpList_appK rfl (.tmp 53) (.tmp 54) 22 rfl w.heap.size 39 idg _ 32 32 Tryz.underlying22 Hi.out.1 Hi.out.2.1 Hi.out.2.2.1 Hi.out.2.2.2 (by simp [Value.cells]) (by decide) u (itR a b j).m0.length (digC (itR a b j).m0).flatten rfl HM6.out.a.1 ox An.g.length cx (digC An.g).flatten rfl Hrx.out.2 Hfx.out Hrx.out.1 (digC_one _) (by have := Hml2.out; unfold maxLen; omega) (by have := Hml2.out; omega) HM6.out.lb ?_; intro u7 w7 ho7 hg7 hk7; have HM7 := Lib.hid (HM6.out.add ho7 Hy6.out.2 hg7 hk7); have HR7 := Lib.hid ((HR6.out.lt.far hg7 (fun b e hb => hb.1.1 e)).mono (Mr.up hk7)); have HY7 := Lib.hid ((Hx6.out.lt.far hg7 (fun b e hb => hb.1.1 e)).mono (Mr.up (v := v) hk7)); have hB7 := HM6.out.bel hB6 hg7; have Hry := Lib.hid HY7.out.row; clear ho7 hg7 hk7)
              | (refine wpList_appK rfl (.tmp 56) (.tmp 57) 22 rfl w.heap.size 39 idg _ 32 32 Tryz.underlying22 Hi.out.1 Hi.out.2.1 Hi.out.2.2.1 Hi.out.2.2.2 (by simp [Value.cells]) (by decide) v (itR a b j).m1.length (digC (itR a b j).m1).flatten rfl HM7.out.b.1 oy An.w.length cy (digC An.w).flatten rfl Hry.out.2 Hfy.out Hry.out.1 (digC_one _) (by have := Hml2.out; unfold maxLen; omega) (by have := Hml2.out; omega) HM7.out.lb ?_; intro v9 w9 ho9 hg9 hk9; have HM9 := Lib.hid (HM7.out.swap.add ho9 HY7.out.2 hg9 hk9).swap; have HR9 := Lib.hid (((HR7.out.mono fun b hb => OffS.swap hb).lt.far hg9 (fun b e hb => hb.1.1 e)).mono fun b hb => OffS.swap (Mr.up hk9 b hb)); have hB9 := HM7.out.swap.bel hB7 hg9; clear ho9 hg9 hk9))
            have Hc1 : Hid ((itR a b (j + 1)).c = cc + 1) := Lib.hid (by rw [Hnx.out]; show (itR a b j).c + 1 = _; rw [Hcc.out])
            have HRn := HR9
            have HMn := HM9
            have Hr1 : Hid (An.r = (itR a b (j + 1)).l) := Lib.hid (by rw [Hnx.out])
            rw [Hr1.out] at HRn
            rw [show (itR a b j).m0 ++ An.g = (itR a b (j + 1)).m0 from by rw [Hnx.out], show (itR a b j).m1 ++ An.w = (itR a b (j + 1)).m1 from by rw [Hnx.out]] at HMn
            clear HR9 HM9 HR7 HM7 HR6 HM6 Hry Hrx Hx6 Hy6 HY7
            go_wp2
            go_roundw
            case rel => exact ⟨j + 1, _, _, _, by omega, rfl, rfl, by rw [Hr1.out], by rw [Hc1.out]; go_num, HRn, HMn, hB9⟩
            case measure => simp [intOf]; omega
          · have hpar : ((cc : Int) + 1).tmod 2 = 0 := by rw [Int.tmod_eq_emod_of_nonneg (by omega)]; omega
            have hpar2 : ((cc : Int) + 1) % 2 = 0 := by omega
            obtain ⟨he0, hnx⟩ := st_odd hA.out hB.out da.out db.out Hla.out Hlb.out j hj h0 (by rw [Hcc.out]; exact hmod)
            have hml2 := m_len hA.out hB.out da.out db.out Hla.out Hlb.out (j + 1) (by omega)
            rw [hnx] at hml2
            simp only [List.length_append] at hml2
            have Hml2 := Lib.hid hml2
            have hans := rf_Answer wr (.slice oa a.length ca) _ a (itR a b j).l (by have h1 := HDa.out.below hBr; rw [← Hna.out] at h1; exact h1) HR.out (by have := Hla.out; omega) Hl62.out (ids_len hA.out hB.out da.out db.out Hla.out Hlb.out j (by omega))
            rw [Hna.out] at hans
            have Hans := Lib.hid hans
            have He0 := Lib.hid he0
            have Hnx := Lib.hid hnx
            clear hml2 hans he0 hnx
            go_wp2_with fail
            refine Hans.out.mono ?_
            rintro e w6 ⟨lv2, x, y, rfl, hR6, hx6, hy6, hb6⟩
            rw [He0.out]
            have HM6 := Lib.hid (HM.out.below hb6)
            have hB6 := Below.then hBr hb6 hBr.size
            have HR6 : Hid (RgsR (OffS u v) w6 lv2 (ansD a (itR a b j).l).r) := Lib.hid (hR6.mono fun q hq => HM.out.offN hq.1)
            have Hx6 := Lib.hid hx6
            have Hy6 : Hid (DigR (OffS u v) w6 y (ansD a (itR a b j).l).g) := Lib.hid (hy6.mono fun q hq => HM.out.offN hq.1)
            clear hR6 hx6 hy6 hb6 Hans
            obtain ⟨ox, cx, rfl⟩ : ∃ o c, x = .slice o (ansD a (itR a b j).l).w.length c := by obtain ⟨⟨o, c, e, _⟩, _⟩ := Hx6.out; rw [digC_size] at e; exact ⟨o, c, e⟩
            obtain ⟨oy, cy, rfl⟩ : ∃ o c, y = .slice o (ansD a (itR a b j).l).g.length c := by obtain ⟨⟨o, c, e, _⟩, _⟩ := Hy6.out; rw [digC_size] at e; exact ⟨o, c, e⟩
            obtain ⟨ol, cl, rfl⟩ := HR6.out.slice
            have Hrx := Lib.hid Hx6.out.row
            have Hfx := Lib.hid (digC_flat Hx6.out.2)
            have Hfy := Lib.hid (digC_flat Hy6.out.2)
            generalize ansD a (itR a b j).l = An at *
            go_wp2_with (first
              | (refine wpList_appK rfl (.tmp 53) (.tmp 54) 22 rfl w.heap.size 39 idg _ 32 32 Tryz.underlying22 Hi.out.1 Hi.out.2.1 Hi.out.2.2.1 Hi.out.2.2.2 (by simp [Value.cells]) (by decide) u (itR a b j).m0.length (digC (itR a b j).m0).flatten rfl HM6.out.a.1 ox An.w.length cx (digC An.w).flatten rfl Hrx.out.2 Hfx.out Hrx.out.1 (digC_one _) (by have := Hml2.out; unfold maxLen; omega) (by have := Hml2.out; omega) HM6.out.lb ?_; intro u7 w7 ho7 hg7 hk7; have HM7 := Lib.hid (HM6.out.add ho7 Hx6.out.2 hg7 hk7); have HR7 := Lib.hid ((HR6.out.lt.far hg7 (fun b e hb => hb.1.1 e)).mono (Mr.up hk7)); have HY7 := Lib.hid ((Hy6.out.lt.far hg7 (fun b e hb => hb.1.1 e)).mono (Mr.up (v := v) hk7)); have hB7 := HM6.out.bel hB6 hg7; have Hry := Lib.hid HY7.out.row; clear ho7 hg7 hk7)
              | (refine wpList_appK rfl (.tmp 56) (.tmp 57) 22 rfl w.heap.size 39 idg _ 32 32 Tryz.underlying22 Hi.out.1 Hi.out.2.1 Hi.out.2.2.1 Hi.out.2.2.2 (by simp [Value.cells]) (by decide) v (itR a b j).m1.length (digC (itR a b j).m1).flatten rfl HM7.out.b.1 oy An.g.length cy (digC An.g).flatten rfl Hry.out.2 Hfy.out Hry.out.1 (digC_one _) (by have := Hml2.out; unfold maxLen; omega) (by have := Hml2.out; omega) HM7.out.lb ?_; intro v9 w9 ho9 hg9 hk9; have HM9 := Lib.hid (HM7.out.swap.add ho9 HY7.out.2 hg9 hk9).swap; have HR9 := Lib.hid (((HR7.out.mono fun b hb => OffS.swap hb).lt.far hg9 (fun b e hb => hb.1.1 e)).mono fun b hb => OffS.swap (Mr.up hk9 b hb)); have hB9 := HM7.out.swap.bel hB7 hg9; clear ho9 hg9 hk9))
            have Hc1 : Hid ((itR a b (j + 1)).c = cc + 1) := Lib.hid (by rw [Hnx.out]; show (itR a b j).c + 1 = _; rw [Hcc.out])
            have HRn := HR9
            have HMn := HM9
            have Hr1 : Hid (An.r = (itR a b (j + 1)).l) := Lib.hid (by rw [Hnx.out])
            rw [Hr1.out] at HRn
            rw [show (itR a b j).m0 ++ An.w = (itR a b (j + 1)).m0 from by rw [Hnx.out], show (itR a b j).m1 ++ An.g = (itR a b (j + 1)).m1 from by rw [Hnx.out]] at HMn
            clear HR9 HM9 HR7 HM7 HR6 HM6 Hry Hrx Hx6 Hy6 HY7
            go_wp2
            go_roundw
            case rel => exact ⟨j + 1, _, _, _, by omega, rfl, rfl, by rw [Hr1.out], by rw [Hc1.out]; go_num, HRn, HMn, hB9⟩
            case measure => simp [intOf]; omega
end Go.Proofs.YtebgopdmeghmhaaGreat
