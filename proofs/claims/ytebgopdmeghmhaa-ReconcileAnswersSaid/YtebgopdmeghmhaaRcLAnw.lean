/- law ReconcileAnswers: the walk. -/
import Derived.Test.YtebgopdmeghmhaaRcAwake
import Derived.Test.YtebgopdmeghmhaaRcAnsP
import Derived.Test.YtebgopdmeghmhaaRcIn
namespace Go.Proofs.Ytebgopdmeghmhaa
open Go.RowKit

set_option maxRecDepth 100000 in
set_option maxHeartbeats 4000000 in
theorem law48_answers {S1 S2 : Nat → Prop} (w : World) (vi : Value) (ids : List (List UInt8)) (hI : DigR S2 w vi ids) (_hii : ids.length ≤ 4611686018427387904) (vl : Value) (l : List Rg) (hL : RgsR S1 w vl l) (hll : l.length ≤ 4611686018427387904) (hli : ∀ r ∈ l, r.ids.length ≤ 4398046511104) :
    Calls Try.prog 8 #[vi, vl] w fun e w' => e = .returned (.bool true) ∧ Below w.heap.size w w' := by
  obtain ⟨ol, cl, rfl⟩ := hL.slice
  obtain ⟨oi, ci, rfl⟩ : ∃ o c, vi = .slice o ids.length c := by obtain ⟨⟨o, c, e, _⟩, _⟩ := hI; rw [digC_size] at e; exact ⟨o, c, e⟩
  have HL := Lib.hid hL
  have HI := Lib.hid hI
  have Hll := Lib.hid hll
  have Hli := Lib.hid hli
  clear hL hI hll hli _hii
  go_enter Try.func8, Try.ntmps8
  go_wp2_with fail
  refine (rf_Great w _ l HL.out Hll.out).mono ?_
  rintro e w1 ⟨rfl, hb1⟩
  cases hg : greatR l
  · by_cases h2 : 60 < (ids.length : Int)
    · clear HL HI
      go_wp2_with fail
      refine (law48_awake _).mono ?_
      rintro e w9 ⟨rfl, hb9⟩
      go_wp2
      go_ret
      exact ⟨rfl, Below.then hb1 hb9 hb1.size⟩
    · have Hi6 : Hid (ids.length ≤ 60) := Lib.hid (by omega)
      have Sm : Hid (l.length ≤ 1000 → l.length ≤ 100 ∧ ∀ r ∈ l, r.ids.length ≤ 100) := Lib.hid fun hk => great_small hg hk Hli.out
      have Smi : Hid (l.length ≤ 1000 → ∀ r ∈ l, r.ids.length ≤ 1000000) := Lib.hid fun hk r hr => Nat.le_trans ((Sm.out hk).2 r hr) (by decide)
      have HL1 := Lib.hid (HL.out.below hb1)
      have HI1 := Lib.hid (HI.out.below hb1)
      clear hg HL HI
      obtain ⟨z0, hz0⟩ : ∃ z, (bytesV zeroD).toArray = z := ⟨_, rfl⟩
      have Hzl : Hid (z0.size = 32) := Lib.hid (by rw [← hz0]; rfl)
      have Hzi : Hid ((Try.prog.info? 29).map (·.zero) = some (some (.agg z0))) := Lib.hid (by
        obtain ⟨idg, hidg, hzd, hsd, hbyd⟩ := info_parts infoDg
        rw [hidg, ← hz0]; simp [hzd]; rfl)
      clear hz0
      have As := Lib.hid (ans_small Hi6.out Sm.out)
      have Ok := Lib.hid HL1.out.ok
      go_wp2_with fail
      refine (rc_AnswerX w1 _ _ ids l HI1.out HL1.out (by have := Hi6.out; omega) Hll.out Smi.out).mono ?_
      rintro e w2 ⟨u2, x2, y2, rfl, h2, g2, k2, hb2⟩
      have HR := Lib.hid h2
      have HW := Lib.hid g2
      have HG := Lib.hid k2
      clear h2 g2 k2
      cases he : ((ansD ids l).e != 0)
      · have he0 : (ansD ids l).e = 0 := by simpa using he
        obtain ⟨ha, hc⟩ := ans_zero he0
        have Hc := Lib.hid hc
        have Ha := Lib.hid ha
        have Vd := Lib.hid (ans_valid ha HI1.out.2 Hi6.out Ok.out (Sm.out (of_checkR hc).2.2).1 hc)
        have Wn := Lib.hid (ans_wants ha hc)
        have Gv := Lib.hid (ans_gives ha hc)
        rw [he0]
        clear he he0 ha hc
        go_wp2_with fail
        refine (rc_Check w2 _ _ HR.out (Nat.le_trans As.out.1 (by decide)) (fun r hr => Nat.le_trans (As.out.2.1 r hr) (by decide))).mono ?_
        rintro e w3 ⟨rfl, hb3⟩
        rw [Vd.out]
        have hQ3 := Below.then hb2 hb3 hb2.size
        go_wp2_with fail
        refine (rc_CheckX w3 _ l (HL1.out.below hQ3) Hll.out Smi.out).mono ?_
        rintro e w4 ⟨rfl, hb4⟩
        rw [Hc.out]
        have hQm := Below.then hQ3 hb4 hQ3.size
        have HW4 := Lib.hid ((HW.out.below hb3).below hb4)
        have HG4 := Lib.hid ((HG.out.below hb3).below hb4)
        clear HW HG HR hb2 hb3 hb4 hQ3
        have HW := HW4
        have HG := HG4
        clear HW4 HG4
        obtain ⟨wm, rfl⟩ : ∃ x, x = w4 := ⟨_, rfl⟩
        obtain ⟨n1, hn9⟩ : ∃ n, (ansD ids l).w.length = n := ⟨_, rfl⟩
        have Hn1 := Lib.hid hn9
        have hsn1 : n1 ≤ 10000 := by have := As.out.2.2.1; omega
        obtain ⟨o7, c7, rfl⟩ : ∃ o c, x2 = .slice o (ansD ids l).w.length c := by obtain ⟨⟨o, c, e, _⟩, _⟩ := HW.out; rw [digC_size] at e; exact ⟨o, c, e⟩
        rw [hn9] at HW ⊢
        clear hn9
        go_wp2_with fail
        go_loopw [68] (fun a9 wr => ∃ k : Nat, k ≤ n1 ∧ a9 = .int .i64 k ∧ Below wm.heap.size wm wr) (fun a9 _ => n1 - (intOf a9).toNat)
        case atStart => exact ⟨0, by omega, rfl, Below.refl _ _⟩
        case round =>
          obtain ⟨k, hk, rfl, hB⟩ := hrel
          by_cases hlt : k < n1
          · have hltl : k < (ansD ids l).w.length := by rw [Hn1.out]; exact hlt
            have hlt' : (k : Int) < (n1 : Int) := by omega
            obtain ⟨q, off, c', e', _, _, _, hq, hra⟩ := (HW.out.below hB).at hltl
            rw [Hn1.out] at e'
            obtain ⟨rfl, rfl⟩ : o7 = some ⟨q, off, none⟩ ∧ c7 = c' := by simpa using e'
            have hxl : (ansD ids l).w[k].length = 32 := HW.out.2 _ (List.getElem_mem hltl)
            have hmem := Wn.out _ (List.getElem_mem hltl)
            have Hxl := Lib.hid hxl
            have Hxb : Hid ((bytesV (ansD ids l).w[k]).length = 32) := Lib.hid (by rw [bytesV_len, hxl])
            have Hone1 := Lib.hid (bytesV_one (ansD ids l).w[k])
            have Hra := Lib.hid hra
            generalize (ansD ids l).w[k] = x at *
            clear e' hltl hra hxl
            have hz := hB.size
            go_wp2_with (first
              | (refine wpList_load_mid rfl 29 (.tmp 70) rfl q (off + k * 32) rfl (bytesV x) _ Hra.out Try.underlying29 rfl (by rw [sizeDg, Hxb.out]) ?_)
              | (refine wpList_alloc_row rfl 29 rfl z0 Hzi.out ?_)
              | (refine wpList_store_mid rfl 29 (.tmp 10) (.tmp 71) rfl wr.heap.size 0 (bytesV x).toArray rfl rfl (there_bx (Bx.new wr z0 29) (by rw [Hzl.out, List.size_toArray, Hxb.out]; exact Nat.le_refl _)) (by rw [sizeDg, List.size_toArray, Hxb.out]) (by simpa using Hone1.out) ?_; have xx := (Bx.new wr z0 29).setAll (cx := (bytesV x).toArray) (by rw [Hzl.out, List.size_toArray, Hxb.out]); have hb6 : Below wm.heap.size wm ((wr.alloc (.cells z0 29)).setCells wr.heap.size 0 (bytesV x).toArray.toList) := below_setCells hz _ _ _ (hB.alloc hz _); generalize (wr.alloc (.cells z0 29)).setCells wr.heap.size 0 (bytesV x).toArray.toList = w6 at *)
              | (refine wpList_load_mid rfl 29 (.tmp 10) rfl wr.heap.size 0 rfl (bytesV x) _ (by have := xx.range; simpa using this) Try.underlying29 rfl (by rw [sizeDg, Hxb.out]) ?_))
            have Hb6 := Lib.hid hb6
            clear xx hb6 hB Hra
            refine (rf_In w6 _ ids x ((HI1.out.below hQm).below Hb6.out) Hxl.out (by have := Hi6.out; omega)).mono ?_
            rintro e w7 ⟨rfl, hb7⟩
            rw [decide_eq_false hmem]
            have hB7 := Below.then Hb6.out hb7 Hb6.out.size
            clear hb7 Hb6 hmem
            go_wp2
            go_roundw
            case rel => exact ⟨k + 1, by omega, by go_num, hB7⟩
            case measure => simp [intOf]; omega
          · obtain rfl : k = n1 := by omega
            have hlt' : ¬ (k : Int) < (k : Int) := by omega
            have hQn := Below.then hQm hB hQm.size
            have HG9 := Lib.hid (HG.out.below hB)
            clear hQm hB HG
            have hQm := hQn
            have HG := HG9
            clear hQn HG9

            obtain ⟨wm, rfl⟩ : ∃ x, x = wr := ⟨_, rfl⟩
            obtain ⟨n2, hn9⟩ : ∃ n, (ansD ids l).g.length = n := ⟨_, rfl⟩
            have Hn2 := Lib.hid hn9
            have hsn2 : n2 ≤ 10000 := by have := As.out.2.2.2; omega
            obtain ⟨o8, c8, rfl⟩ : ∃ o c, y2 = .slice o (ansD ids l).g.length c := by obtain ⟨⟨o, c, e, _⟩, _⟩ := HG.out; rw [digC_size] at e; exact ⟨o, c, e⟩
            rw [hn9] at HG ⊢
            clear hn9
            go_wp2_with fail
            go_loopw [78] (fun a9 wr => ∃ k : Nat, k ≤ n2 ∧ a9 = .int .i64 k ∧ Below wm.heap.size wm wr) (fun a9 _ => n2 - (intOf a9).toNat)
            case atStart => exact ⟨0, by omega, rfl, Below.refl _ _⟩
            case round =>
              obtain ⟨k, hk, rfl, hB⟩ := hrel
              by_cases hlt : k < n2
              · have hltl : k < (ansD ids l).g.length := by rw [Hn2.out]; exact hlt
                have hlt' : (k : Int) < (n2 : Int) := by omega
                obtain ⟨q, off, c', e', _, _, _, hq, hra⟩ := (HG.out.below hB).at hltl
                rw [Hn2.out] at e'
                obtain ⟨rfl, rfl⟩ : o8 = some ⟨q, off, none⟩ ∧ c8 = c' := by simpa using e'
                have hxl : (ansD ids l).g[k].length = 32 := HG.out.2 _ (List.getElem_mem hltl)
                have hmem := Gv.out _ (List.getElem_mem hltl)
                have Hxl := Lib.hid hxl
                have Hxb : Hid ((bytesV (ansD ids l).g[k]).length = 32) := Lib.hid (by rw [bytesV_len, hxl])
                have Hone1 := Lib.hid (bytesV_one (ansD ids l).g[k])
                have Hra := Lib.hid hra
                generalize (ansD ids l).g[k] = x at *
                clear e' hltl hra hxl
                have hz := hB.size
                go_wp2_with (first
                  | (refine wpList_load_mid rfl 29 (.tmp 80) rfl q (off + k * 32) rfl (bytesV x) _ Hra.out Try.underlying29 rfl (by rw [sizeDg, Hxb.out]) ?_)
                  | (refine wpList_alloc_row rfl 29 rfl z0 Hzi.out ?_)
                  | (refine wpList_store_mid rfl 29 (.tmp 12) (.tmp 81) rfl wr.heap.size 0 (bytesV x).toArray rfl rfl (there_bx (Bx.new wr z0 29) (by rw [Hzl.out, List.size_toArray, Hxb.out]; exact Nat.le_refl _)) (by rw [sizeDg, List.size_toArray, Hxb.out]) (by simpa using Hone1.out) ?_; have xx := (Bx.new wr z0 29).setAll (cx := (bytesV x).toArray) (by rw [Hzl.out, List.size_toArray, Hxb.out]); have hb6 : Below wm.heap.size wm ((wr.alloc (.cells z0 29)).setCells wr.heap.size 0 (bytesV x).toArray.toList) := below_setCells hz _ _ _ (hB.alloc hz _); generalize (wr.alloc (.cells z0 29)).setCells wr.heap.size 0 (bytesV x).toArray.toList = w6 at *)
                  | (refine wpList_load_mid rfl 29 (.tmp 12) rfl wr.heap.size 0 rfl (bytesV x) _ (by have := xx.range; simpa using this) Try.underlying29 rfl (by rw [sizeDg, Hxb.out]) ?_))
                have Hb6 := Lib.hid hb6
                clear xx hb6 hB Hra
                refine (rf_In w6 _ ids x ((HI1.out.below hQm).below Hb6.out) Hxl.out (by have := Hi6.out; omega)).mono ?_
                rintro e w7 ⟨rfl, hb7⟩
                rw [decide_eq_true hmem]
                have hB7 := Below.then Hb6.out hb7 Hb6.out.size
                clear hb7 Hb6 hmem
                go_wp2
                go_roundw
                case rel => exact ⟨k + 1, by omega, by go_num, hB7⟩
                case measure => simp [intOf]; omega
              · obtain rfl : k = n2 := by omega
                have hlt' : ¬ (k : Int) < (k : Int) := by omega
                have hBm := Below.then hQm hB hQm.size
                have HI9 := HI1.out.below hBm
                go_wp2_with fail
                refine (rc_Start wr _ ids HI9 (by have := Hi6.out; omega)).mono ?_
                rintro e w11 ⟨u11, rfl, h11, hb11⟩
                have hB11 := Below.then hBm hb11 hBm.size
                have St := start_small Hi6.out
                have Az := Lib.hid (ans_start Ha.out HI1.out.2 Hi6.out)
                clear HI9
                go_wp2_with fail
                refine (rc_Answer w11 _ _ ids (startR ids) (HI1.out.below hB11) h11 (by have := Hi6.out; omega) (Nat.le_trans St.1 (by decide)) (fun r hr => Nat.le_trans (St.2 r hr) (by decide))).mono ?_
                rw [Az.out]
                rintro e w12 ⟨u12, x12, y12, rfl, h12, g12, k12, hb12⟩
                obtain ⟨o12, c12, rfl⟩ := h12.slice
                obtain ⟨o13, c13, rfl⟩ : ∃ o c, x12 = .slice o 0 c := by obtain ⟨⟨o, c, e, _⟩, _⟩ := g12; exact ⟨o, c, e⟩
                obtain ⟨o14, c14, rfl⟩ : ∃ o c, y12 = .slice o 0 c := by obtain ⟨⟨o, c, e, _⟩, _⟩ := k12; exact ⟨o, c, e⟩
                have hB12 := Below.then hb1 (Below.then hB11 hb12 hB11.size) hb1.size
                clear h11 hb11 h12 g12 k12 hb12 hB11 hBm hB hQm
                go_wp2_with fail
                refine (law48_awake _).mono ?_
                rintro e w9 ⟨rfl, hb9⟩
                go_wp2
                go_ret
                exact ⟨rfl, Below.then hB12 hb9 hB12.size⟩
      · have hne : (ansD ids l).e ≠ 0 := by simpa using he
        obtain ⟨b1, b2, b3, b4⟩ := ans_bad hne
        have Hb4 := Lib.hid b4
        rw [b1] at HR
        rw [b2] at HW
        rw [b3] at HG
        obtain ⟨o3, c3, rfl⟩ := HR.out.slice
        obtain ⟨o4, c4, rfl⟩ : ∃ o c, x2 = .slice o 0 c := by obtain ⟨⟨o, c, e, _⟩, _⟩ := HW.out; exact ⟨o, c, e⟩
        obtain ⟨o5, c5, rfl⟩ : ∃ o c, y2 = .slice o 0 c := by obtain ⟨⟨o, c, e, _⟩, _⟩ := HG.out; exact ⟨o, c, e⟩
        have Ck := Lib.hid fun W (hW : Below w1.heap.size w1 W) => rc_CheckX W _ l (HL1.out.below hW) Hll.out Smi.out
        have As1 := Lib.hid fun W (hW : Below w1.heap.size w1 W) => rf_ascending W _ ids (HI1.out.below hW) (by have := Hi6.out; omega)
        generalize (ansD ids l).e = ee at *
        clear b1 b2 b3 b4 HR HW HG As hne
        cases ha : ascB ids
        · rw [ha] at As1
          clear Hb4
          go_wp2_with fail
          refine (As1.out w2 hb2).mono ?_
          rintro e w3 ⟨rfl, hb3⟩
          have hB3 := Below.then hb1 (Below.then hb2 hb3 hb2.size) hb1.size
          go_wp2_with fail
          refine (law48_awake _).mono ?_
          rintro e w9 ⟨rfl, hb9⟩
          go_wp2
          go_ret
          exact ⟨rfl, Below.then hB3 hb9 hB3.size⟩
        · rw [ha] at As1
          have hck : checkR l = ee := (Hb4.out ha).symm
          rw [hck] at Ck
          clear Hb4 hck
          go_wp2_with fail
          refine (As1.out w2 hb2).mono ?_
          rintro e w3 ⟨rfl, hb3⟩
          have hQ3 := Below.then hb2 hb3 hb2.size
          go_wp2_with fail
          refine (Ck.out w3 hQ3).mono ?_
          rintro e w4 ⟨rfl, hb4⟩
          have hB4 := Below.then hb1 (Below.then hQ3 hb4 hQ3.size) hb1.size
          go_wp2_with fail
          refine (law48_awake _).mono ?_
          rintro e w9 ⟨rfl, hb9⟩
          go_wp2
          go_ret
          exact ⟨rfl, Below.then hB4 hb9 hB4.size⟩
  · clear HL HI
    go_wp2_with fail
    refine (law48_awake _).mono ?_
    rintro e w9 ⟨rfl, hb9⟩
    go_wp2
    go_ret
    exact ⟨rfl, Below.then hb1 hb9 hb1.size⟩
end Go.Proofs.Ytebgopdmeghmhaa
