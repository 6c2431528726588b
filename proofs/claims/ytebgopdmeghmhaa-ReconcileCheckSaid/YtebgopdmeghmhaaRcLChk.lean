/- law ReconcileCheck: the walk. -/
import Derived.Test.YtebgopdmeghmhaaRcAwake
import Derived.Test.YtebgopdmeghmhaaRcMany
import Derived.Test.YtebgopdmeghmhaaRcIn
namespace Go.Proofs.Ytebgopdmeghmhaa
open Go.RowKit

set_option maxRecDepth 100000 in
set_option maxHeartbeats 4000000 in
theorem law48_check {S1 S2 : Nat → Prop} (w : World) (vl : Value) (l : List Rg) (hL : RgsR S1 w vl l) (hll : l.length ≤ 4611686018427387904) (hli : ∀ r ∈ l, r.ids.length ≤ 4398046511104) (vi : Value) (ids : List (List UInt8)) (hI : DigR S2 w vi ids) (_hii : ids.length ≤ 4611686018427387904) :
    Calls Try.prog 3 #[vl, vi] w fun e w' => e = .returned (.bool true) ∧ Below w.heap.size w w' := by
  obtain ⟨ol, cl, rfl⟩ := hL.slice
  obtain ⟨oi, ci, rfl⟩ : ∃ o c, vi = .slice o ids.length c := by obtain ⟨⟨o, c, e, _⟩, _⟩ := hI; rw [digC_size] at e; exact ⟨o, c, e⟩
  have HL := Lib.hid hL
  have HI := Lib.hid hI
  have Hll := Lib.hid hll
  have Hli := Lib.hid hli
  clear hL hI hll hli _hii
  go_enter Try.func3, Try.ntmps3
  go_wp2_with fail
  refine (rf_Great w _ l HL.out Hll.out).mono ?_
  rintro e w1 ⟨rfl, hb1⟩
  cases hg : greatR l
  · by_cases h2 : 60 < (ids.length : Int)
    · clear HL HI
      go_wp2_with fail
      refine (law48_awake _).mono ?_
      rintro e w9 ⟨rfl, hb9⟩
      go_wp2
      go_ret
      exact ⟨rfl, Below.then hb1 hb9 hb1.size⟩
    · have Hi6 : Hid (ids.length ≤ 60) := Lib.hid (by omega)
      have Sm : Hid (l.length ≤ 1000 → l.length ≤ 100 ∧ ∀ r ∈ l, r.ids.length ≤ 100) := Lib.hid fun hk => great_small hg hk Hli.out
      have Smi : Hid (l.length ≤ 1000 → ∀ r ∈ l, r.ids.length ≤ 1000000) := Lib.hid fun hk r hr => Nat.le_trans ((Sm.out hk).2 r hr) (by decide)
      have HL1 := Lib.hid (HL.out.below hb1)
      have HI1 := Lib.hid (HI.out.below hb1)
      clear hg HL HI
      go_wp2_with fail
      refine (rc_CheckX w1 _ l HL1.out Hll.out Smi.out).mono ?_
      rintro e w2 ⟨rfl, hb2⟩
      go_wp2_with fail
      refine (rf_CheckX w2 _ l (HL1.out.below hb2) Hll.out Smi.out).mono ?_
      rintro e w3 ⟨rfl, hb3⟩
      have hQ3 := Below.then hb2 hb3 hb2.size
      clear hb2 hb3
      generalize checkR l = x
      go_wp2_with fail
      refine (rc_Print w3 _ ids (HI1.out.below hQ3) (by have := Hi6.out; omega)).mono ?_
      rintro e w4 ⟨rfl, hb4⟩
      have hQ4 := Below.then hQ3 hb4 hQ3.size
      clear hQ3 hb4
      go_wp2_with fail
      refine (rf_Print w4 _ ids (HI1.out.below hQ4) (by have := Hi6.out; omega)).mono ?_
      rintro e w5 ⟨rfl, hb5⟩
      have hQ5 := Below.then hQ4 hb5 hQ4.size
      clear hQ4 hb5
      have Hp : Hid ((printD ids).length = 32) := Lib.hid (printD_len _)
      generalize printD ids = p at *
      go_wp2_with (refine wpList_value_want (by rfl) (.bool true) (by rw [run_eql_dg _ (.tmp 20) (.tmp 22) rfl p p Hp.out Hp.out rfl rfl]; simp) ?_)
      (try simp only [Act.put, List.setIfInBounds_toArray, List.set_cons_zero, List.set_cons_succ])
      refine (rc_Start w5 _ ids (HI1.out.below hQ5) (by have := Hi6.out; omega)).mono ?_
      rintro e w6 ⟨u6, rfl, h6, hb6⟩
      have hQ6 := Below.then hQ5 hb6 hQ5.size
      have H6 := Lib.hid h6
      clear hQ5 hb6 h6
      go_wp2_with fail
      refine (rf_Start w6 _ ids (HI1.out.below hQ6) (by have := Hi6.out; omega)).mono ?_
      rintro e w7 ⟨u7, rfl, h7, hb7⟩
      have hQ7 := Below.then hQ6 hb7 hQ6.size
      have H7 := Lib.hid (H6.out.below hb7)
      have St := start_small Hi6.out
      clear hQ6 hb7 H6
      go_wp2_with fail
      refine (rf_SameRanges w7 _ _ (startR ids) H7.out h7 (Nat.le_trans St.1 (by decide)) (fun r hr => Nat.le_trans (St.2 r hr) (by decide))).mono ?_
      rintro e w8 ⟨rfl, hb8⟩
      have hB8 := Below.then hb1 (Below.then hQ7 hb8 hQ7.size) hb1.size
      clear hQ7 hb8 H7 h7 St hb1
      go_wp2_with fail
      refine (law48_awake _).mono ?_
      rintro e w9 ⟨rfl, hb9⟩
      go_wp2
      go_ret
      exact ⟨rfl, Below.then hB8 hb9 hB8.size⟩
  · clear HL HI
    go_wp2_with fail
    refine (law48_awake _).mono ?_
    rintro e w9 ⟨rfl, hb9⟩
    go_wp2
    go_ret
    exact ⟨rfl, Below.then hb1 hb9 hb1.size⟩
end Go.Proofs.Ytebgopdmeghmhaa
