/- law ReconcileAnswer: the walk. -/
import Derived.Test.YtebgopdmeghmhaaRcAwake
import Derived.Test.YtebgopdmeghmhaaRcMany
import Derived.Test.YtebgopdmeghmhaaRcIn
namespace Go.Proofs.Ytebgopdmeghmhaa
open Go.RowKit

set_option maxRecDepth 100000 in
set_option maxHeartbeats 4000000 in
theorem law48_answer {S1 S2 : Nat → Prop} (w : World) (vi : Value) (ids : List (List UInt8)) (hI : DigR S2 w vi ids) (_hii : ids.length ≤ 4611686018427387904) (vl : Value) (l : List Rg) (hL : RgsR S1 w vl l) (hll : l.length ≤ 4611686018427387904) (hli : ∀ r ∈ l, r.ids.length ≤ 4398046511104) :
    Calls Try.prog 4 #[vi, vl] w fun e w' => e = .returned (.bool true) ∧ Below w.heap.size w w' := by
  obtain ⟨ol, cl, rfl⟩ := hL.slice
  obtain ⟨oi, ci, rfl⟩ : ∃ o c, vi = .slice o ids.length c := by obtain ⟨⟨o, c, e, _⟩, _⟩ := hI; rw [digC_size] at e; exact ⟨o, c, e⟩
  have HL := Lib.hid hL
  have HI := Lib.hid hI
  have Hll := Lib.hid hll
  have Hli := Lib.hid hli
  clear hL hI hll hli _hii
  go_enter Try.func4, Try.ntmps4
  go_wp2_with fail
  refine (rf_Great w _ l HL.out Hll.out).mono ?_
  rintro e w1 ⟨rfl, hb1⟩
  cases hg : greatR l
  · by_cases h2 : 60 < (ids.length : Int)
    · clear HL HI
      go_wp2_with fail
      refine (law48_awake _).mono ?_
      rintro e w9 ⟨rfl, hb9⟩
      go_wp2
      go_ret
      exact ⟨rfl, Below.then hb1 hb9 hb1.size⟩
    · have Hi6 : Hid (ids.length ≤ 60) := Lib.hid (by omega)
      have Sm : Hid (l.length ≤ 1000 → l.length ≤ 100 ∧ ∀ r ∈ l, r.ids.length ≤ 100) := Lib.hid fun hk => great_small hg hk Hli.out
      have Smi : Hid (l.length ≤ 1000 → ∀ r ∈ l, r.ids.length ≤ 1000000) := Lib.hid fun hk r hr => Nat.le_trans ((Sm.out hk).2 r hr) (by decide)
      have HL1 := Lib.hid (HL.out.below hb1)
      have HI1 := Lib.hid (HI.out.below hb1)
      clear hg HL HI
      have As := Lib.hid (ans_small Hi6.out Sm.out)
      go_wp2_with fail
      refine (rc_AnswerX w1 _ _ ids l HI1.out HL1.out (by have := Hi6.out; omega) Hll.out Smi.out).mono ?_
      rintro e w2 ⟨u2, x2, y2, rfl, h2, g2, k2, hb2⟩
      go_wp2_with fail
      refine (rf_AnswerX w2 _ _ ids l (HI1.out.below hb2) (HL1.out.below hb2) (by have := Hi6.out; omega) Hll.out Smi.out).mono ?_
      rintro e w3 ⟨u3, x3, y3, rfl, h3, g3, k3, hb3⟩
      have hQ3 := Below.then hb2 hb3 hb2.size
      have HR2 := Lib.hid (h2.below hb3)
      have HX2 := Lib.hid (g2.below hb3)
      have HY2 := Lib.hid (k2.below hb3)
      have HX3 := Lib.hid g3
      have HY3 := Lib.hid k3
      clear h2 g2 k2 g3 k3 hb2 hb3
      generalize ansD ids l = An at *
      go_wp2_with fail
      refine (rf_SameRanges w3 _ _ An.r HR2.out h3 (Nat.le_trans As.out.1 (by decide)) (fun r hr => Nat.le_trans (As.out.2.1 r hr) (by decide))).mono ?_
      rintro e w4 ⟨rfl, hb4⟩
      have hQ4 := Below.then hQ3 hb4 hQ3.size
      clear h3 HR2
      go_wp2_with fail
      refine (ref02_Same (S := fun _ => True) w4 _ _ An.w An.w ((HX2.out.below hb4).mono fun _ _ => trivial) ((HX3.out.below hb4).mono fun _ _ => trivial) (by have := As.out.2.2.1; omega) (by have := As.out.2.2.1; omega)).mono ?_
      rintro e w5 ⟨rfl, hb5⟩
      have hQ5 := Below.then hQ4 hb5 hQ4.size
      have hb45 := Below.then hb4 hb5 hb4.size
      clear HX2 HX3 hQ3 hQ4 hb4 hb5
      go_wp2_with fail
      refine (ref02_Same (S := fun _ => True) w5 _ _ An.g An.g ((HY2.out.below hb45).mono fun _ _ => trivial) ((HY3.out.below hb45).mono fun _ _ => trivial) (by have := As.out.2.2.2; omega) (by have := As.out.2.2.2; omega)).mono ?_
      rintro e w6 ⟨rfl, hb6⟩
      have hB6 := Below.then hb1 (Below.then hQ5 hb6 hQ5.size) hb1.size
      clear HY2 HY3 hQ5 hb45 hb6 hb1
      generalize An.e = ee
      go_wp2_with fail
      refine (law48_awake _).mono ?_
      rintro e w9 ⟨rfl, hb9⟩
      go_wp2
      go_ret
      exact ⟨rfl, Below.then hB6 hb9 hB6.size⟩
  · clear HL HI
    go_wp2_with fail
    refine (law48_awake _).mono ?_
    rintro e w9 ⟨rfl, hb9⟩
    go_wp2
    go_ret
    exact ⟨rfl, Below.then hb1 hb9 hb1.size⟩
end Go.Proofs.Ytebgopdmeghmhaa
