/- law ReconcileRun: the walk. -/
import Derived.Test.YtebgopdmeghmhaaGreatRcAwake
import Derived.Test.YtebgopdmeghmhaaGreatRfRun
import Derived.Test.YtebgopdmeghmhaaGreatRfQuick
namespace Go.Proofs.YtebgopdmeghmhaaGreat
open Go.RowKit

theorem run_small {a b : List (List UInt8)} (da : Dok a) (db : Dok b) (la : a.length ≤ 60) (lb : b.length ≤ 60) : (runR a b).1.length ≤ 60 ∧ (runR a b).2.1.length ≤ 60 := by
  cases ha : ascB a
  · have e : runR a b = ([], [], 0) := by unfold runR; rw [ha]; rfl
    rw [e]; exact ⟨Nat.zero_le _, Nat.zero_le _⟩
  · cases hb : ascB b
    · have e : runR a b = ([], [], 0) := by unfold runR; rw [ha, hb]; rfl
      rw [e]; exact ⟨Nat.zero_le _, Nat.zero_le _⟩
    · have hA := of_decide_eq_true ha
      have hB := of_decide_eq_true hb
      have nv := run_never hA hB da db la lb
      exact ⟨Nat.le_trans (nodup_len nv.2.2.1.nodup hB.nodup fun d hd => (nv.1 d hd).1) lb, Nat.le_trans (nodup_len nv.2.2.2.nodup hA.nodup fun d hd => (nv.2.1 d hd).1) la⟩
theorem quick_small {ids : List (List UInt8)} {t : List Cl} (ht : t.length ≤ 60) : (quickD ids t).1.length ≤ 10000 ∧ (quickD ids t).2.1.length ≤ 10000 := by
  unfold quickD
  repeat' split
  all_goals first | exact ⟨Nat.zero_le _, Nat.zero_le _⟩ | skip
  have h := peelT_small2 (subT (ofT t.length ids).1 t).1
  have h2 : (subT (ofT t.length ids).1 t).1.length ≤ 3000 := by
    unfold subT
    repeat' split
    all_goals first | (simp only [List.length_nil]; omega) | skip
    rename_i hl _
    rw [subL_len hl, hl]
    omega
  exact ⟨Nat.le_trans h.2 (by omega), Nat.le_trans h.1 (by omega)⟩
set_option maxRecDepth 100000 in
set_option maxHeartbeats 4000000 in
theorem law48_run {S1 S2 S3 : Nat → Prop} (w : World) (va : Value) (a : List (List UInt8)) (hA : DigR S1 w va a) (_hla : a.length ≤ 4611686018427387904) (vb : Value) (b : List (List UInt8)) (hB0 : DigR S2 w vb b) (_hlb : b.length ≤ 4611686018427387904) (vt : Value) (t : List Cl) (hT : TabR S3 w vt t) (_hnt : Tnok t) (_hlt : t.length ≤ 4611686018427387904) :
    Calls Tryz.prog 3 #[va, vb, vt] w fun e w' => e = .returned (.bool true) ∧ Below w.heap.size w w' := by
  obtain ⟨oa, ca, rfl⟩ : ∃ o c, va = .slice o a.length c := by obtain ⟨⟨o, c, e, _⟩, _⟩ := hA; rw [digC_size] at e; exact ⟨o, c, e⟩
  obtain ⟨ob, cb, rfl⟩ : ∃ o c, vb = .slice o b.length c := by obtain ⟨⟨o, c, e, _⟩, _⟩ := hB0; rw [digC_size] at e; exact ⟨o, c, e⟩
  obtain ⟨ot, ct, rfl⟩ : ∃ o c, vt = .slice o t.length c := by obtain ⟨⟨o, c, e, _⟩, _⟩ := hT; rw [tabC_size] at e; exact ⟨o, c, e⟩
  have HA := Lib.hid hA
  have HB := Lib.hid hB0
  have HT := Lib.hid hT
  clear hA hB0 hT _hla _hlb _hnt _hlt
  go_enter Tryz.func3, Tryz.ntmps3
  by_cases h1 : 60 < (a.length : Int)
  · clear HA HB HT
    go_wp2_with fail
    refine (law48_awake _).mono ?_
    rintro e w9 ⟨rfl, hb9⟩
    go_wp2
    go_ret
    exact ⟨rfl, hb9⟩
  · by_cases h2 : 60 < (b.length : Int)
    · clear HA HB HT
      go_wp2_with fail
      refine (law48_awake _).mono ?_
      rintro e w9 ⟨rfl, hb9⟩
      go_wp2
      go_ret
      exact ⟨rfl, hb9⟩
    · by_cases h3 : 60 < (t.length : Int)
      · clear HA HB HT
        go_wp2_with fail
        refine (law48_awake _).mono ?_
        rintro e w9 ⟨rfl, hb9⟩
        go_wp2
        go_ret
        exact ⟨rfl, hb9⟩
      · have La : Hid (a.length ≤ 60) := Lib.hid (by omega)
        have Lb : Hid (b.length ≤ 60) := Lib.hid (by omega)
        have Lt : Hid (t.length ≤ 60) := Lib.hid (by omega)
        have Rs := Lib.hid (run_small HA.out.2 HB.out.2 La.out Lb.out)
        have Qs := Lib.hid (quick_small (ids := a) Lt.out)
        have R1 := Lib.hid fun W (hW : Below w.heap.size w W) => rc_Run W _ _ a b (HA.out.below hW) (HB.out.below hW) La.out Lb.out
        have R2 := Lib.hid fun W (hW : Below w.heap.size w W) => rf_Run W _ _ a b (HA.out.below hW) (HB.out.below hW) La.out Lb.out
        have Q1 := Lib.hid fun W (hW : Below w.heap.size w W) => rc_Quick W _ a (HA.out.below hW) _ t (HT.out.below hW) (by have := La.out; omega) (by have := Lt.out; omega)
        have Q2 := Lib.hid fun W (hW : Below w.heap.size w W) => rf_Quick W _ a (HA.out.below hW) _ t (HT.out.below hW) (by have := La.out; omega) (by have := Lt.out; omega)
        generalize runR a b = r at *
        generalize quickD a t = q at *
        go_wp2_with fail
        refine (R1.out w (Below.refl _ _)).mono ?_
        rintro e w1 ⟨u1, v1, rfl, hu1, hv1, hb1⟩
        have HU1 := Lib.hid hu1
        have HV1 := Lib.hid hv1
        clear hu1 hv1
        go_wp2_with fail
        refine (R2.out w1 hb1).mono ?_
        rintro e w2 ⟨u2, v2, rfl, hu2, hv2, hb2⟩
        have hB2 := Below.then hb1 hb2 hb1.size
        have HU2 := Lib.hid hu2
        have HV2 := Lib.hid hv2
        have HU1b := Lib.hid (HU1.out.below hb2)
        have HV1b := Lib.hid (HV1.out.below hb2)
        clear hu2 hv2 HU1 HV1 hb1 hb2
        go_wp2_with fail
        refine (Q1.out w2 hB2).mono ?_
        rintro e w3 ⟨u3, v3, rfl, hu3, hv3, hb3⟩
        have hB3 := Below.then hB2 hb3 hB2.size
        have HU3 := Lib.hid hu3
        have HV3 := Lib.hid hv3
        clear hu3 hv3
        go_wp2_with fail
        refine (Q2.out w3 hB3).mono ?_
        rintro e w4 ⟨u4, v4, rfl, hu4, hv4, hb4⟩
        have hB4 := Below.then hB3 hb4 hB3.size
        have HU4 := Lib.hid hu4
        have HV4 := Lib.hid hv4
        have b34 := Below.then hb3 hb4 hb3.size
        clear hu4 hv4
        go_wp2_with fail
        refine (ref02_Same (S := fun _ => True) w4 _ _ r.1 r.1 ((HU1b.out.below b34).mono fun _ _ => trivial) ((HU2.out.below b34).mono fun _ _ => trivial) (by have := Rs.out; omega) (by have := Rs.out; omega)).mono ?_
        rintro e w5 ⟨rfl, hb5⟩
        have c5 := Below.then b34 hb5 b34.size
        go_wp2_with fail
        refine (ref02_Same (S := fun _ => True) w5 _ _ r.2.1 r.2.1 ((HV1b.out.below c5).mono fun _ _ => trivial) ((HV2.out.below c5).mono fun _ _ => trivial) (by have := Rs.out; omega) (by have := Rs.out; omega)).mono ?_
        rintro e w6 ⟨rfl, hb6⟩
        have d6 := Below.then hb5 hb6 hb5.size
        have d36 := Below.then hb4 d6 hb4.size
        go_wp2_with fail
        refine (ref02_Same (S := fun _ => True) w6 _ _ q.1 q.1 ((HU3.out.below d36).mono fun _ _ => trivial) ((HU4.out.below d6).mono fun _ _ => trivial) (by have := Qs.out; omega) (by have := Qs.out; omega)).mono ?_
        rintro e w7 ⟨rfl, hb7⟩
        have d7 := Below.then d6 hb7 d6.size
        have d37 := Below.then d36 hb7 d36.size
        go_wp2_with fail
        refine (ref02_Same (S := fun _ => True) w7 _ _ q.2.1 q.2.1 ((HV3.out.below d37).mono fun _ _ => trivial) ((HV4.out.below d7).mono fun _ _ => trivial) (by have := Qs.out; omega) (by have := Qs.out; omega)).mono ?_
        rintro e w8 ⟨rfl, hb8⟩
        have hB8 := Below.then hB4 (Below.then d7 hb8 d7.size) hB4.size
        clear c5 d6 d36 d7 d37 hb3 hb4 hb5 hb6 hb7 hb8 b34 hB2 hB3 hB4
        go_wp2_with fail
        refine (law48_awake _).mono ?_
        rintro e w9 ⟨rfl, hb9⟩
        go_wp2
        go_ret
        exact ⟨rfl, Below.then hB8 hb9 hB8.size⟩
end Go.Proofs.YtebgopdmeghmhaaGreat
