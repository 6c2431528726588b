/- law IbltDifference: the walk. -/
import Derived.Test.YtfligkncdlocaaaLAw
import Derived.Test.YtfligkncdlocaaaRfOf
import Derived.Test.YtfligkncdlocaaaRfSub
namespace Go.Proofs.Ytfligkncdlocaaa
open Go.RowKit

theorem ofT_small {n : Int} {l : List (List UInt8)} : (ofT n l).1.length ≤ 1000000 := by
  unfold ofT
  cases h : allowedB n
  · simp
  · simp only [if_true]
    rw [ofFold_len, newT_len h]; have := allowedB_iff.1 h; omega
theorem subT_small {a b : List Cl} (h : a.length ≤ 1000000) : (subT a b).1.length ≤ 1000000 := by
  have hl : (subL a b).length ≤ 1000000 := by simp only [subL, List.length_zipWith]; omega
  unfold subT
  repeat' split
  all_goals first | exact hl | simp
set_option maxRecDepth 100000 in
set_option maxHeartbeats 2000000 in
theorem law47_diff {S1 S2 S3 : Nat → Prop} (w : World) (n : Int) (vl : Value) (l : List (List UInt8)) (hL : DigR S1 w vl l) (_hl : l.length ≤ 4611686018427387904) (va : Value) (a : List Cl) (hA : TabR S2 w va a) (_hna : Tnok a) (_hla : a.length ≤ 4611686018427387904) (vb : Value) (b : List Cl) (hB0 : TabR S3 w vb b) (_hnb : Tnok b) (_hlb : b.length ≤ 4611686018427387904) :
    Calls Try.prog 5 #[.int .i64 n, vl, va, vb] w fun e w' => e = .returned (.bool true) ∧ Below w.heap.size w w' := by
  obtain ⟨ol, cl, rfl⟩ : ∃ o c, vl = .slice o l.length c := by obtain ⟨⟨o, c, e, _⟩, _⟩ := hL; rw [digC_size] at e; exact ⟨o, c, e⟩
  obtain ⟨oa, ca, rfl⟩ : ∃ o c, va = .slice o a.length c := by obtain ⟨⟨o, c, e, _⟩, _⟩ := hA; rw [tabC_size] at e; exact ⟨o, c, e⟩
  obtain ⟨ob, cb, rfl⟩ : ∃ o c, vb = .slice o b.length c := by obtain ⟨⟨o, c, e, _⟩, _⟩ := hB0; rw [tabC_size] at e; exact ⟨o, c, e⟩
  have HL := Lib.hid hL
  have HA := Lib.hid (hA.mono (T := fun _ => True) fun _ _ => trivial)
  have HB := Lib.hid (hB0.mono (T := fun _ => True) fun _ _ => trivial)
  clear hL hA hB0 _hl _hna _hla _hnb _hlb
  go_enter Try.func5, Try.ntmps5
  by_cases hg : (60 < n ∧ n ≤ 3000) ∨ 20 < (l.length : Int) ∨ 60 < (a.length : Int) ∨ 60 < (b.length : Int)
  · clear HL HA HB
    by_cases h1 : 60 < n
    · by_cases h2 : n ≤ 3000
      · clear hg
        go_wp2_with fail
        refine (law47_awake _).mono ?_
        rintro e w2 ⟨rfl, hb2⟩
        go_wp2
        go_ret
        exact ⟨rfl, hb2⟩
      · by_cases h3 : 20 < (l.length : Int)
        · clear hg
          go_wp2_with fail
          refine (law47_awake _).mono ?_
          rintro e w2 ⟨rfl, hb2⟩
          go_wp2
          go_ret
          exact ⟨rfl, hb2⟩
        · by_cases h4 : 60 < (a.length : Int)
          · clear hg
            go_wp2_with fail
            refine (law47_awake _).mono ?_
            rintro e w2 ⟨rfl, hb2⟩
            go_wp2
            go_ret
            exact ⟨rfl, hb2⟩
          · have h5 : 60 < (b.length : Int) := by omega
            clear hg
            go_wp2_with fail
            refine (law47_awake _).mono ?_
            rintro e w2 ⟨rfl, hb2⟩
            go_wp2
            go_ret
            exact ⟨rfl, hb2⟩
    · by_cases h3 : 20 < (l.length : Int)
      · clear hg
        go_wp2_with fail
        refine (law47_awake _).mono ?_
        rintro e w2 ⟨rfl, hb2⟩
        go_wp2
        go_ret
        exact ⟨rfl, hb2⟩
      · by_cases h4 : 60 < (a.length : Int)
        · clear hg
          go_wp2_with fail
          refine (law47_awake _).mono ?_
          rintro e w2 ⟨rfl, hb2⟩
          go_wp2
          go_ret
          exact ⟨rfl, hb2⟩
        · have h5 : 60 < (b.length : Int) := by omega
          clear hg
          go_wp2_with fail
          refine (law47_awake _).mono ?_
          rintro e w2 ⟨rfl, hb2⟩
          go_wp2
          go_ret
          exact ⟨rfl, hb2⟩
  · have hx3 : ¬ 20 < (l.length : Int) := by omega
    have hx4 : ¬ 60 < (a.length : Int) := by omega
    have hx5 : ¬ 60 < (b.length : Int) := by omega
    by_cases h1 : 60 < n
    · have h2 : ¬ n ≤ 3000 := by omega
      clear hg
      go_wp2_with fail
      refine (iblt_Of _ _ n l HL.out (by omega)).mono ?_
      rintro e w2 ⟨v1, he, hV1, hb2⟩
      subst he
      have hL2 := Lib.hid (HL.out.below hb2)
      have hA2 := Lib.hid (HA.out.below hb2)
      have hC2 := Lib.hid (HB.out.below hb2)
      have hV12 := Lib.hid (hV1.mono (T := fun _ => True) fun _ _ => trivial)
      clear hV1 HL HA HB
      go_wp2_with fail
      refine (ref47_Of _ _ n l hL2.out (by omega)).mono ?_
      rintro e w3 ⟨v2, he, hV2, hb3⟩
      subst he
      have hB3 := Below.then hb2 hb3 hb2.size
      have hA3 := Lib.hid (hA2.out.below hb3)
      have hC3 := Lib.hid (hC2.out.below hb3)
      have hV13 := Lib.hid (hV12.out.below hb3)
      have hV23 := Lib.hid (hV2.mono (T := fun _ => True) fun _ _ => trivial)
      clear hV2 hL2 hA2 hC2 hV12 hb3
      go_wp2_with fail
      refine (iblt_Subtract _ _ _ a b hA3.out hC3.out (by omega) (by omega)).mono ?_
      rintro e w4 ⟨v3, he, hV3, hb4⟩
      subst he
      have hB4 := Below.then hB3 hb4 hB3.size
      have hA4 := Lib.hid (hA3.out.below hb4)
      have hC4 := Lib.hid (hC3.out.below hb4)
      have hV14 := Lib.hid (hV13.out.below hb4)
      have hV24 := Lib.hid (hV23.out.below hb4)
      have hV34 := Lib.hid (hV3.mono (T := fun _ => True) fun _ _ => trivial)
      clear hV3 hA3 hC3 hV13 hV23 hb4
      go_wp2_with fail
      refine (ref47_Subtract _ _ _ a b hA4.out hC4.out (by omega) (by omega)).mono ?_
      rintro e w5 ⟨v4, he, hV4, hb5⟩
      subst he
      have hB5 := Below.then hB4 hb5 hB4.size
      have hV35 := Lib.hid (hV34.out.below hb5)
      have hV45 := Lib.hid (hV4.mono (T := fun _ => True) fun _ _ => trivial)
      have Hs := Lib.hid (ref47_Same w5 _ _ _ _ (hV14.out.below hb5) (hV24.out.below hb5) ofT_small ofT_small)
      rw [decide_eq_true rfl] at Hs
      clear hV4 hV14 hV24 hA4 hC4 hV34 hb5
      go_wp2_with fail
      refine Hs.out.mono ?_
      rintro e w6 ⟨rfl, hb6⟩
      have hB6 := Below.then hB5 hb6 hB5.size
      have Hs2 := Lib.hid (ref47_Same w6 _ _ _ _ (hV35.out.below hb6) (hV45.out.below hb6) (subT_small (by omega)) (subT_small (by omega)))
      rw [decide_eq_true rfl] at Hs2
      clear hb6 hV35 hV45 Hs
      go_wp2_with fail
      refine Hs2.out.mono ?_
      rintro e w7 ⟨rfl, hb7⟩
      have hB7 := Below.then hB6 hb7 hB6.size
      clear hb7 Hs2
      go_wp2_with fail
      refine (law47_awake _).mono ?_
      rintro e w10 ⟨rfl, hb10⟩
      have hB10 := Below.then hB7 hb10 hB7.size
      go_wp2
      go_ret
      exact ⟨rfl, hB10⟩
    · clear hg
      go_wp2_with fail
      refine (iblt_Of _ _ n l HL.out (by omega)).mono ?_
      rintro e w2 ⟨v1, he, hV1, hb2⟩
      subst he
      have hL2 := Lib.hid (HL.out.below hb2)
      have hA2 := Lib.hid (HA.out.below hb2)
      have hC2 := Lib.hid (HB.out.below hb2)
      have hV12 := Lib.hid (hV1.mono (T := fun _ => True) fun _ _ => trivial)
      clear hV1 HL HA HB
      go_wp2_with fail
      refine (ref47_Of _ _ n l hL2.out (by omega)).mono ?_
      rintro e w3 ⟨v2, he, hV2, hb3⟩
      subst he
      have hB3 := Below.then hb2 hb3 hb2.size
      have hA3 := Lib.hid (hA2.out.below hb3)
      have hC3 := Lib.hid (hC2.out.below hb3)
      have hV13 := Lib.hid (hV12.out.below hb3)
      have hV23 := Lib.hid (hV2.mono (T := fun _ => True) fun _ _ => trivial)
      clear hV2 hL2 hA2 hC2 hV12 hb3
      go_wp2_with fail
      refine (iblt_Subtract _ _ _ a b hA3.out hC3.out (by omega) (by omega)).mono ?_
      rintro e w4 ⟨v3, he, hV3, hb4⟩
      subst he
      have hB4 := Below.then hB3 hb4 hB3.size
      have hA4 := Lib.hid (hA3.out.below hb4)
      have hC4 := Lib.hid (hC3.out.below hb4)
      have hV14 := Lib.hid (hV13.out.below hb4)
      have hV24 := Lib.hid (hV23.out.below hb4)
      have hV34 := Lib.hid (hV3.mono (T := fun _ => True) fun _ _ => trivial)
      clear hV3 hA3 hC3 hV13 hV23 hb4
      go_wp2_with fail
      refine (ref47_Subtract _ _ _ a b hA4.out hC4.out (by omega) (by omega)).mono ?_
      rintro e w5 ⟨v4, he, hV4, hb5⟩
      subst he
      have hB5 := Below.then hB4 hb5 hB4.size
      have hV35 := Lib.hid (hV34.out.below hb5)
      have hV45 := Lib.hid (hV4.mono (T := fun _ => True) fun _ _ => trivial)
      have Hs := Lib.hid (ref47_Same w5 _ _ _ _ (hV14.out.below hb5) (hV24.out.below hb5) ofT_small ofT_small)
      rw [decide_eq_true rfl] at Hs
      clear hV4 hV14 hV24 hA4 hC4 hV34 hb5
      go_wp2_with fail
      refine Hs.out.mono ?_
      rintro e w6 ⟨rfl, hb6⟩
      have hB6 := Below.then hB5 hb6 hB5.size
      have Hs2 := Lib.hid (ref47_Same w6 _ _ _ _ (hV35.out.below hb6) (hV45.out.below hb6) (subT_small (by omega)) (subT_small (by omega)))
      rw [decide_eq_true rfl] at Hs2
      clear hb6 hV35 hV45 Hs
      go_wp2_with fail
      refine Hs2.out.mono ?_
      rintro e w7 ⟨rfl, hb7⟩
      have hB7 := Below.then hB6 hb7 hB6.size
      clear hb7 Hs2
      go_wp2_with fail
      refine (law47_awake _).mono ?_
      rintro e w10 ⟨rfl, hb10⟩
      have hB10 := Below.then hB7 hb10 hB7.size
      go_wp2
      go_ret
      exact ⟨rfl, hB10⟩
end Go.Proofs.Ytfligkncdlocaaa
