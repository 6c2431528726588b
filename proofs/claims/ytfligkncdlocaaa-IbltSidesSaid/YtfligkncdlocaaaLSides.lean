/- law IbltSides: the walk. -/
import Derived.Test.YtfligkncdlocaaaLSub
import Derived.Test.YtfligkncdlocaaaLDiff
namespace Go.Proofs.Ytfligkncdlocaaa
open Go.RowKit

set_option maxRecDepth 100000 in
set_option maxHeartbeats 2000000 in
theorem law47_sides {S1 S2 : Nat → Prop} (w : World) (va : Value) (a : List Cl) (hA : TabR S1 w va a) (_hna : Tnok a) (_hla : a.length ≤ 4611686018427387904) (vb : Value) (b : List Cl) (hB0 : TabR S2 w vb b) (_hnb : Tnok b) (_hlb : b.length ≤ 4611686018427387904) :
    Calls Try.prog 8 #[va, vb] w fun e w' => e = .returned (.bool true) ∧ Below w.heap.size w w' := by
  obtain ⟨oa, ca, rfl⟩ : ∃ o c, va = .slice o a.length c := by obtain ⟨⟨o, c, e, _⟩, _⟩ := hA; rw [tabC_size] at e; exact ⟨o, c, e⟩
  obtain ⟨ob, cb, rfl⟩ : ∃ o c, vb = .slice o b.length c := by obtain ⟨⟨o, c, e, _⟩, _⟩ := hB0; rw [tabC_size] at e; exact ⟨o, c, e⟩
  have HA := Lib.hid (hA.mono (T := fun _ => True) fun _ _ => trivial)
  have HB := Lib.hid (hB0.mono (T := fun _ => True) fun _ _ => trivial)
  obtain ⟨s1, s2, s3⟩ := sides hA.2 hB0.2
  have sn := subT_nok hA.2 hB0.2
  have sl := subT_small (a := a) (b := b)
  have hsA := fun h1 h2 => iblt_Subtract w (.slice oa a.length ca) (.slice ob b.length cb) a b HA.out HB.out h1 h2
  have hsB := fun w2 h3 h4 h1 h2 => iblt_Subtract (S := fun _ => True) w2 (.slice ob b.length cb) (.slice oa a.length ca) b a h3 h4 h1 h2
  generalize subT a b = x at s1 s2 s3 sn sl hsA
  generalize subT b a = y at s1 s2 s3 hsB
  obtain ⟨s, e⟩ := x
  obtain ⟨t, f⟩ := y
  dsimp only at s1 s2 s3 sn sl
  have HsA := Lib.hid hsA
  have HsB := Lib.hid hsB
  have Hs1 := Lib.hid s1
  have Hs3 := Lib.hid s3
  have Hsn := Lib.hid sn
  have Hsl := Lib.hid sl
  clear hA hB0 _hla _hna _hnb _hlb hsA hsB s1 s3 sn sl
  go_enter Try.func8, Try.ntmps8
  by_cases hg : 60 < (a.length : Int) ∨ 60 < (b.length : Int)
  · clear HA HB HsA HsB s2
    by_cases h1 : 60 < (a.length : Int)
    · clear hg
      go_wp2_with fail
      refine (law47_awake _).mono ?_
      rintro e w2 ⟨rfl, hb2⟩
      go_wp2
      go_ret
      exact ⟨rfl, hb2⟩
    · have h2 : 60 < (b.length : Int) := by omega
      clear hg
      go_wp2_with fail
      refine (law47_awake _).mono ?_
      rintro e w2 ⟨rfl, hb2⟩
      go_wp2
      go_ret
      exact ⟨rfl, hb2⟩
  · have h1 : ¬ 60 < (a.length : Int) := by omega
    have h2 : ¬ 60 < (b.length : Int) := by omega
    have hee : Hid (e = 0 ↔ f = 0) := Lib.hid s2
    clear hg s2
    go_wp2_with fail
    refine (HsA.out (by omega) (by omega)).mono ?_
    rintro e1 w2 ⟨v1, he, hV1, hb2⟩
    have he' : e1 = .returned (.tuple #[v1, .int .i64 e]) := he
    clear he
    subst he'
    have HV1 := Lib.hid (hV1.mono (T := fun _ => True) fun _ _ => trivial)
    have Hsb := Lib.hid (HsB.out w2 (HB.out.below hb2) (HA.out.below hb2) (by omega) (by omega))
    clear hV1 HsA HsB HA HB
    go_wp2_with fail
    refine Hsb.out.mono ?_
    rintro e2 w3 ⟨v2, he, hV2, hb3⟩
    have he' : e2 = .returned (.tuple #[v2, .int .i64 f]) := he
    clear he
    subst he'
    have hB3 := Below.then hb2 hb3 hb2.size
    have HV2 := Lib.hid (hV2.mono (T := fun _ => True) fun _ _ => trivial)
    have HV3 := Lib.hid (HV1.out.below hb3)
    clear hV2 hb2 hb3 HV1 Hsb
    by_cases h0 : e = 0
    · have hf0 := hee.out.1 h0
      subst h0
      subst hf0
      have hpl := iblt_Peel w3 v1 s HV3.out (Hsl.out (by omega))
      have hpl2 := fun w4 h => iblt_Peel (S := fun _ => True) w4 v2 t h (by rw [Hs1.out, negT_len]; exact Hsl.out (by omega))
      rw [Hs1.out, peelT_neg Hsn.out] at hpl2
      have hsm := peelT_small s
      have hss := Hsl.out (by omega)
      generalize peelT s = z at hpl hpl2 hsm
      obtain ⟨p, m, q⟩ := z
      have Hsm : Hid (p.length ≤ 1000000 ∧ m.length ≤ 1000000) := Lib.hid (by dsimp only at hsm; omega)
      have Hpl := Lib.hid hpl
      have Hpl2 := Lib.hid hpl2
      clear hpl hpl2 hsm hss HV3
      go_wp2_with fail
      refine Hpl.out.mono ?_
      rintro e1 w4 ⟨vp, vm, he, hP, hM, hb4⟩
      have he' : e1 = .returned (.tuple #[vp, vm, .bool q]) := he
      clear he
      subst he'
      have hB4 := Below.then hB3 hb4 hB3.size
      have Hpl3 := Lib.hid (Hpl2.out w4 (by rw [← Hs1.out]; exact HV2.out.below hb4))
      have HP := Lib.hid (hP.mono (T := fun _ => True) fun _ _ => trivial)
      have HM := Lib.hid (hM.mono (T := fun _ => True) fun _ _ => trivial)
      clear hP hM Hpl Hpl2 HV2 hb4
      go_wp2_with fail
      refine Hpl3.out.mono ?_
      rintro e1 w5 ⟨vm2, vp2, he, hM2, hP2, hb5⟩
      have he' : e1 = .returned (.tuple #[vm2, vp2, .bool q]) := he
      clear he
      subst he'
      have hB5 := Below.then hB4 hb5 hB4.size
      have HM3 := Lib.hid (HM.out.below hb5)
      have HM2 := Lib.hid (hM2.mono (T := fun _ => True) fun _ _ => trivial)
      have Hq1 := Lib.hid (ref02_Same (S := fun _ => True) w5 vp vp2 p p (HP.out.below hb5) (hP2.mono fun _ _ => trivial) Hsm.out.1 Hsm.out.1)
      rw [decide_eq_true rfl] at Hq1
      clear hM2 hP2 HP HM hb5 Hpl3
      cases q
      case false =>
        go_wp2_with fail
        refine Hq1.out.mono ?_
        rintro e1 w6 ⟨rfl, hb6⟩
        have hB6 := Below.then hB5 hb6 hB5.size
        have Hq2 := Lib.hid (ref02_Same (S := fun _ => True) w6 vm vm2 m m (HM3.out.below hb6) (HM2.out.below hb6) Hsm.out.2 Hsm.out.2)
        rw [decide_eq_true rfl] at Hq2
        clear hb6 HM3 HM2 Hq1
        go_wp2_with fail
        refine Hq2.out.mono ?_
        rintro e1 w7 ⟨rfl, hb7⟩
        have hB7 := Below.then hB6 hb7 hB6.size
        go_wp2_with fail
        refine (law47_awake _).mono ?_
        rintro e1 w8 ⟨rfl, hb8⟩
        have hB8 := Below.then hB7 hb8 hB7.size
        go_wp2
        go_ret
        exact ⟨rfl, hB8⟩
      case true =>
        go_wp2_with fail
        refine Hq1.out.mono ?_
        rintro e1 w6 ⟨rfl, hb6⟩
        have hB6 := Below.then hB5 hb6 hB5.size
        have Hq2 := Lib.hid (ref02_Same (S := fun _ => True) w6 vm vm2 m m (HM3.out.below hb6) (HM2.out.below hb6) Hsm.out.2 Hsm.out.2)
        rw [decide_eq_true rfl] at Hq2
        clear hb6 HM3 HM2 Hq1
        go_wp2_with fail
        refine Hq2.out.mono ?_
        rintro e1 w7 ⟨rfl, hb7⟩
        have hB7 := Below.then hB6 hb7 hB6.size
        go_wp2_with fail
        refine (law47_awake _).mono ?_
        rintro e1 w8 ⟨rfl, hb8⟩
        have hB8 := Below.then hB7 hb8 hB7.size
        go_wp2
        go_ret
        exact ⟨rfl, hB8⟩
    · have hf0 : ¬ f = 0 := fun h => h0 (hee.out.2 h)
      have hst := Hs3.out h0
      obtain ⟨rfl, rfl⟩ := hst
      obtain ⟨o1, c1, rfl⟩ : ∃ o c, v1 = .slice o 0 c := by obtain ⟨⟨o, c, e, _⟩, _⟩ := HV3.out; exact ⟨o, c, e⟩
      obtain ⟨o2, c2, rfl⟩ : ∃ o c, v2 = .slice o 0 c := by obtain ⟨⟨o, c, e, _⟩, _⟩ := HV2.out; exact ⟨o, c, e⟩
      have b1 : (e != 0) = true := by simpa using h0
      have b2 : (e == 0) = false := by simpa using h0
      have b3 : (f == 0) = false := by simpa using hf0
      clear h0 hf0
      go_wp2_with fail
      refine (law47_awake _).mono ?_
      rintro e1 w4 ⟨rfl, hb4⟩
      have hB4 := Below.then hB3 hb4 hB3.size
      go_wp2
      go_ret
      exact ⟨rfl, hB4⟩
end Go.Proofs.Ytfligkncdlocaaa
