/- law IbltRestores: the walk. -/
import Derived.Test.YtfligkncdlocaaaLSub
namespace Go.Proofs.Ytfligkncdlocaaa
open Go.RowKit

set_option maxRecDepth 100000 in
set_option maxHeartbeats 2000000 in
theorem law47_rest {S : Nat → Prop} (w : World) (va : Value) (a : List Cl) (hA : TabR S w va a) (hna : Tnok a) (_hla : a.length ≤ 4611686018427387904) :
    Calls Try.prog 6 #[va] w fun e w' => e = .returned (.bool true) ∧ Below w.heap.size w w' := by
  obtain ⟨oa, ca, rfl⟩ : ∃ o c, va = .slice o a.length c := by obtain ⟨⟨o, c, e, _⟩, _⟩ := hA; rw [tabC_size] at e; exact ⟨o, c, e⟩
  have HA := Lib.hid hA
  have hp1 := fun hm => iblt_Peel w _ a hA hm
  have hsm := peelT_small a
  have hd := peelT_dok hna
  have hr := restores hna
  have hf := peelT_fail (t := a)
  generalize peelT a = x at hp1 hsm hd hr hf
  obtain ⟨p, m, b⟩ := x
  have Hp1 := Lib.hid hp1
  have Hsm := Lib.hid hsm
  have Hd := Lib.hid hd
  have Hr := Lib.hid hr
  have Hf := Lib.hid hf
  clear hA hna _hla hp1 hsm hd hr hf
  go_enter Try.func6, Try.ntmps6
  by_cases hg : 60 < (a.length : Int)
  · clear HA
    go_wp2_with fail
    refine (law47_awake _).mono ?_
    rintro e w2 ⟨rfl, hb2⟩
    go_wp2
    go_ret
    exact ⟨rfl, hb2⟩
  · go_wp2_with fail
    refine (Hp1.out (by omega)).mono ?_
    rintro e w2 ⟨vp, vm, he, hP, hM, hb2⟩
    have he' : e = .returned (.tuple #[vp, vm, .bool b]) := he
    clear he
    subst he'
    cases b
    · have hpm := Hf.out rfl
      obtain ⟨rfl, rfl⟩ := hpm
      obtain ⟨op, cp, rfl⟩ : ∃ o c, vp = .slice o 0 c := by obtain ⟨⟨o, c, e, _⟩, _⟩ := hP; exact ⟨o, c, e⟩
      obtain ⟨om, cm, rfl⟩ : ∃ o c, vm = .slice o 0 c := by obtain ⟨⟨o, c, e, _⟩, _⟩ := hM; exact ⟨o, c, e⟩
      clear hP hM Hp1 HA
      go_wp2_with fail
      refine (law47_awake _).mono ?_
      rintro e w3 ⟨rfl, hb3⟩
      have hB3 := Below.then hb2 hb3 hb2.size
      go_wp2
      go_ret
      exact ⟨rfl, hB3⟩
    · have hpm := Hr.out rfl
      have hs := law47_subtract w2 a.length hpm.1 vp p hP (by have := Hsm.out.1; omega) vm m hM (by have := Hsm.out.2; omega)
      rw [hpm.2] at hs
      have Hs := Lib.hid hs
      have HA2 := Lib.hid ((HA.out.below hb2).mono (T := fun _ => True) fun _ _ => trivial)
      clear hP hM Hp1 HA hs hpm Hr Hf
      go_wp2_with fail
      refine Hs.out.mono ?_
      rintro e w3 ⟨v3, rfl, hV3, hb3⟩
      have hB3 := Below.then hb2 hb3 hb2.size
      have Hs2 := Lib.hid (ref47_Same w3 _ _ _ _ hV3 (HA2.out.below hb3) (by omega) (by omega))
      rw [decide_eq_true rfl] at Hs2
      clear hV3 HA2 hb2 hb3 Hs
      go_wp2_with fail
      refine Hs2.out.mono ?_
      rintro e w4 ⟨rfl, hb4⟩
      have hB4 := Below.then hB3 hb4 hB3.size
      go_wp2_with fail
      refine (law47_awake _).mono ?_
      rintro e w5 ⟨rfl, hb5⟩
      have hB5 := Below.then hB4 hb5 hB4.size
      go_wp2
      go_ret
      exact ⟨rfl, hB5⟩
end Go.Proofs.Ytfligkncdlocaaa
