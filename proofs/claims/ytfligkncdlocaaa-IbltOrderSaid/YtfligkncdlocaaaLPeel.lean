/- law IbltPeel: the walk. -/
import Derived.Test.YtfligkncdlocaaaLAw
import Derived.Test.YtfligkncdlocaaaRfPeel
namespace Go.Proofs.Ytfligkncdlocaaa
open Go.RowKit

theorem peelN_small (t : List Cl) : ∀ k, (peelN k ⟨t, [], []⟩).p.length ≤ k ∧ (peelN k ⟨t, [], []⟩).m.length ≤ k
  | 0 => ⟨Nat.le_refl _, Nat.le_refl _⟩
  | k + 1 => by
    have ih := peelN_small t k
    show (peel1 (peelN k ⟨t, [], []⟩)).p.length ≤ _ ∧ (peel1 (peelN k ⟨t, [], []⟩)).m.length ≤ _
    generalize peelN k ⟨t, [], []⟩ = s at ih
    unfold peel1
    split
    · omega
    · unfold peelAt
      dsimp only
      constructor <;> split <;> (try rw [List.length_append, List.length_singleton]) <;> omega
theorem peelT_small (t : List Cl) : (peelT t).1.length ≤ t.length ∧ (peelT t).2.1.length ≤ t.length := by
  have h := peelN_small t t.length
  unfold peelT
  repeat' split
  · simp
  · rw [sortD_len, sortD_len]; exact h
  · simp
set_option maxRecDepth 100000 in
set_option maxHeartbeats 2000000 in
theorem law47_peel {S : Nat → Prop} (w : World) (va : Value) (a : List Cl) (hA : TabR S w va a) (_hna : Tnok a) (_hla : a.length ≤ 4611686018427387904) :
    Calls Try.prog 3 #[va] w fun e w' => e = .returned (.bool true) ∧ Below w.heap.size w w' := by
  obtain ⟨oa, ca, rfl⟩ : ∃ o c, va = .slice o a.length c := by obtain ⟨⟨o, c, e, _⟩, _⟩ := hA; rw [tabC_size] at e; exact ⟨o, c, e⟩
  have HA := Lib.hid hA
  clear hA _hna _hla
  go_enter Try.func3, Try.ntmps3
  by_cases hg : 60 < (a.length : Int)
  · clear HA
    go_wp2_with fail
    refine (law47_awake _).mono ?_
    rintro e w2 ⟨rfl, hb2⟩
    go_wp2
    go_ret
    exact ⟨rfl, hb2⟩
  · have hp1 := iblt_Peel w _ a HA.out (by omega)
    have hp2 := fun w2 hA2 => ref47_Peel (S := S) w2 (.slice oa a.length ca) a hA2 (by omega)
    have hsm := peelT_small a
    generalize peelT a = x at hp1 hp2 hsm
    obtain ⟨p, m, b⟩ := x
    have Hsm : Hid (p.length ≤ 1000000 ∧ m.length ≤ 1000000) := Lib.hid (by dsimp only at hsm; omega)
    have Hp1 := Lib.hid hp1
    have Hp2 := Lib.hid hp2
    clear hp1 hp2 hsm
    go_wp2_with fail
    refine Hp1.out.mono ?_
    rintro e w2 ⟨vp, vm, he, hP, hM, hb2⟩
    have he' : e = .returned (.tuple #[vp, vm, .bool b]) := he
    clear he
    subst he'
    have Hp3 := Lib.hid (Hp2.out w2 (HA.out.below hb2))
    have HP := Lib.hid hP
    have HM := Lib.hid hM
    clear hP hM Hp2 Hp1 HA
    go_wp2_with fail
    refine Hp3.out.mono ?_
    rintro e w3 ⟨vp2, vm2, he, hP2, hM2, hb3⟩
    have he' : e = .returned (.tuple #[vp2, vm2, .bool b]) := he
    clear he
    subst he'
    have hB3 := Below.then hb2 hb3 hb2.size
    have hs1 := ref02_Same (S := fun _ => True) w3 vp vp2 p p ((HP.out.below hb3).mono fun _ _ => trivial) (hP2.mono fun _ _ => trivial) Hsm.out.1 Hsm.out.1
    rw [decide_eq_true rfl] at hs1
    have HM3 := Lib.hid ((HM.out.below hb3).mono (T := fun _ => True) fun _ _ => trivial)
    have HM2 := Lib.hid (hM2.mono (T := fun _ => True) fun _ _ => trivial)
    have Hs1 := Lib.hid hs1
    clear hs1 hP2 hM2 HP HM hb3 hb2 Hp3
    cases b
    case false =>
      go_wp2_with fail
      refine Hs1.out.mono ?_
      rintro e w4 ⟨rfl, hb4⟩
      have hB4 := Below.then hB3 hb4 hB3.size
      have Hs2 := Lib.hid (ref02_Same (S := fun _ => True) w4 vm vm2 m m (HM3.out.below hb4) (HM2.out.below hb4) Hsm.out.2 Hsm.out.2)
      rw [decide_eq_true rfl] at Hs2
      clear hb4 HM3 HM2 Hs1
      go_wp2_with fail
      refine Hs2.out.mono ?_
      rintro e w5 ⟨rfl, hb5⟩
      have hB5 := Below.then hB4 hb5 hB4.size
      go_wp2_with fail
      refine (law47_awake _).mono ?_
      rintro e w6 ⟨rfl, hb6⟩
      have hB6 := Below.then hB5 hb6 hB5.size
      go_wp2
      go_ret
      exact ⟨rfl, hB6⟩
    case true =>
      go_wp2_with fail
      refine Hs1.out.mono ?_
      rintro e w4 ⟨rfl, hb4⟩
      have hB4 := Below.then hB3 hb4 hB3.size
      have Hs2 := Lib.hid (ref02_Same (S := fun _ => True) w4 vm vm2 m m (HM3.out.below hb4) (HM2.out.below hb4) Hsm.out.2 Hsm.out.2)
      rw [decide_eq_true rfl] at Hs2
      clear hb4 HM3 HM2 Hs1
      go_wp2_with fail
      refine Hs2.out.mono ?_
      rintro e w5 ⟨rfl, hb5⟩
      have hB5 := Below.then hB4 hb5 hB4.size
      go_wp2_with fail
      refine (law47_awake _).mono ?_
      rintro e w6 ⟨rfl, hb6⟩
      have hB6 := Below.then hB5 hb6 hB5.size
      go_wp2
      go_ret
      exact ⟨rfl, hB6⟩
end Go.Proofs.Ytfligkncdlocaaa
