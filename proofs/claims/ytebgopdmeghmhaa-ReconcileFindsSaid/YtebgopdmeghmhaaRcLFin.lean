/- law ReconcileFinds: the walk. -/
import Derived.Test.YtebgopdmeghmhaaRcAwake
import Derived.Test.YtebgopdmeghmhaaRcIn
import Derived.Test.YtebgopdmeghmhaaRcCol
namespace Go.Proofs.Ytebgopdmeghmhaa
open Go.RowKit

set_option maxRecDepth 100000 in
set_option maxHeartbeats 4000000 in
theorem law48_finds {S1 S2 : Nat → Prop} (w : World) (va : Value) (a : List (List UInt8)) (hA : DigR S1 w va a) (_hla : a.length ≤ 4611686018427387904) (vb : Value) (b : List (List UInt8)) (hB0 : DigR S2 w vb b) (_hlb : b.length ≤ 4611686018427387904) :
    Calls Try.prog 5 #[va, vb] w fun e w' => e = .returned (.bool true) ∧ Below w.heap.size w w' := by
  obtain ⟨oa, ca, rfl⟩ : ∃ o c, va = .slice o a.length c := by obtain ⟨⟨o, c, e, _⟩, _⟩ := hA; rw [digC_size] at e; exact ⟨o, c, e⟩
  obtain ⟨ob, cb, rfl⟩ : ∃ o c, vb = .slice o b.length c := by obtain ⟨⟨o, c, e, _⟩, _⟩ := hB0; rw [digC_size] at e; exact ⟨o, c, e⟩
  have HA := Lib.hid hA
  have HB := Lib.hid hB0
  clear hA hB0 _hla _hlb
  go_enter Try.func5, Try.ntmps5
  by_cases h1 : 60 < (a.length : Int)
  · clear HA HB
    go_wp2_with fail
    refine (law48_awake _).mono ?_
    rintro e w9 ⟨rfl, hb9⟩
    go_wp2
    go_ret
    first | exact ⟨rfl, hb9⟩ | exact ⟨rfl, Below.then hB2 hb9 hB2.size⟩ | exact ⟨rfl, Below.then hb1 hb9 hb1.size⟩
  · by_cases h2 : 60 < (b.length : Int)
    · clear HA HB
      go_wp2_with fail
      refine (law48_awake _).mono ?_
      rintro e w9 ⟨rfl, hb9⟩
      go_wp2
      go_ret
      first | exact ⟨rfl, hb9⟩ | exact ⟨rfl, Below.then hB2 hb9 hB2.size⟩ | exact ⟨rfl, Below.then hb1 hb9 hb1.size⟩
    · have La : Hid (a.length ≤ 60) := Lib.hid (by omega)
      have Lb : Hid (b.length ≤ 60) := Lib.hid (by omega)
      go_wp2_with fail
      refine (rf_ascending w _ a HA.out (by have := La.out; omega)).mono ?_
      rintro e w1 ⟨rfl, hb1⟩
      cases hxa : ascB a
      · clear HA HB
        go_wp2_with fail
        refine (law48_awake _).mono ?_
        rintro e w9 ⟨rfl, hb9⟩
        go_wp2
        go_ret
        first | exact ⟨rfl, hb9⟩ | exact ⟨rfl, Below.then hB2 hb9 hB2.size⟩ | exact ⟨rfl, Below.then hb1 hb9 hb1.size⟩
      · go_wp2_with fail
        refine (rf_ascending w1 _ b (HB.out.below hb1) (by have := Lb.out; omega)).mono ?_
        rintro e w2 ⟨rfl, hb2⟩
        have hB2 := Below.then hb1 hb2 hb1.size
        cases hxb : ascB b
        · clear HA HB
          go_wp2_with fail
          refine (law48_awake _).mono ?_
          rintro e w9 ⟨rfl, hb9⟩
          go_wp2
          go_ret
          first | exact ⟨rfl, hb9⟩ | exact ⟨rfl, Below.then hB2 hb9 hB2.size⟩ | exact ⟨rfl, Below.then hb1 hb9 hb1.size⟩
        · have Xa := Lib.hid (of_decide_eq_true hxa)
          have Xb := Lib.hid (of_decide_eq_true hxb)
          have HA2 := Lib.hid (HA.out.below hB2)
          have HB2 := Lib.hid (HB.out.below hB2)
          have Da := Lib.hid HA.out.2
          have Db := Lib.hid HB.out.2
          have Run := Lib.hid fun W (hW : Below w.heap.size w W) => rc_Run W _ _ a b (HA.out.below hW) (HB.out.below hW) La.out Lb.out
          clear hxa hxb hb1 hb2 HA HB h1 h2
          have Fi := Lib.hid (run_finds Xa.out Xb.out Da.out Db.out La.out Lb.out)
          have Nv := Lib.hid (run_never Xa.out Xb.out Da.out Db.out La.out Lb.out)
          have Lx : Hid ((runR a b).1.length ≤ 60) := Lib.hid (Nat.le_trans (nodup_len Nv.out.2.2.1.nodup Xb.out.nodup fun d hd => (Nv.out.1 d hd).1) Lb.out)
          have Ly : Hid ((runR a b).2.1.length ≤ 60) := Lib.hid (Nat.le_trans (nodup_len Nv.out.2.2.2.nodup Xa.out.nodup fun d hd => (Nv.out.2.1 d hd).1) La.out)
          have Ok1 : Hid (Dok (withoutD b a)) := Lib.hid fun d hd => Db.out d (without_mem.1 hd).1
          have Ok2 : Hid (Dok (withoutD a b)) := Lib.hid fun d hd => Da.out d (without_mem.1 hd).1
          have Lw1 : Hid ((withoutD b a).length ≤ 60) := Lib.hid (Nat.le_trans (List.length_filter_le _ _) Lb.out)
          have Lw2 : Hid ((withoutD a b).length ≤ 60) := Lib.hid (Nat.le_trans (List.length_filter_le _ _) La.out)
          go_wp2_with fail
          refine (Run.out w2 hB2).mono ?_
          rintro e w3 ⟨u, v, rfl, hu, hv, hb3⟩
          have hB3 := Below.then hB2 hb3 hB2.size
          have HA3 := Lib.hid (HA2.out.below hb3)
          have HB3 := Lib.hid (HB2.out.below hb3)
          have HX := Lib.hid hu
          have HY := Lib.hid hv
          clear hu hv Run HA2 HB2 hb3 hB2
          go_wp2_with fail
          refine (rf_Without w3 _ _ b a HB3.out HA3.out (by have := Lb.out; omega) (by have := La.out; omega)).mono ?_
          rintro e w4 ⟨x, rfl, hx, hb4⟩
          go_wp2_with fail
          refine (ref02_Same (S := fun _ => True) w4 _ _ _ _ ((HX.out.below hb4).mono fun _ _ => trivial) ((DigR.owns hx Ok1.out).mono fun _ _ => trivial) (by have := Lx.out; omega) (by have := Lw1.out; omega)).mono ?_
          rintro e w5 ⟨rfl, hb5⟩
          have hQ5 := Below.then hb4 hb5 hb4.size
          clear hx hb4 hb5
          cases hd1 : decide ((runR a b).1 = withoutD b a)
          · have Hne : Hid (¬ ((runR a b).1 = withoutD b a ∧ (runR a b).2.1 = withoutD a b)) := Lib.hid fun h => of_decide_eq_false hd1 h.1
            have hQ := hQ5
            clear hd1 hQ5
            go_wp2_with fail
            refine (law48_collides _ _ _ a b (HA3.out.below hQ) (HB3.out.below hQ) La.out Lb.out).mono ?_
            rintro e w8 ⟨hr, hb8⟩
            have hB8 := Below.then (Below.then hB3 hQ hB3.size) hb8 (Nat.le_trans hB3.size hQ.size)
            obtain rfl : e = .returned (.bool true) := by
              rcases hr with hr | ⟨_, hr⟩
              · exact hr
              · exact absurd (Fi.out (not_coll Xa.out Xb.out hr)) Hne.out
            clear hr hb8 hQ hB3
            go_wp2_with fail
            refine (law48_awake _).mono ?_
            rintro e w9 ⟨rfl, hb9⟩
            go_wp2
            go_ret
            exact ⟨rfl, Below.then hB8 hb9 hB8.size⟩
          · go_wp2_with fail
            refine (rf_Without w5 _ _ a b (HA3.out.below hQ5) (HB3.out.below hQ5) (by have := La.out; omega) (by have := Lb.out; omega)).mono ?_
            rintro e w6 ⟨y, rfl, hy, hb6⟩
            have hQ6 := Below.then hQ5 hb6 hQ5.size
            clear hQ5 hb6
            go_wp2_with fail
            refine (ref02_Same (S := fun _ => True) w6 _ _ _ _ ((HY.out.below hQ6).mono fun _ _ => trivial) ((DigR.owns hy Ok2.out).mono fun _ _ => trivial) (by have := Ly.out; omega) (by have := Lw2.out; omega)).mono ?_
            rintro e w7 ⟨rfl, hb7⟩
            have hQ := Below.then hQ6 hb7 hQ6.size
            clear hy hb7 hQ6
            cases hd2 : decide ((runR a b).2.1 = withoutD a b)
            · have Hne : Hid (¬ ((runR a b).1 = withoutD b a ∧ (runR a b).2.1 = withoutD a b)) := Lib.hid fun h => of_decide_eq_false hd2 h.2
              clear hd1 hd2
              go_wp2_with fail
              refine (law48_collides _ _ _ a b (HA3.out.below hQ) (HB3.out.below hQ) La.out Lb.out).mono ?_
              rintro e w8 ⟨hr, hb8⟩
              have hB8 := Below.then (Below.then hB3 hQ hB3.size) hb8 (Nat.le_trans hB3.size hQ.size)
              obtain rfl : e = .returned (.bool true) := by
                rcases hr with hr | ⟨_, hr⟩
                · exact hr
                · exact absurd (Fi.out (not_coll Xa.out Xb.out hr)) Hne.out
              clear hr hb8 hQ hB3
              go_wp2_with fail
              refine (law48_awake _).mono ?_
              rintro e w9 ⟨rfl, hb9⟩
              go_wp2
              go_ret
              exact ⟨rfl, Below.then hB8 hb9 hB8.size⟩
            · have hB7 := Below.then hB3 hQ hB3.size
              go_wp2_with fail
              refine (law48_awake _).mono ?_
              rintro e w9 ⟨rfl, hb9⟩
              go_wp2
              go_ret
              exact ⟨rfl, Below.then hB7 hb9 hB7.size⟩
end Go.Proofs.Ytebgopdmeghmhaa
