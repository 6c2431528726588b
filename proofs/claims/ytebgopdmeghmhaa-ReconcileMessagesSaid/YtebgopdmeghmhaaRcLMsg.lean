/- law ReconcileMessages: the walk. -/
import Derived.Test.YtebgopdmeghmhaaRcAwake
import Derived.Test.YtebgopdmeghmhaaRcIn
namespace Go.Proofs.Ytebgopdmeghmhaa
open Go.RowKit

set_option maxRecDepth 100000 in
set_option maxHeartbeats 4000000 in
theorem law48_messages {S1 S2 : Nat → Prop} (w : World) (va : Value) (a : List (List UInt8)) (hA : DigR S1 w va a) (_hla : a.length ≤ 4611686018427387904) (vb : Value) (b : List (List UInt8)) (hB0 : DigR S2 w vb b) (_hlb : b.length ≤ 4611686018427387904) :
    Calls Try.prog 7 #[va, vb] w fun e w' => e = .returned (.bool true) ∧ Below w.heap.size w w' := by
  obtain ⟨oa, ca, rfl⟩ : ∃ o c, va = .slice o a.length c := by obtain ⟨⟨o, c, e, _⟩, _⟩ := hA; rw [digC_size] at e; exact ⟨o, c, e⟩
  obtain ⟨ob, cb, rfl⟩ : ∃ o c, vb = .slice o b.length c := by obtain ⟨⟨o, c, e, _⟩, _⟩ := hB0; rw [digC_size] at e; exact ⟨o, c, e⟩
  have HA := Lib.hid hA
  have HB := Lib.hid hB0
  clear hA hB0 _hla _hlb
  go_enter Try.func7, Try.ntmps7
  by_cases h1 : 60 < (a.length : Int)
  · clear HA HB
    go_wp2_with fail
    refine (law48_awake _).mono ?_
    rintro e w9 ⟨rfl, hb9⟩
    go_wp2
    go_ret
    first | exact ⟨rfl, hb9⟩ | exact ⟨rfl, Below.then hB2 hb9 hB2.size⟩ | exact ⟨rfl, Below.then hb1 hb9 hb1.size⟩
  · by_cases h2 : 60 < (b.length : Int)
    · clear HA HB
      go_wp2_with fail
      refine (law48_awake _).mono ?_
      rintro e w9 ⟨rfl, hb9⟩
      go_wp2
      go_ret
      first | exact ⟨rfl, hb9⟩ | exact ⟨rfl, Below.then hB2 hb9 hB2.size⟩ | exact ⟨rfl, Below.then hb1 hb9 hb1.size⟩
    · have La : Hid (a.length ≤ 60) := Lib.hid (by omega)
      have Lb : Hid (b.length ≤ 60) := Lib.hid (by omega)
      go_wp2_with fail
      refine (rf_ascending w _ a HA.out (by have := La.out; omega)).mono ?_
      rintro e w1 ⟨rfl, hb1⟩
      cases hxa : ascB a
      · clear HA HB
        go_wp2_with fail
        refine (law48_awake _).mono ?_
        rintro e w9 ⟨rfl, hb9⟩
        go_wp2
        go_ret
        first | exact ⟨rfl, hb9⟩ | exact ⟨rfl, Below.then hB2 hb9 hB2.size⟩ | exact ⟨rfl, Below.then hb1 hb9 hb1.size⟩
      · go_wp2_with fail
        refine (rf_ascending w1 _ b (HB.out.below hb1) (by have := Lb.out; omega)).mono ?_
        rintro e w2 ⟨rfl, hb2⟩
        have hB2 := Below.then hb1 hb2 hb1.size
        cases hxb : ascB b
        · clear HA HB
          go_wp2_with fail
          refine (law48_awake _).mono ?_
          rintro e w9 ⟨rfl, hb9⟩
          go_wp2
          go_ret
          first | exact ⟨rfl, hb9⟩ | exact ⟨rfl, Below.then hB2 hb9 hB2.size⟩ | exact ⟨rfl, Below.then hb1 hb9 hb1.size⟩
        · have Xa := Lib.hid (of_decide_eq_true hxa)
          have Xb := Lib.hid (of_decide_eq_true hxb)
          have HA2 := Lib.hid (HA.out.below hB2)
          have HB2 := Lib.hid (HB.out.below hB2)
          have Da := Lib.hid HA.out.2
          have Db := Lib.hid HB.out.2
          have Run := Lib.hid fun W (hW : Below w.heap.size w W) => rc_Run W _ _ a b (HA.out.below hW) (HB.out.below hW) La.out Lb.out
          clear hxa hxb hb1 hb2 HA HB h1 h2
          have Ct := Lib.hid fun k (hk : b.length ≤ 8 * 2 ^ k) (hk3 : k ≤ 3) => run_count Xa.out Xb.out Da.out Db.out La.out Lb.out hk hk3
          have lb := Lb.out
          go_wp2_with fail
          go_loopw [5, 6] (fun a5 a6 wr => ∃ k m : Int, a5 = .int .i64 k ∧ a6 = .int .i64 m ∧ ((k = 0 ∧ m = 8) ∨ (k = 1 ∧ m = 16) ∨ (k = 2 ∧ m = 32) ∨ (k = 3 ∧ m = 64)) ∧ Below w.heap.size w wr) (fun a5 _ _ => 4 - (intOf a5).toNat)
          case atStart => exact ⟨0, 8, rfl, rfl, .inl ⟨rfl, rfl⟩, hB2⟩
          case round =>
            clear hB2
            obtain ⟨k, m, rfl, rfl, hkm, hB2⟩ := hrel
            rcases hkm with ⟨rfl, rfl⟩ | ⟨rfl, rfl⟩ | ⟨rfl, rfl⟩ | ⟨rfl, rfl⟩
            · by_cases hlt : 8 < (b.length : Int)
              · go_wp2
                go_roundw
                case rel => exact ⟨1, 16, rfl, rfl, by omega, hB2⟩
                case measure => decide
              · have hct := Ct.out 0 (by omega) (by omega)
                have c2 : ((runR a b).2.2 : Int) ≤ 2 := by omega
                clear Ct
                obtain ⟨c1, _, c3⟩ := hct
                have hct := And.intro c1 (And.intro c2 c3)
                clear c1 c2 c3
                obtain ⟨c1, c2, c3⟩ := hct
                go_wp2_with fail
                refine (Run.out _ hB2).mono ?_
                rintro e w3 ⟨u, v, rfl, _, _, hb3⟩
                have hB3 := Below.then hB2 hb3 hB2.size
                have Lab := La.out
                clear hb3 hB2 Run HA2 HB2 hlt
                generalize (runR a b).2.2 = c at *
                by_cases ha8 : 8 < (a.length : Int)
                · have g1 : (1 : Int) ≤ (c : Int) := by omega
                  clear c3 c1
                  go_wp2_with fail
                  refine (law48_awake _).mono ?_
                  rintro e w9 ⟨rfl, hb9⟩
                  go_wp2
                  go_ret
                  exact ⟨rfl, Below.then hB3 hb9 hB3.size⟩
                · obtain rfl : c = 1 := c3 (by omega)
                  clear c1 c2 c3
                  go_wp2_with fail
                  refine (law48_awake _).mono ?_
                  rintro e w9 ⟨rfl, hb9⟩
                  go_wp2
                  go_ret
                  exact ⟨rfl, Below.then hB3 hb9 hB3.size⟩
            · by_cases hlt : 16 < (b.length : Int)
              · go_wp2
                go_roundw
                case rel => exact ⟨2, 32, rfl, rfl, by omega, hB2⟩
                case measure => decide
              · have hct := Ct.out 1 (by omega) (by omega)
                have c2 : ((runR a b).2.2 : Int) ≤ 4 := by omega
                clear Ct
                obtain ⟨c1, _, c3⟩ := hct
                have hct := And.intro c1 (And.intro c2 c3)
                clear c1 c2 c3
                obtain ⟨c1, c2, c3⟩ := hct
                go_wp2_with fail
                refine (Run.out _ hB2).mono ?_
                rintro e w3 ⟨u, v, rfl, _, _, hb3⟩
                have hB3 := Below.then hB2 hb3 hB2.size
                have Lab := La.out
                clear hb3 hB2 Run HA2 HB2 hlt
                generalize (runR a b).2.2 = c at *
                by_cases ha8 : 8 < (a.length : Int)
                · have g1 : (1 : Int) ≤ (c : Int) := by omega
                  clear c3 c1
                  go_wp2_with fail
                  refine (law48_awake _).mono ?_
                  rintro e w9 ⟨rfl, hb9⟩
                  go_wp2
                  go_ret
                  exact ⟨rfl, Below.then hB3 hb9 hB3.size⟩
                · obtain rfl : c = 1 := c3 (by omega)
                  clear c1 c2 c3
                  go_wp2_with fail
                  refine (law48_awake _).mono ?_
                  rintro e w9 ⟨rfl, hb9⟩
                  go_wp2
                  go_ret
                  exact ⟨rfl, Below.then hB3 hb9 hB3.size⟩
            · by_cases hlt : 32 < (b.length : Int)
              · go_wp2
                go_roundw
                case rel => exact ⟨3, 64, rfl, rfl, by omega, hB2⟩
                case measure => decide
              · have hct := Ct.out 2 (by omega) (by omega)
                have c2 : ((runR a b).2.2 : Int) ≤ 6 := by omega
                clear Ct
                obtain ⟨c1, _, c3⟩ := hct
                have hct := And.intro c1 (And.intro c2 c3)
                clear c1 c2 c3
                obtain ⟨c1, c2, c3⟩ := hct
                go_wp2_with fail
                refine (Run.out _ hB2).mono ?_
                rintro e w3 ⟨u, v, rfl, _, _, hb3⟩
                have hB3 := Below.then hB2 hb3 hB2.size
                have Lab := La.out
                clear hb3 hB2 Run HA2 HB2 hlt
                generalize (runR a b).2.2 = c at *
                by_cases ha8 : 8 < (a.length : Int)
                · have g1 : (1 : Int) ≤ (c : Int) := by omega
                  clear c3 c1
                  go_wp2_with fail
                  refine (law48_awake _).mono ?_
                  rintro e w9 ⟨rfl, hb9⟩
                  go_wp2
                  go_ret
                  exact ⟨rfl, Below.then hB3 hb9 hB3.size⟩
                · obtain rfl : c = 1 := c3 (by omega)
                  clear c1 c2 c3
                  go_wp2_with fail
                  refine (law48_awake _).mono ?_
                  rintro e w9 ⟨rfl, hb9⟩
                  go_wp2
                  go_ret
                  exact ⟨rfl, Below.then hB3 hb9 hB3.size⟩
            · have hlt : ¬ 64 < (b.length : Int) := by omega
              have hct := Ct.out 3 (by omega) (by omega)
              have c2 : ((runR a b).2.2 : Int) ≤ 8 := by omega
              clear Ct
              obtain ⟨c1, _, c3⟩ := hct
              have hct := And.intro c1 (And.intro c2 c3)
              clear c1 c2 c3
              obtain ⟨c1, c2, c3⟩ := hct
              go_wp2_with fail
              refine (Run.out _ hB2).mono ?_
              rintro e w3 ⟨u, v, rfl, _, _, hb3⟩
              have hB3 := Below.then hB2 hb3 hB2.size
              have Lab := La.out
              clear hb3 hB2 Run HA2 HB2 hlt
              generalize (runR a b).2.2 = c at *
              by_cases ha8 : 8 < (a.length : Int)
              · have g1 : (1 : Int) ≤ (c : Int) := by omega
                clear c3 c1
                go_wp2_with fail
                refine (law48_awake _).mono ?_
                rintro e w9 ⟨rfl, hb9⟩
                go_wp2
                go_ret
                exact ⟨rfl, Below.then hB3 hb9 hB3.size⟩
              · obtain rfl : c = 1 := c3 (by omega)
                clear c1 c2 c3
                go_wp2_with fail
                refine (law48_awake _).mono ?_
                rintro e w9 ⟨rfl, hb9⟩
                go_wp2
                go_ret
                exact ⟨rfl, Below.then hB3 hb9 hB3.size⟩
end Go.Proofs.Ytebgopdmeghmhaa
