/- collides of the laws of layer 48. -/
import Derived.Test.YtebgopdmeghmhaaRcDesc
import Derived.Test.YtebgopdmeghmhaaRcAdd4
import Derived.Test.YtebgopdmeghmhaaLAw
import Derived.Test.YtebgopdmeghmhaaRcSpec
namespace Go.Proofs.Ytebgopdmeghmhaa
open Go.RowKit

/-- a window of a list -/
def winD (l : List (List UInt8)) (i n : Nat) : List (List UInt8) := (l.take (i + n)).drop i
def ColAt (a b : List (List UInt8)) (i k n : Nat) : Prop := 1 ≤ n ∧ i + n ≤ a.length ∧ k + n ≤ b.length ∧ winD a i n ≠ winD b k n ∧ printD (winD a i n) = printD (winD b k n)
theorem winD_len {l : List (List UInt8)} {i n : Nat} (h : i + n ≤ l.length) : (winD l i n).length = n := by
  unfold winD
  rw [List.length_drop, List.length_take]
  omega
theorem winD_eq (l : List (List UInt8)) (i n : Nat) : winD l i n = (l.drop i).take n := by
  unfold winD
  rw [List.drop_take]
  congr 1
  omega
theorem not_coll {a b : List (List UInt8)} (ha : Asc a) (hb : Asc b) (h : ∀ i k n, ¬ ColAt a b i k n) : NoColl a b := by
  intro low high hl hp
  refine Classical.byContradiction fun hne => ?_
  obtain ⟨i, e1, l1⟩ := own_run ha low high
  obtain ⟨k, e2, l2⟩ := own_run hb low high
  rw [← hl] at e2 l2
  rw [← winD_eq] at e1 e2
  refine h i k (own a low high).length ⟨?_, l1, l2, ?_, ?_⟩
  · rcases Nat.eq_zero_or_pos (own a low high).length with h0 | h0
    · exfalso
      rw [h0] at hl
      rw [List.length_eq_zero_iff.1 h0, List.length_eq_zero_iff.1 hl.symm] at hne
      exact hne rfl
    · exact h0
  · rw [← e1, ← e2]; exact hne
  · rw [← e1, ← e2]; exact hp
theorem DigR.win {S : Nat → Prop} {w : World} {b off n c i m : Nat} {l : List (List UInt8)} (h : DigR S w (.slice (some ⟨b, off, none⟩) n c) l) (hn : l.length = n) (hq : i + m ≤ n) : DigR S w (.slice (some ⟨b, off + i * 32, none⟩) m (c - i)) (winD l i m) := by
  have h1 := h.take hn hq
  have h2 := h1.drop (q := i) (by rw [List.length_take]; omega) (by omega)
  rw [Nat.add_sub_cancel_left] at h2
  exact h2
set_option maxRecDepth 100000 in
set_option maxHeartbeats 4000000 in
theorem law48_collides {S1 S2 : Nat → Prop} (w : World) (va vb : Value) (a b : List (List UInt8)) (hA : DigR S1 w va a) (hB0 : DigR S2 w vb b) (la : a.length ≤ 60) (lb : b.length ≤ 60) :
    Calls Try.prog 25 #[va, vb] w fun e w' => (e = .returned (.bool true) ∨ (e = .returned (.bool false) ∧ ∀ i k n, ¬ ColAt a b i k n)) ∧ Below w.heap.size w w' := by
  obtain ⟨oa, ca, rfl⟩ : ∃ o c, va = .slice o a.length c := by obtain ⟨⟨o, c, e, _⟩, _⟩ := hA; rw [digC_size] at e; exact ⟨o, c, e⟩
  obtain ⟨ob, cb, rfl⟩ : ∃ o c, vb = .slice o b.length c := by obtain ⟨⟨o, c, e, _⟩, _⟩ := hB0; rw [digC_size] at e; exact ⟨o, c, e⟩
  obtain ⟨na, hna⟩ : ∃ n, a.length = n := ⟨_, rfl⟩
  obtain ⟨nb, hnb⟩ : ∃ n, b.length = n := ⟨_, rfl⟩
  have Hna := Lib.hid hna
  have Hnb := Lib.hid hnb
  rw [hna] at hA la ⊢
  rw [hnb] at hB0 lb ⊢
  have HA := Lib.hid hA
  have HB := Lib.hid hB0
  clear hA hB0 hna hnb
  go_enter Try.func25, Try.ntmps25
  go_wp2
  go_loopw [10] (fun a10 wr => ∃ i : Nat, i ≤ na ∧ a10 = .int .i64 i ∧ Hid (∀ i' k n, i' < i → ¬ ColAt a b i' k n) ∧ Below w.heap.size w wr) (fun a10 _ => na - (intOf a10).toNat)
  case atStart => exact ⟨0, by omega, rfl, Lib.hid fun i' k n h => absurd h (Nat.not_lt_zero _), Below.refl _ _⟩
  case round =>
    obtain ⟨i, hi, rfl, HI, hB⟩ := hrel
    by_cases hlt : i < na
    · have hlt' : (i : Int) < (na : Int) := by omega
      obtain ⟨wm, rfl⟩ : ∃ x, x = wr := ⟨_, rfl⟩
      go_wp2_with fail
      go_loopw [15] (fun a15 wr => ∃ k : Nat, k ≤ nb ∧ a15 = .int .i64 k ∧ Hid (∀ k' n, k' < k → ¬ ColAt a b i k' n) ∧ Below w.heap.size w wr) (fun a15 _ => nb - (intOf a15).toNat)
      case atStart => exact ⟨0, by omega, rfl, Lib.hid fun k n h => absurd h (Nat.not_lt_zero _), hB⟩
      case round =>
        clear hB
        obtain ⟨k, hk, rfl, HK, hB⟩ := hrel
        by_cases hkt : k < nb
        · have hkt' : (k : Int) < (nb : Int) := by omega
          obtain ⟨wn, rfl⟩ : ∃ x, x = wr := ⟨_, rfl⟩
          go_wp2_with fail
          go_loopw [7] (fun a7 wr => ∃ n : Nat, 1 ≤ n ∧ n ≤ na + 1 ∧ a7 = .int .i64 n ∧ Hid (∀ n', n' < n → ¬ ColAt a b i k n') ∧ Below w.heap.size w wr) (fun a7 _ => na + 1 - (intOf a7).toNat)
          case atStart => exact ⟨1, by omega, by omega, rfl, Lib.hid fun n h hc => absurd hc.1 (by omega), hB⟩
          case round =>
            clear hB
            obtain ⟨n, hn1, hn2, rfl, HN, hB⟩ := hrel
            by_cases hia : i + n ≤ na
            · have hia' : (i : Int) + (n : Int) ≤ (na : Int) := by omega
              by_cases hkb : k + n ≤ nb
              · have hkb' : (k : Int) + (n : Int) ≤ (nb : Int) := by omega
                obtain ⟨qa, fa, c1, e1, hca1, hca2, _, _, _⟩ := HA.out.at (i := i) (by rw [Hna.out]; omega)
                rw [Hna.out] at e1 hca1
                obtain ⟨rfl, rfl⟩ : oa = some ⟨qa, fa, none⟩ ∧ ca = c1 := by simpa using e1
                obtain ⟨qb, fb, c2, e2, hcb1, hcb2, _, _, _⟩ := HB.out.at (i := k) (by rw [Hnb.out]; omega)
                rw [Hnb.out] at e2 hcb1
                obtain ⟨rfl, rfl⟩ : ob = some ⟨qb, fb, none⟩ ∧ cb = c2 := by simpa using e2
                clear e1 e2
                unfold maxLen at hca2 hcb2
                have s1 : 0 ≤ (i : Int) := by omega
                have s2 : (i : Int) ≤ (i : Int) + (n : Int) := by omega
                have s3 : (i : Int) + (n : Int) ≤ (ca : Int) := by omega
                have s4 : 0 ≤ (k : Int) := by omega
                have s5 : (k : Int) ≤ (k : Int) + (n : Int) := by omega
                have s6 : (k : Int) + (n : Int) ≤ (cb : Int) := by omega
                have s7 : (i : Int) + (n : Int) - (i : Int) = (n : Int) := by omega
                have s8 : (k : Int) + (n : Int) - (k : Int) = (n : Int) := by omega
                have X := Lib.hid fun (yL : Lat wr) => ((HA.out.below hB).below yL.h).win Hna.out hia
                have Y := Lib.hid fun (yL : Lat wr) => ((HB.out.below hB).below yL.h).win Hnb.out hkb
                have lx : Hid ((winD a i n).length = n) := Lib.hid (winD_len (by rw [Hna.out]; exact hia))
                have ly : Hid ((winD b k n).length = n) := Lib.hid (winD_len (by rw [Hnb.out]; exact hkb))
                have Sm := Lib.hid fun (yL : Lat wr) => ref02_Same (S := fun _ => True) yL.w _ _ _ _ ((X.out yL).mono fun _ _ => trivial) ((Y.out yL).mono fun _ _ => trivial) (by rw [lx.out]; omega) (by rw [ly.out]; omega)
                have P1 := Lib.hid fun (yL : Lat wr) => rf_Print yL.w _ _ (X.out yL) (by rw [lx.out]; omega)
                have P2 := Lib.hid fun (yL : Lat wr) => rf_Print yL.w _ _ (Y.out yL) (by rw [ly.out]; omega)
                have Cl : Hid (winD a i n ≠ winD b k n → printD (winD a i n) = printD (winD b k n) → ColAt a b i k n) := Lib.hid fun h1 h2 => ⟨hn1, by rw [Hna.out]; exact hia, by rw [Hnb.out]; exact hkb, h1, h2⟩
                have Cn : Hid (ColAt a b i k n → winD a i n ≠ winD b k n ∧ printD (winD a i n) = printD (winD b k n)) := Lib.hid fun h => ⟨h.2.2.2.1, h.2.2.2.2⟩
                generalize winD a i n = xa at *
                generalize winD b k n = xb at *
                cases hs : decide (xa = xb)
                · rw [hs] at Sm
                  cases hp : decide (printD xa = printD xb)
                  · have HC : Hid (¬ ColAt a b i k n) := Lib.hid fun h => of_decide_eq_false hp (Cn.out h).2
                    have Hp := Lib.hid hp
                    clear Cl Cn hs hp
                    go_wp2_with fail
                    refine wp_region_lz 31 0 #[true, true, true, true, true, true, true, true, true, true, true, true, true, true, true, true, true, true, true, true, true, true, true, true, true, true, true, true, true, true, true] (fun i => if i = 12 then some (annK (.bool false)) else if i = 21 then some (annK (dgV (printD xa))) else if i = 28 then some (annK (dgV (printD xb))) else none) (by kernel_rfl) (by rfl) (by rfl) (by kernel_rfl) ?_
                    simp only [List.take_succ_cons, List.take_zero]
                    refine LW.block 12 12 (by rfl) (by kernel_rfl) (by kernel_rfl) ?_
                    simp only [List.take_succ_cons, List.take_zero, List.drop_succ_cons, List.drop_zero]
                    repeat (first | go_big_quiet_skip | (go_big_quiet_want; go_big_quiet_op; go_big_quiet_on))
                    refine wpQuiet_nil ?_
                    refine LW.lzy _ (by rfl) (by rfl) ?_ ?_
                    · intro yL _
                      unfold lzAt
                      go_simp
                      exact lz_constB (Sm.out yL)
                    intro _
                    simp only [Act.put, List.setIfInBounds_toArray, List.set_cons_zero, List.set_cons_succ]
                    (try simp only [annK])
                    refine LW.block 8 21 (by rfl) (by kernel_rfl) (by kernel_rfl) ?_
                    simp only [List.take_succ_cons, List.take_zero, List.drop_succ_cons, List.drop_zero]
                    repeat (first | go_big_quiet_skip | (go_big_quiet_want; go_big_quiet_op; go_big_quiet_on))
                    refine wpQuiet_nil ?_
                    refine LW.lzy _ (by rfl) (by rfl) ?_ ?_
                    · intro yL _
                      unfold lzAt
                      go_simp
                      exact lz_constB (P1.out yL)
                    intro _
                    simp only [Act.put, List.setIfInBounds_toArray, List.set_cons_zero, List.set_cons_succ]
                    (try simp only [annK])
                    refine LW.block 6 28 (by rfl) (by kernel_rfl) (by kernel_rfl) ?_
                    simp only [List.take_succ_cons, List.take_zero, List.drop_succ_cons, List.drop_zero]
                    repeat (first | go_big_quiet_skip | (go_big_quiet_want; go_big_quiet_op; go_big_quiet_on))
                    refine wpQuiet_nil ?_
                    refine LW.lzy _ (by rfl) (by rfl) ?_ ?_
                    · intro yL _
                      unfold lzAt
                      go_simp
                      exact lz_constB (P2.out yL)
                    intro _
                    simp only [Act.put, List.setIfInBounds_toArray, List.set_cons_zero, List.set_cons_succ]
                    (try simp only [annK])
                    refine LW.block 2 31 (by rfl) (by kernel_rfl) (by kernel_rfl) ?_
                    simp only [List.take_succ_cons, List.take_zero, List.drop_succ_cons, List.drop_zero]
                    repeat (first | go_big_quiet_skip | (go_big_quiet_want; first | (((refine quiet_run (.bool false) (fun w => by rw [run_eql_dg _ (.tmp 55) (.tmp 62) rfl (printD xa) (printD xb) (printD_len _) (printD_len _) rfl rfl, Hp.out]) ?_)); simp only [Act.put, List.setIfInBounds_toArray, List.set_cons_zero, List.set_cons_succ]; go_big_quiet_on) | (go_big_quiet_op; go_big_quiet_on)))
                    refine wpQuiet_nil ?_
                    refine LW.done ?_
                    intro W' hG
                    have hB4 := Below.then hB hG.below hB.size
                    refine wpAny_done (by kernel_rfl) ?_ _
                    have HN2 : Hid (∀ n', n' < n + 1 → ¬ ColAt a b i k n') := Lib.hid (by
                      intro m hm
                      rcases Nat.lt_succ_iff_lt_or_eq.1 hm with h | rfl
                      · exact HN.out m h
                      · exact HC.out)
                    have hn3 : n ≤ na := by omega
                    clear s1 s2 s3 s4 s5 s6 s7 s8 hB
                    go_wp2
                    go_roundw
                    case rel => exact ⟨n + 1, by omega, by omega, by go_num, HN2, hB4⟩
                    case measure => simp [intOf]; omega
                  · have HC := Lib.hid (Cl.out (of_decide_eq_false hs) (of_decide_eq_true hp))
                    have Hp := Lib.hid hp
                    clear Cl Cn hs hp
                    go_wp2_with fail
                    refine wp_region_lz 31 0 #[true, true, true, true, true, true, true, true, true, true, true, true, true, true, true, true, true, true, true, true, true, true, true, true, true, true, true, true, true, true, true] (fun i => if i = 12 then some (annK (.bool false)) else if i = 21 then some (annK (dgV (printD xa))) else if i = 28 then some (annK (dgV (printD xb))) else none) (by kernel_rfl) (by rfl) (by rfl) (by kernel_rfl) ?_
                    simp only [List.take_succ_cons, List.take_zero]
                    refine LW.block 12 12 (by rfl) (by kernel_rfl) (by kernel_rfl) ?_
                    simp only [List.take_succ_cons, List.take_zero, List.drop_succ_cons, List.drop_zero]
                    repeat (first | go_big_quiet_skip | (go_big_quiet_want; go_big_quiet_op; go_big_quiet_on))
                    refine wpQuiet_nil ?_
                    refine LW.lzy _ (by rfl) (by rfl) ?_ ?_
                    · intro yL _
                      unfold lzAt
                      go_simp
                      exact lz_constB (Sm.out yL)
                    intro _
                    simp only [Act.put, List.setIfInBounds_toArray, List.set_cons_zero, List.set_cons_succ]
                    (try simp only [annK])
                    refine LW.block 8 21 (by rfl) (by kernel_rfl) (by kernel_rfl) ?_
                    simp only [List.take_succ_cons, List.take_zero, List.drop_succ_cons, List.drop_zero]
                    repeat (first | go_big_quiet_skip | (go_big_quiet_want; go_big_quiet_op; go_big_quiet_on))
                    refine wpQuiet_nil ?_
                    refine LW.lzy _ (by rfl) (by rfl) ?_ ?_
                    · intro yL _
                      unfold lzAt
                      go_simp
                      exact lz_constB (P1.out yL)
                    intro _
                    simp only [Act.put, List.setIfInBounds_toArray, List.set_cons_zero, List.set_cons_succ]
                    (try simp only [annK])
                    refine LW.block 6 28 (by rfl) (by kernel_rfl) (by kernel_rfl) ?_
                    simp only [List.take_succ_cons, List.take_zero, List.drop_succ_cons, List.drop_zero]
                    repeat (first | go_big_quiet_skip | (go_big_quiet_want; go_big_quiet_op; go_big_quiet_on))
                    refine wpQuiet_nil ?_
                    refine LW.lzy _ (by rfl) (by rfl) ?_ ?_
                    · intro yL _
                      unfold lzAt
                      go_simp
                      exact lz_constB (P2.out yL)
                    intro _
                    simp only [Act.put, List.setIfInBounds_toArray, List.set_cons_zero, List.set_cons_succ]
                    (try simp only [annK])
                    refine LW.block 2 31 (by rfl) (by kernel_rfl) (by kernel_rfl) ?_
                    simp only [List.take_succ_cons, List.take_zero, List.drop_succ_cons, List.drop_zero]
                    repeat (first | go_big_quiet_skip | (go_big_quiet_want; first | (((refine quiet_run (.bool true) (fun w => by rw [run_eql_dg _ (.tmp 55) (.tmp 62) rfl (printD xa) (printD xb) (printD_len _) (printD_len _) rfl rfl, Hp.out]) ?_)); simp only [Act.put, List.setIfInBounds_toArray, List.set_cons_zero, List.set_cons_succ]; go_big_quiet_on) | (go_big_quiet_op; go_big_quiet_on)))
                    refine wpQuiet_nil ?_
                    refine LW.done ?_
                    intro W' hG
                    have hB4 := Below.then hB hG.below hB.size
                    refine wpAny_done (by kernel_rfl) ?_ _
                    go_wp2
                    go_ret
                    exact ⟨.inl rfl, hB4⟩
                · rw [hs] at Sm
                  have HC : Hid (¬ ColAt a b i k n) := Lib.hid fun h => (Cn.out h).1 (of_decide_eq_true hs)
                  clear Cl Cn hs P1 P2
                  go_wp2_with fail
                  refine wp_region_lz 31 0 #[true, true, true, true, true, true, true, true, true, true, true, true, true, true, true, true, true, true, true, true, true, true, true, true, true, true, true, true, true, true, true] (fun i => if i = 12 then some (annK (.bool true)) else none) (by kernel_rfl) (by rfl) (by rfl) (by kernel_rfl) ?_
                  simp only [List.take_succ_cons, List.take_zero]
                  refine LW.block 12 12 (by rfl) (by kernel_rfl) (by kernel_rfl) ?_
                  simp only [List.take_succ_cons, List.take_zero, List.drop_succ_cons, List.drop_zero]
                  repeat (first | go_big_quiet_skip | (go_big_quiet_want; go_big_quiet_op; go_big_quiet_on))
                  refine wpQuiet_nil ?_
                  refine LW.lzy _ (by rfl) (by rfl) ?_ ?_
                  · intro yL _
                    unfold lzAt
                    go_simp
                    exact lz_constB (Sm.out yL)
                  intro _
                  simp only [Act.put, List.setIfInBounds_toArray, List.set_cons_zero, List.set_cons_succ]
                  (try simp only [annK])
                  refine LW.block 2 15 (by rfl) (by kernel_rfl) (by kernel_rfl) ?_
                  simp only [List.take_succ_cons, List.take_zero, List.drop_succ_cons, List.drop_zero]
                  repeat (first | go_big_quiet_skip | (go_big_quiet_want; go_big_quiet_op; go_big_quiet_on))
                  refine wpQuiet_nil ?_
                  iterate 15 (refine LW.skip (by rfl) ?_; simp only [Act.put, List.setIfInBounds_toArray, List.set_cons_zero, List.set_cons_succ])
                  refine LW.block 1 31 (by rfl) (by kernel_rfl) (by kernel_rfl) ?_
                  simp only [List.take_succ_cons, List.take_zero, List.drop_succ_cons, List.drop_zero]
                  repeat (first | go_big_quiet_skip | (go_big_quiet_want; go_big_quiet_op; go_big_quiet_on))
                  refine wpQuiet_nil ?_
                  refine LW.done ?_
                  intro W' hG
                  have hB4 := Below.then hB hG.below hB.size
                  refine wpAny_done (by kernel_rfl) ?_ _
                  have HN2 : Hid (∀ n', n' < n + 1 → ¬ ColAt a b i k n') := Lib.hid (by
                    intro m hm
                    rcases Nat.lt_succ_iff_lt_or_eq.1 hm with h | rfl
                    · exact HN.out m h
                    · exact HC.out)
                  have hn3 : n ≤ na := by omega
                  clear s1 s2 s3 s4 s5 s6 s7 s8 hB
                  go_wp2
                  go_roundw
                  case rel => exact ⟨n + 1, by omega, by omega, by go_num, HN2, hB4⟩
                  case measure => simp [intOf]; omega
              · have hkb' : ¬ (k : Int) + (n : Int) ≤ (nb : Int) := by omega
                have HK2 : Hid (∀ k' n, k' < k + 1 → ¬ ColAt a b i k' n) := Lib.hid (by
                  intro k' m hk'
                  rcases Nat.lt_succ_iff_lt_or_eq.1 hk' with h | rfl
                  · exact HK.out k' m h
                  · intro hc
                    rcases Nat.lt_or_ge m n with h | h
                    · exact HN.out m h hc
                    · have h1 := hc.2.1
                      have h2 := hc.2.2.1
                      rw [Hna.out] at h1
                      rw [Hnb.out] at h2
                      omega)
                go_wp2
                go_roundw
                case rel => exact ⟨k + 1, by omega, by go_num, HK2, hB⟩
                case measure => simp [intOf]; omega
            · have hia' : ¬ (i : Int) + (n : Int) ≤ (na : Int) := by omega
              have HK2 : Hid (∀ k' n, k' < k + 1 → ¬ ColAt a b i k' n) := Lib.hid (by
                intro k' m hk'
                rcases Nat.lt_succ_iff_lt_or_eq.1 hk' with h | rfl
                · exact HK.out k' m h
                · intro hc
                  rcases Nat.lt_or_ge m n with h | h
                  · exact HN.out m h hc
                  · have h1 := hc.2.1
                    have h2 := hc.2.2.1
                    rw [Hna.out] at h1
                    rw [Hnb.out] at h2
                    omega)
              go_wp2
              go_roundw
              case rel => exact ⟨k + 1, by omega, by go_num, HK2, hB⟩
              case measure => simp [intOf]; omega
        · obtain rfl : k = nb := by omega
          have hkt' : ¬ (k : Int) < (k : Int) := by omega
          have HI2 : Hid (∀ i' k n, i' < i + 1 → ¬ ColAt a b i' k n) := Lib.hid (by
            intro i' m n hi'
            rcases Nat.lt_succ_iff_lt_or_eq.1 hi' with h | rfl
            · exact HI.out i' m n h
            · intro hc
              have h1 := hc.1
              have h2 := hc.2.2.1
              rw [Hnb.out] at h2
              exact HK.out m n (by omega) hc)
          go_wp2
          go_roundw
          case rel => exact ⟨i + 1, by omega, by go_num, HI2, hB⟩
          case measure => simp [intOf]; omega
    · obtain rfl : i = na := by omega
      have hlt' : ¬ (i : Int) < (i : Int) := by omega
      go_wp2
      go_ret
      refine ⟨.inr ⟨rfl, fun i' k n hc => ?_⟩, hB⟩
      have h1 := hc.1
      have h2 := hc.2.1
      rw [Hna.out] at h2
      exact HI.out i' k n (by omega) hc
end Go.Proofs.Ytebgopdmeghmhaa
