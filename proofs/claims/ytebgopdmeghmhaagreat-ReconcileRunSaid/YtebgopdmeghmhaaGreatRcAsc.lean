/- reconcile.ascending and quiltref48.Ascending. -/
import Derived.Test.YtebgopdmeghmhaaGreatRcSpec
import Derived.Test.YtebgopdmeghmhaaGreatDgCmp
namespace Go.Proofs.YtebgopdmeghmhaaGreat
open Go.RowKit

set_option maxRecDepth 100000 in
set_option maxHeartbeats 2000000 in
theorem rc_ascending {S : Nat → Prop} (w : World) (v : Value) (l : List (List UInt8)) (h : DigR S w v l) (hm : l.length ≤ 1000000) :
    Calls Tryz.prog 13 #[v] w fun e w' => e = .returned (.bool (ascB l)) ∧ Below w.heap.size w w' := by
  obtain ⟨o, c, rfl⟩ : ∃ o c, v = .slice o l.length c := by obtain ⟨⟨o, c, e, _⟩, _⟩ := h; rw [digC_size] at e; exact ⟨o, c, e⟩
  have HD := Lib.hid h
  clear h
  go_enter Tryz.func13, Tryz.ntmps13
  go_wp2
  go_loopw [3] (fun i wr => ∃ k : Nat, (k < l.length ∨ k = 0) ∧ i = .int .i64 ((k : Int) + 1) ∧ (∀ j, 0 < j → j < k + 1 → cmpD (l.getD (j - 1) []) (l.getD j []) < 0) ∧ Below w.heap.size w wr) (fun i _ => l.length - (intOf i).toNat)
  case atStart => exact ⟨0, .inr rfl, rfl, (fun j h1 h2 => by omega), Below.refl _ _⟩
  case round =>
    obtain ⟨k, hk, rfl, hle, hB⟩ := hrel
    by_cases hlt : k + 1 < l.length
    · have hlt' : (k : Int) + 1 < (l.length : Int) := by omega
      obtain ⟨b, off, c', e', _, _, _, hb, hra⟩ := HD.out.at (i := k) (by omega)
      obtain ⟨rfl, rfl⟩ : o = some ⟨b, off, none⟩ ∧ c = c' := by simpa using e'
      obtain ⟨b', off', c', e', _, _, _, _, hrb⟩ := HD.out.at (i := k + 1) hlt
      obtain ⟨⟨rfl, rfl⟩, rfl⟩ : (b = b' ∧ off = off') ∧ c = c' := by simpa using e'
      have hlk : l[k].length = 32 := HD.out.2 _ (List.getElem_mem _)
      have hlm : l[k + 1].length = 32 := HD.out.2 _ (List.getElem_mem _)
      have hgk : l.getD k [] = l[k] := by rw [List.getD_eq_getElem?_getD, List.getElem?_eq_getElem (by omega)]; rfl
      have hgm : l.getD (k + 1) [] = l[k + 1] := by rw [List.getD_eq_getElem?_getD, List.getElem?_eq_getElem (by omega)]; rfl
      have hcmp := fun W => sha_compare l[k] l[k + 1] hlk hlm W
      have Hcmp := Lib.hid hcmp
      have Hbk : Hid ((bytesV l[k]).length = 32) := Lib.hid (by rw [bytesV_len, hlk])
      have Hbm : Hid ((bytesV l[k + 1]).length = 32) := Lib.hid (by rw [bytesV_len, hlm])
      have Hra : Hid (wr.rangeAt b (off + k * 32) (bytesV l[k])) := Lib.hid (rangeAt_below hra hB hb)
      have Hrb : Hid (wr.rangeAt b (off + (k + 1) * 32) (bytesV l[k + 1])) := Lib.hid (rangeAt_below hrb hB hb)
      have lG : b < wr.heap.size := Nat.lt_of_lt_of_le hb hB.size
      have Hle := Lib.hid hle
      have Hgk := Lib.hid hgk
      have Hgm := Lib.hid hgm
      have cQ := Lat.cells wr
      clear hra hrb hcmp hlk hlm e' hle hgk hgm hk
      cases hq : decide (0 ≤ cmpD l[k] l[k + 1])
      · have Hq : Hid (cmpD (l.getD k []) (l.getD (k + 1) []) < 0) := Lib.hid (by rw [Hgk.out, Hgm.out]; have := of_decide_eq_false hq; omega)
        generalize l[k] = x at *
        generalize l[k + 1] = y at *
        go_wp2_with fail
        refine wp_region_lat (by kernel_rfl) (by kernel_rfl) ?_
        repeat (first | go_big_quiet_skip | (go_big_quiet_want; first | ((first | (refine quiet_load_row 39 (.tmp 13) rfl b (off + k * 32) rfl (bytesV x) _ (lat_range Hra.out lG) Tryz.underlying39 rfl (by rw [sizeDg, Hbk.out]) ?_) | (refine quiet_load_row 39 (.tmp 17) rfl b (off + (k + 1) * 32) rfl (bytesV y) _ (lat_range Hrb.out lG) Tryz.underlying39 rfl (by rw [sizeDg, Hbm.out]) ?_)); simp only [Act.put, List.setIfInBounds_toArray, List.set_cons_zero, List.set_cons_succ]; go_big_quiet_on) | (go_big_quiet_op; first | go_big_quiet_on | go_big_quiet_call ((exact Calls.lat (Hcmp.out _))))))
        refine wpQuiet_nil ?_
        rintro W4 ⟨⟨_, hb4⟩, rfl⟩
        have hB4 := Below.then hB hb4 hB.size
        clear cQ
        go_wp2
        go_roundw
        case rel =>
          refine ⟨k + 1, .inl hlt, by go_num, fun j h1 h2 => ?_, hB4⟩
          rcases Nat.lt_succ_iff_lt_or_eq.1 h2 with h3 | rfl
          · exact Hle.out j h1 h3
          · exact Hq.out
        case measure => simp [intOf]; omega
      · have Hres : Hid (ascB l = false) := Lib.hid (by
          unfold ascB
          rw [decide_eq_false_iff_not]
          intro ha
          have := asc_next ha (i := k + 1) (by omega) hlt
          rw [Nat.add_sub_cancel, Hgk.out, Hgm.out] at this
          have := of_decide_eq_true hq
          omega)
        generalize l[k] = x at *
        generalize l[k + 1] = y at *
        go_wp2_with fail
        refine wp_region_lat (by kernel_rfl) (by kernel_rfl) ?_
        repeat (first | go_big_quiet_skip | (go_big_quiet_want; first | ((first | (refine quiet_load_row 39 (.tmp 13) rfl b (off + k * 32) rfl (bytesV x) _ (lat_range Hra.out lG) Tryz.underlying39 rfl (by rw [sizeDg, Hbk.out]) ?_) | (refine quiet_load_row 39 (.tmp 17) rfl b (off + (k + 1) * 32) rfl (bytesV y) _ (lat_range Hrb.out lG) Tryz.underlying39 rfl (by rw [sizeDg, Hbm.out]) ?_)); simp only [Act.put, List.setIfInBounds_toArray, List.set_cons_zero, List.set_cons_succ]; go_big_quiet_on) | (go_big_quiet_op; first | go_big_quiet_on | go_big_quiet_call ((exact Calls.lat (Hcmp.out _))))))
        refine wpQuiet_nil ?_
        rintro W4 ⟨⟨_, hb4⟩, rfl⟩
        have hB4 := Below.then hB hb4 hB.size
        clear cQ
        go_wp2
        go_ret
        exact ⟨by rw [Hres.out]; rfl, hB4⟩
    · have hlt' : ¬ (k : Int) + 1 < (l.length : Int) := by omega
      have Hres : Hid (ascB l = true) := Lib.hid (by
        unfold ascB
        rw [decide_eq_true_eq]
        exact asc_of_next fun i h1 h2 => hle i h1 (by omega))
      clear hle
      go_wp2
      go_ret
      exact ⟨by rw [Hres.out]; rfl, hB⟩
set_option maxRecDepth 100000 in
set_option maxHeartbeats 2000000 in
theorem rf_ascending {S : Nat → Prop} (w : World) (v : Value) (l : List (List UInt8)) (h : DigR S w v l) (hm : l.length ≤ 1000000) :
    Calls Tryz.prog 15 #[v] w fun e w' => e = .returned (.bool (ascB l)) ∧ Below w.heap.size w w' := by
  obtain ⟨o, c, rfl⟩ : ∃ o c, v = .slice o l.length c := by obtain ⟨⟨o, c, e, _⟩, _⟩ := h; rw [digC_size] at e; exact ⟨o, c, e⟩
  have HD := Lib.hid h
  clear h
  go_enter Tryz.func15, Tryz.ntmps15
  go_wp2
  go_loopw [3] (fun i wr => ∃ k : Nat, (k < l.length ∨ k = 0) ∧ i = .int .i64 ((k : Int) + 1) ∧ (∀ j, 0 < j → j < k + 1 → cmpD (l.getD (j - 1) []) (l.getD j []) < 0) ∧ Below w.heap.size w wr) (fun i _ => l.length - (intOf i).toNat)
  case atStart => exact ⟨0, .inr rfl, rfl, (fun j h1 h2 => by omega), Below.refl _ _⟩
  case round =>
    obtain ⟨k, hk, rfl, hle, hB⟩ := hrel
    by_cases hlt : k + 1 < l.length
    · have hlt' : (k : Int) + 1 < (l.length : Int) := by omega
      obtain ⟨b, off, c', e', _, _, _, hb, hra⟩ := HD.out.at (i := k) (by omega)
      obtain ⟨rfl, rfl⟩ : o = some ⟨b, off, none⟩ ∧ c = c' := by simpa using e'
      obtain ⟨b', off', c', e', _, _, _, _, hrb⟩ := HD.out.at (i := k + 1) hlt
      obtain ⟨⟨rfl, rfl⟩, rfl⟩ : (b = b' ∧ off = off') ∧ c = c' := by simpa using e'
      have hlk : l[k].length = 32 := HD.out.2 _ (List.getElem_mem _)
      have hlm : l[k + 1].length = 32 := HD.out.2 _ (List.getElem_mem _)
      have hgk : l.getD k [] = l[k] := by rw [List.getD_eq_getElem?_getD, List.getElem?_eq_getElem (by omega)]; rfl
      have hgm : l.getD (k + 1) [] = l[k + 1] := by rw [List.getD_eq_getElem?_getD, List.getElem?_eq_getElem (by omega)]; rfl
      have hcmp := fun W => ref02_compare l[k] l[k + 1] hlk hlm W
      have Hcmp := Lib.hid hcmp
      have Hbk : Hid ((bytesV l[k]).length = 32) := Lib.hid (by rw [bytesV_len, hlk])
      have Hbm : Hid ((bytesV l[k + 1]).length = 32) := Lib.hid (by rw [bytesV_len, hlm])
      have Hra : Hid (wr.rangeAt b (off + k * 32) (bytesV l[k])) := Lib.hid (rangeAt_below hra hB hb)
      have Hrb : Hid (wr.rangeAt b (off + (k + 1) * 32) (bytesV l[k + 1])) := Lib.hid (rangeAt_below hrb hB hb)
      have lG : b < wr.heap.size := Nat.lt_of_lt_of_le hb hB.size
      have Hle := Lib.hid hle
      have Hgk := Lib.hid hgk
      have Hgm := Lib.hid hgm
      have cQ := Lat.cells wr
      clear hra hrb hcmp hlk hlm e' hle hgk hgm hk
      cases hq : decide (0 ≤ cmpD l[k] l[k + 1])
      · have Hq : Hid (cmpD (l.getD k []) (l.getD (k + 1) []) < 0) := Lib.hid (by rw [Hgk.out, Hgm.out]; have := of_decide_eq_false hq; omega)
        generalize l[k] = x at *
        generalize l[k + 1] = y at *
        go_wp2_with fail
        refine wp_region_lat (by kernel_rfl) (by kernel_rfl) ?_
        repeat (first | go_big_quiet_skip | (go_big_quiet_want; first | ((first | (refine quiet_load_row 39 (.tmp 13) rfl b (off + k * 32) rfl (bytesV x) _ (lat_range Hra.out lG) Tryz.underlying39 rfl (by rw [sizeDg, Hbk.out]) ?_) | (refine quiet_load_row 39 (.tmp 17) rfl b (off + (k + 1) * 32) rfl (bytesV y) _ (lat_range Hrb.out lG) Tryz.underlying39 rfl (by rw [sizeDg, Hbm.out]) ?_)); simp only [Act.put, List.setIfInBounds_toArray, List.set_cons_zero, List.set_cons_succ]; go_big_quiet_on) | (go_big_quiet_op; first | go_big_quiet_on | go_big_quiet_call ((exact Calls.lat (Hcmp.out _))))))
        refine wpQuiet_nil ?_
        rintro W4 ⟨⟨_, hb4⟩, rfl⟩
        have hB4 := Below.then hB hb4 hB.size
        clear cQ
        go_wp2
        go_roundw
        case rel =>
          refine ⟨k + 1, .inl hlt, by go_num, fun j h1 h2 => ?_, hB4⟩
          rcases Nat.lt_succ_iff_lt_or_eq.1 h2 with h3 | rfl
          · exact Hle.out j h1 h3
          · exact Hq.out
        case measure => simp [intOf]; omega
      · have Hres : Hid (ascB l = false) := Lib.hid (by
          unfold ascB
          rw [decide_eq_false_iff_not]
          intro ha
          have := asc_next ha (i := k + 1) (by omega) hlt
          rw [Nat.add_sub_cancel, Hgk.out, Hgm.out] at this
          have := of_decide_eq_true hq
          omega)
        generalize l[k] = x at *
        generalize l[k + 1] = y at *
        go_wp2_with fail
        refine wp_region_lat (by kernel_rfl) (by kernel_rfl) ?_
        repeat (first | go_big_quiet_skip | (go_big_quiet_want; first | ((first | (refine quiet_load_row 39 (.tmp 13) rfl b (off + k * 32) rfl (bytesV x) _ (lat_range Hra.out lG) Tryz.underlying39 rfl (by rw [sizeDg, Hbk.out]) ?_) | (refine quiet_load_row 39 (.tmp 17) rfl b (off + (k + 1) * 32) rfl (bytesV y) _ (lat_range Hrb.out lG) Tryz.underlying39 rfl (by rw [sizeDg, Hbm.out]) ?_)); simp only [Act.put, List.setIfInBounds_toArray, List.set_cons_zero, List.set_cons_succ]; go_big_quiet_on) | (go_big_quiet_op; first | go_big_quiet_on | go_big_quiet_call ((exact Calls.lat (Hcmp.out _))))))
        refine wpQuiet_nil ?_
        rintro W4 ⟨⟨_, hb4⟩, rfl⟩
        have hB4 := Below.then hB hb4 hB.size
        clear cQ
        go_wp2
        go_ret
        exact ⟨by rw [Hres.out]; rfl, hB4⟩
    · have hlt' : ¬ (k : Int) + 1 < (l.length : Int) := by omega
      have Hres : Hid (ascB l = true) := Lib.hid (by
        unfold ascB
        rw [decide_eq_true_eq]
        exact asc_of_next fun i h1 h2 => hle i h1 (by omega))
      clear hle
      go_wp2
      go_ret
      exact ⟨by rw [Hres.out]; rfl, hB⟩
end Go.Proofs.YtebgopdmeghmhaaGreat
