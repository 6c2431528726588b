/- New of the reference of layer 47. -/
import Derived.Test.YtfligkncdlocaaaIbCk
import Derived.Test.YtfligkncdlocaaaRowsOp
namespace Go.Proofs.Ytfligkncdlocaaa
open Go.RowKit

theorem tabC_rep (n : Nat) : tabC (List.replicate n Cl.zero) = List.replicate n Cl.zero.cells := by simp [tabC]
theorem tabC_snoc (t : List Cl) (c : Cl) : (tabC (t ++ [c])).flatten = (tabC t).flatten ++ c.cells := by simp [tabC]
theorem row_new {w : World} {cs : List Value} {t : TypeId} : RowAt (· = w.heap.size) (w.alloc (.cells cs.toArray t)) (some ⟨w.heap.size, 0, none⟩) cs := RowAt.bx (Bx.new w cs.toArray t)
set_option maxRecDepth 100000 in
set_option maxHeartbeats 1000000 in
theorem ref47_new (n : Int) (w : World) : Calls Try.prog 15 #[.int .i64 n] w fun e w' =>
    ∃ v, e = .returned (.tuple #[v, .int .i64 (newE n)]) ∧ w'.ownsRow w.heap.size 50 65 v (newT n).length (tabC (newT n)).flatten ∧ Below w.heap.size w w' := by
  obtain ⟨ic, hi, hz, hs, hby⟩ := info_parts infoCl
  rw [zeroCl'] at hz
  obtain ⟨cz, hcz⟩ : ∃ cz, Cl.zero.cells = cz := ⟨_, rfl⟩
  have hczl : cz.length = 65 := by rw [← hcz]; exact Cl.len Cl.zero_ok
  have hb0 : Value.agg Try.zeroCells50 = Value.agg cz.toArray := by rw [← hcz]; kernel_rfl
  have hz1 := Cl.one Cl.zero
  rw [hcz] at hz hz1
  have Hz := Lib.hid hz
  have Hb0 := Lib.hid hb0
  have Hczl := Lib.hid hczl
  have Hz1 := Lib.hid hz1
  have Hcz := Lib.hid hcz
  clear hz hcz hczl hb0 hz1
  have ho0 := ownsRow_empty w w.heap.size w.heap.size 50 65 rfl (Nat.le_refl _)
  have hB0 := Below.one w (.cells #[] 50)
  go_enter Try.func15, Try.ntmps15
  go_wp2_with fail
  refine (ref47_allowed n _).mono ?_
  rintro e w1 ⟨rfl, rfl⟩
  cases ha : allowedB n
  · have e1 : newE n = 2 := by simp [newE, ha]
    have e2 : newT n = [] := by simp [newT, ha]
    go_wp2
    refine bodyPost_ret (v := .tuple #[.slice (some ⟨w.heap.size, 0, none⟩) 0 0, .int .i64 2]) (by simp [results, Try.results15, go_sem]) rfl ?_
    exact ⟨.slice (some ⟨w.heap.size, 0, none⟩) 0 0, by rw [e1], by rw [e2]; exact ho0, hB0⟩
  · have hal := allowedB_iff.1 ha
    obtain ⟨m, rfl⟩ : ∃ m : Nat, n = (m : Int) := ⟨n.toNat, by omega⟩
    have e1 : newE (m : Int) = 0 := by simp [newE, ha]
    have e2 : newT (m : Int) = List.replicate m Cl.zero := by simp [newT, ha]
    have E1 := Lib.hid e1
    have E2 := Lib.hid e2
    have hm : m ≤ 3000 := by omega
    clear e1 e2 hal
    go_wp2
    go_loopw [4, 5] (fun v i wr => ∃ k : Nat, k ≤ m ∧ i = .int .i64 k ∧ wr.ownsRow w.heap.size 50 65 v k (tabC (List.replicate k Cl.zero)).flatten ∧ Below w.heap.size w wr) (fun _ i _ => m - (intOf i).toNat)
    case atStart => exact ⟨0, by omega, rfl, ho0, hB0⟩
    case round =>
      clear ho0 hB0
      obtain ⟨k, hk, rfl, ho, hB⟩ := hrel
      obtain ⟨o, c, rfl, _, _, _⟩ := ownsRow_at ho
      by_cases hlt : k < m
      · have hlt' : (k : Int) < (m : Int) := by omega
        have hBz := hB.size
        have Ho := Lib.hid ho
        clear ho
        go_wp2_with (first
          | (refine wpList_build1 rfl 23 (.tmp 17) rfl 50 ic cz 65 Try.underlying23 hi Hz.out hs Hczl.out (by decide) cz Hczl.out Hb0.out ?_)
          | (refine wpList_app rfl (.tmp 16) (.tmp 18) 23 rfl w.heap.size 50 ic (.agg cz.toArray) 65 72 Try.underlying23 hi Hz.out hs hby Hczl.out (by decide) (.slice o k c) k (tabC (List.replicate k Cl.zero)).flatten rfl (Ho.out.alloc (.cells cz.toArray 50)) (some ⟨wr.heap.size, 0, none⟩) 1 1 cz rfl (by simp) (by rw [Hczl.out]) row_new (by simpa using Hz1.out) (by unfold maxLen; omega) (by omega) (by simp; omega) ?_; intro v4 w4 ho4 hg4))
        have e5 : (tabC (List.replicate (k + 1) Cl.zero)).flatten = (tabC (List.replicate k Cl.zero)).flatten ++ cz := by rw [List.replicate_succ', tabC_snoc, Hcz.out]
        rw [← e5] at ho4
        have hB4 := (hB.alloc hB.size (.cells cz.toArray 50)).grown hg4 (by simp; omega) (fun b hb => (Ho.out.lt b hb).1)
        go_roundw
        case rel => exact ⟨k + 1, by omega, by go_num, ho4, hB4⟩
        case measure => simp [intOf]; omega
      · obtain rfl : k = m := by omega
        have hlt' : ¬ (k : Int) < (k : Int) := by omega
        go_wp2
        refine bodyPost_ret (v := .tuple #[.slice o k c, .int .i64 0]) (by simp [results, Try.results15, go_sem]) rfl ?_
        exact ⟨.slice o k c, by rw [E1.out], by rw [E2.out, List.length_replicate]; exact ho, hB⟩
end Go.Proofs.Ytfligkncdlocaaa
