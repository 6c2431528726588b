/- quiltref47.index: the cell of a digest. -/
import Derived.Test.YtfligkncdlocaaaIbPut
namespace Go.Proofs.Ytfligkncdlocaaa
open Go.RowKit

set_option maxRecDepth 100000 in
set_option maxHeartbeats 1200000 in
theorem ref47_index (d : List UInt8) (hd : d.length = 32) (n k : Nat) (hn3 : 3 ≤ n) (hn4 : n ≤ 1000000) (hk : k < 3) (w : World) :
    Calls Try.prog 52 #[dgV d, .int .i64 n, .int .i64 k] w fun e w' => e = .returned (.int .i64 (posN d n k)) ∧ Below w.heap.size w w' := by
  obtain ⟨cd, hcd⟩ : ∃ c, (bytesV d).toArray = c := ⟨_, rfl⟩
  unfold dgV
  rw [hcd]
  have xd := Bx.new w cd 31
  have hB := Below.one w (.cells cd 31)
  have Hd8 : Hid (8 * k + 8 ≤ d.length) := Lib.hid (by omega)
  have cD : ∀ j (hj : j < 8), (w.alloc (.cells cd 31)).cell? ⟨w.heap.size, 8 * k + j, none⟩ = some (.int .u8 ((d[8 * k + j]'(by have := Hd8.out; omega)).toNat : Int)) := fun j hj => by rw [xd.cell, ← hcd, bytesV_get (by have := Hd8.out; omega)]
  have HcD := Lib.hid cD
  have hld : w.heap.size < (w.alloc (.cells cd 31)).heap.size := xd.lt
  clear cD hcd xd
  go_enter Try.func52, Try.ntmps52
  go_wp2
  generalize w.alloc (.cells cd 31) = W2 at *
  go_loopw [7, 8] (fun x i wr => ∃ j : Nat, j ≤ 8 ∧ i = .int .i64 j ∧ x = .int .u64 (wq (keyP d k j)) ∧ wr = W2) (fun _ i _ => 8 - (intOf i).toNat)
  case atStart => exact ⟨0, by omega, rfl, rfl, rfl⟩
  case round =>
    obtain ⟨j, hj, rfl, rfl, rfl⟩ := hrel
    by_cases hlt2 : j < 8
    · have hltj : (j : Int) < 8 := by omega
      have i0 : (0 : Int) ≤ 8 * (k : Int) + (j : Int) := by omega
      have i1 : 8 * (k : Int) + (j : Int) < 32 := by omega
      have t0 : (8 * (k : Int) + (j : Int)).toNat = 8 * k + j := by omega
      have cx := HcD.out j hlt2
      have hsu := keyP_succ (d := d) (part := k) (j := j) (by have := Hd8.out; omega)
      generalize d[8 * k + j]'(by have := Hd8.out; omega) = c at *
      have Hsu := Lib.hid hsu
      clear hsu
      go_wp2
      rw [key_raw2, ← Hsu.out]
      go_roundw
      case rel => exact ⟨j + 1, by omega, by go_num, rfl, trivial⟩
      case measure => simp [intOf]; omega
    · obtain rfl : j = 8 := by omega
      have hltj : ¬ ((8 : Nat) : Int) < 8 := by omega
      obtain ⟨m, hm⟩ : ∃ m, n / 3 = m := ⟨_, rfl⟩
      have hx : posN d n k = k * m + (keyP d k 8).toNat % m := by unfold posN; rw [hm]
      have hm1 : 1 ≤ m := by omega
      have hm2 : m ≤ 1000000 := by omega
      have hq4 : (n : Int) / 3 = (m : Int) := by omega
      have hq3 : (n : Int).tdiv 3 = (m : Int) := by rw [Int.tdiv_eq_ediv_of_nonneg (by omega)]; omega
      have hkm : k * m ≤ 3 * m := Nat.mul_le_mul_right _ (by omega)
      have hw : IntKind.i64.wrap ((k : Int) * (m : Int)) = ((k * m : Nat) : Int) := by rw [← Int.natCast_mul]; exact IntWalk.i64_in _ (by omega)
      have hr1 := Nat.mod_lt (keyP d k 8).toNat (show 0 < m by omega)
      have hr2 : (wq (keyP d k 8)).tmod (m : Int) = (((keyP d k 8).toNat % m : Nat) : Int) := by unfold wq; rw [Int.tmod_eq_emod_of_nonneg (by omega)]; exact (Int.natCast_emod _ _).symm
      have hm0 : ¬ (m : Int) = 0 := by omega
      have hmw : IntKind.u64.wrap (m : Int) = (m : Int) := wrap_u64 m (by omega)
      have Hx := Lib.hid hx
      clear hx hm
      generalize (keyP d k 8).toNat % m = r at *
      generalize k * m = km at *
      go_wp2
      go_ret
      exact ⟨by rw [Hx.out, Int.natCast_add]; rfl, hB⟩
end Go.Proofs.Ytfligkncdlocaaa
