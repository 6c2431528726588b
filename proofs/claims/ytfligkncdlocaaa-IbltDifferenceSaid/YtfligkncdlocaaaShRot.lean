/- Rotations of words. -/
import Derived.Test.YtfligkncdlocaaaU32
namespace Go.Proofs.Ytfligkncdlocaaa
open Go.RowKit

set_option maxHeartbeats 1000000 in
theorem ref02_rotate (x : UInt32) (n : Nat) (h1 : 1 ≤ n) (h2 : n ≤ 31) (w : World) :
    Calls Try.prog 87 #[.int .u32 (x.toNat : Int), .int .u64 (n : Int)] w fun e w' => e = .returned (.int .u32 ((rotR x (UInt32.ofNat n)).toNat : Int)) ∧ w = w' := by
  go_enter Try.func87, Try.ntmps87
  go_wp2
  go_ret
  exact ⟨by show Ending.returned (.int .u32 _) = _; rw [← rot_val x n h1 h2], rfl⟩
set_option maxHeartbeats 1000000 in
theorem bits_rotl (x : UInt32) (n : Nat) (h1 : 1 ≤ n) (h2 : n ≤ 31) (w : World) :
    Calls Try.prog 88 #[.int .u32 (x.toNat : Int), .int .i64 (-(n : Int))] w fun e w' => e = .returned (.int .u32 ((rotR x (UInt32.ofNat n)).toNat : Int)) ∧ w = w' := by
  have hs := rot_and n h1 h2
  go_enter Try.func88, Try.ntmps88
  go_wp2
  go_ret
  exact ⟨by show Ending.returned (.int .u32 _) = _; rw [← rot_val x n h1 h2, bits_or32_comm, show 32 - (32 - n) = n by omega], rfl⟩
set_option maxHeartbeats 1000000 in
theorem sha_right (x : UInt32) (n : Nat) (h1 : 1 ≤ n) (h2 : n ≤ 31) (w : World) :
    Calls Try.prog 82 #[.int .u32 (x.toNat : Int), .int .i64 (n : Int)] w fun e w' => e = .returned (.int .u32 ((rotR x (UInt32.ofNat n)).toNat : Int)) ∧ w = w' := by
  go_enter Try.func82, Try.ntmps82
  go_wp2_with fail
  refine (bits_rotl x n h1 h2 _).mono ?_
  rintro e w' ⟨rfl, rfl⟩
  go_wp2
  go_ret
  exact ⟨rfl, rfl⟩
theorem ref02_rot (x : UInt32) (n : Nat) (c : Int) (u : UInt32) (hc : c = (n : Int)) (hu : UInt32.ofNat n = u) (h1 : 1 ≤ n) (h2 : n ≤ 31) (w : World) :
    Calls Try.prog 87 #[.int .u32 (wv x), .int .u64 c] w fun e w' => e = .returned (.int .u32 (wv (rotR x u))) ∧ w = w' := by
  subst hc hu; exact ref02_rotate x n h1 h2 w
theorem sha_rot (x : UInt32) (n : Nat) (c : Int) (u : UInt32) (hc : c = (n : Int)) (hu : UInt32.ofNat n = u) (h1 : 1 ≤ n) (h2 : n ≤ 31) (w : World) :
    Calls Try.prog 82 #[.int .u32 (wv x), .int .i64 c] w fun e w' => e = .returned (.int .u32 (wv (rotR x u))) ∧ w = w' := by
  subst hc hu; exact sha_right x n h1 h2 w
end Go.Proofs.Ytfligkncdlocaaa
