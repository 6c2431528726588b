/- The reference's padded message. -/
import Derived.Test.YtfligkncdlocaaaShSpec
namespace Go.Proofs.Ytfligkncdlocaaa
open Go.RowKit

/-- a string of bytes, kept closed -/
def sB (l : List UInt8) : ByteArray := ⟨l.toArray⟩
theorem sB_app (a b : List UInt8) : sB a ++ sB b = sB (a ++ b) := by
  apply ByteArray.ext
  apply Array.toList_inj.1
  simp [sB]
theorem sB_size (l : List UInt8) : (sB l).size = l.length := by
  show l.toArray.size = _
  simp
theorem sB_list (l : List UInt8) : (sB l).data.toList = l := by simp [sB]
theorem sB_of (s : ByteArray) : sB s.data.toList = s := rfl
theorem sB_app0 (l : List UInt8) (x : UInt8) : sB l ++ ⟨#[x]⟩ = sB (l ++ [x]) := sB_app l [x]

set_option maxHeartbeats 1200000 in
theorem ref02_zeros (n : Nat) (hn : n ≤ 64) (w : World) :
    Calls Try.prog 84 #[.int .i64 n] w fun e w' => e = .returned (.string (sB (List.replicate n 0))) ∧ w = w' := by
  go_enter Try.func84, Try.ntmps84
  go_wp2
  go_loopw [3, 4] (fun s i wr => ∃ k : Nat, k ≤ n ∧ i = .int .i64 k ∧ s = .string (sB (List.replicate k 0)) ∧ wr = w) (fun _ i _ => n - (intOf i).toNat)
  case atStart => exact ⟨0, by omega, rfl, rfl, rfl⟩
  case round =>
    obtain ⟨k, hk, rfl, rfl, rfl⟩ := hrel
    by_cases hlt : k < n
    · have hlt' : (k : Int) < (n : Int) := by omega
      have hz := sB_size (List.replicate k 0)
      rw [List.length_replicate] at hz
      have ha := sB_app0 (List.replicate k 0) 0
      have hm : (sB (List.replicate k 0)).size + 1 ≤ maxLen := by rw [hz]; unfold maxLen; omega
      go_wp2
      go_roundw
      case rel => exact ⟨k + 1, by omega, by go_num, by rw [List.replicate_succ'], trivial⟩
      case measure => simp [intOf]; omega
    · obtain rfl : k = n := by omega
      have hlt' : ¬ (k : Int) < (k : Int) := by omega
      go_wp2
      go_ret
      exact ⟨rfl, rfl⟩
theorem lenB_val7 (n i : Nat) (h : i < 8) : (n : Int) * 8 / 2 ^ (8 * i) % 256 = ((lenB n (7 - i)).toNat : Int) := by
  have e : (lenB n (7 - i)).toNat = 8 * n / 2 ^ (8 * i) % 256 := by unfold lenB; rw [show 56 - 8 * (7 - i) = 8 * i by omega]; simp
  rw [e, pow_cast, Int.mul_comm]
  generalize 2 ^ (8 * i) = q
  rw [show (8 : Int) * (n : Int) = ((8 * n : Nat) : Int) by simp, ← Int.natCast_ediv, show (256 : Int) = ((256 : Nat) : Int) from rfl, ← Int.natCast_emod]
theorem be8_take_succ (n j : Nat) (h : j < 8) : (be8 n).take (j + 1) = (be8 n).take j ++ [lenB n j] := by
  rw [List.take_succ_eq_append_getElem (by rw [be8_len]; exact h)]
  simp [be8]
set_option maxHeartbeats 1200000 in
theorem ref02_padded (s : ByteArray) (hs : s.size ≤ 1000000000) (w : World) :
    Calls Try.prog 77 #[.string s] w fun e w' => e = .returned (.string (sB (padL s.data.toList))) ∧ Below w.heap.size w w' := by
  have hl : s.data.toList.length = s.size := by simp
  have e0 : s ++ ⟨#[128]⟩ = sB (s.data.toList ++ [128]) := sB_app0 _ _
  have e1 := sB_size (s.data.toList ++ [128])
  rw [List.length_append, hl, List.length_singleton] at e1
  have hm : s.size + 1 ≤ maxLen := by unfold maxLen; omega
  have hzn : (120 - ((s.size : Int) + 1) % 64) % 64 = ((zN s.size : Nat) : Int) := by unfold zN; omega
  have ez := sB_app (s.data.toList ++ [128]) (List.replicate (zN s.size) 0)
  have e2 := sB_size (List.replicate (zN s.size) 0)
  rw [List.length_replicate] at e2
  have hzl := zN_lt s.size
  have hm2 : s.size + 1 + zN s.size ≤ maxLen := by unfold maxLen; omega
  have hp : padL s.data.toList = s.data.toList ++ [128] ++ List.replicate (zN s.size) 0 ++ be8 s.size := by simp only [padL, hl]
  have Hp := Lib.hid hp
  have hLl : (s.data.toList ++ [128] ++ List.replicate (zN s.size) 0).length = s.size + 1 + zN s.size := by simp; omega
  generalize s.data.toList ++ [128] ++ List.replicate (zN s.size) 0 = L at *
  have hz : ∀ V, Calls Try.prog 84 #[.int .i64 ((zN s.size : Nat) : Int)] V fun e w' => e = .returned (.string (sB (List.replicate (zN s.size) 0))) ∧ V = w' := fun V => ref02_zeros (zN s.size) (by omega) V
  generalize sB (s.data.toList ++ [128]) = s1 at *
  generalize sB (List.replicate (zN s.size) 0) = s2 at *
  have Hz := Lib.hid hz
  clear hz hp
  go_enter Try.func77, Try.ntmps77
  go_wp2_with ((with_reducible refine (Hz.out _).mono ?_); rintro e w' ⟨rfl, rfl⟩)
  clear e0 e1 ez e2 hzn hm hm2 Hz
  go_loopw [3, 5] (fun s' i wr => ∃ j : Nat, j ≤ 8 ∧ i = .int .i64 (7 - (j : Int)) ∧ s' = .string (sB (L ++ (be8 s.size).take j)) ∧ Below w.heap.size w wr) (fun _ i _ => (intOf i + 1).toNat)
  case atStart => exact ⟨0, by omega, rfl, by rw [List.take_zero, List.append_nil], Below.refl _ _⟩
  case round =>
    obtain ⟨j, hj, rfl, rfl, hB⟩ := hrel
    by_cases hlt : j < 8
    · have hi : (7 : Int) - (j : Int) = ((7 - j : Nat) : Int) := by omega
      rw [hi]
      have hi8 : 7 - j < 8 := by omega
      have hlv := lenB_val7 s.size (7 - j) hi8
      rw [show 7 - (7 - j) = j by omega] at hlv
      have i0 : (0 : Int) ≤ ((7 - j : Nat) : Int) := by omega
      have Hi := Lib.hid hi
      have hz1 := sB_size (L ++ (be8 s.size).take j)
      rw [List.length_append, List.length_take, be8_len, hLl, Nat.min_eq_left (by omega)] at hz1
      have hzz : ¬ 9223372036854775807 < (sB (L ++ (be8 s.size).take j)).size + 1 := by rw [hz1]; omega
      have Hst := Lib.hid (by rw [be8_take_succ _ _ hlt, ← List.append_assoc] : L ++ (be8 s.size).take (j + 1) = L ++ (be8 s.size).take j ++ [lenB s.size j])
      generalize L ++ (be8 s.size).take j = M at *
      generalize 7 - j = i at *
      have t0 : (8 * (i : Int)).toNat = 8 * i := by omega
      have i1 : (8 * (i : Int)) < 64 := by omega
      clear hz1 hi
      have ha := sB_app0 M (lenB s.size j)
      have hrow : RowAt (· = wr.heap.size) (wr.alloc (.cells #[.int .u8 ((lenB s.size j).toNat : Int)] 5)) (some ⟨wr.heap.size, 0, none⟩) (bytesV [lenB s.size j]) := RowAt.bx (Bx.new wr #[.int .u8 ((lenB s.size j).toNat : Int)] 5)
      have Hrow := Lib.hid hrow
      clear hrow
      go_wp2_with (refine wpList_str rfl (.tmp 31) 73 9 5 rfl Try.underlying73 Try.underlying5 Try.underlying9 (some ⟨wr.heap.size, 0, none⟩) 1 1 [lenB s.size j] rfl rfl Hrow.out ?_)
      go_roundw
      case rel => exact ⟨j + 1, by omega, by have := Hi.out; go_num, by rw [Hst.out], hB.alloc hB.size _⟩
      case measure => have := Hi.out; simp [intOf]
    · obtain rfl : j = 8 := by omega
      rw [List.take_of_length_le (by simp [be8_len]), ← Hp.out]
      go_wp2
      go_ret
      exact ⟨rfl, hB⟩
end Go.Proofs.Ytfligkncdlocaaa
