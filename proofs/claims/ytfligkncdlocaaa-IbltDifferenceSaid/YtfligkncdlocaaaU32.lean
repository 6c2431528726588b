/- 32-bit words: what the walk computes on them, as UInt32. -/
import Derived.Test.YtfligkncdlocaaaDig
namespace Go.Proofs.Ytfligkncdlocaaa
open Go.RowKit

/-- a word as the walk holds it: kept closed -/
def wv (x : UInt32) : Int := (x.toNat : Int)
def u32V (x : UInt32) : Value := .int .u32 (wv x)
def rotR (x n : UInt32) : UInt32 := (x >>> n) ||| (x <<< (32 - n))
theorem wrap_u32 (n : Nat) (h : n < 4294967296) : IntKind.u32.wrap (n : Int) = n := by
  simp [IntKind.wrap, IntKind.bits, IntKind.signed]
  omega
theorem ofInt_u32 (x : UInt32) : BitVec.ofInt 32 (x.toNat : Int) = x.toBitVec := by
  apply BitVec.eq_of_toNat_eq
  simp
theorem bits_xor32 (x y : UInt32) : bits .xor .u32 (x.toNat : Int) (y.toNat : Int) = ((x ^^^ y).toNat : Int) := by
  unfold bits
  simp only [IntKind.bits]
  rw [ofInt_u32, ofInt_u32, wrap_u32 _ (by exact (x.toBitVec ^^^ y.toBitVec).isLt)]
  rfl
theorem bits_and32 (x y : UInt32) : bits .and .u32 (x.toNat : Int) (y.toNat : Int) = ((x &&& y).toNat : Int) := by
  unfold bits
  simp only [IntKind.bits]
  rw [ofInt_u32, ofInt_u32, wrap_u32 _ (by exact (x.toBitVec &&& y.toBitVec).isLt)]
  rfl
theorem bits_or32 (x y : UInt32) : bits .or .u32 (x.toNat : Int) (y.toNat : Int) = ((x ||| y).toNat : Int) := by
  unfold bits
  simp only [IntKind.bits]
  rw [ofInt_u32, ofInt_u32, wrap_u32 _ (by exact (x.toBitVec ||| y.toBitVec).isLt)]
  rfl
theorem add32 (x y : UInt32) : IntKind.u32.wrap ((x.toNat : Int) + (y.toNat : Int)) = ((x + y).toNat : Int) := by
  simp [IntKind.wrap, IntKind.bits, IntKind.signed, UInt32.toNat_add]
theorem toNat_ofNat32 {n : Nat} (h : n < 32) : (UInt32.ofNat n).toNat = n := by simp; omega
theorem pow_cast (n : Nat) : (2 : Int) ^ n = ((2 ^ n : Nat) : Int) := by simp
theorem shl32 (x : UInt32) (n : Nat) (h : n < 32) : IntKind.u32.wrap ((x.toNat : Int) * 2 ^ n) = ((x <<< UInt32.ofNat n).toNat : Int) := by
  have e := toNat_ofNat32 h
  simp only [UInt32.toNat_shiftLeft, e]
  rw [show n % 32 = n by omega, Nat.shiftLeft_eq, pow_cast, ← Int.natCast_mul]
  simp [IntKind.wrap, IntKind.bits, IntKind.signed]
theorem shr32 (x : UInt32) (n : Nat) (h : n < 32) : ((x.toNat : Int)).fdiv (2 ^ n) = ((x >>> UInt32.ofNat n).toNat : Int) := by
  have e := toNat_ofNat32 h
  simp only [UInt32.toNat_shiftRight, e]
  rw [show n % 32 = n by omega, Nat.shiftRight_eq_div_pow, pow_cast, Int.fdiv_eq_ediv_of_nonneg _ (Int.natCast_nonneg _), ← Int.natCast_ediv]
theorem shr32' (x : UInt32) (n : Nat) (h : n < 32) : (x.toNat : Int) / 2 ^ n = ((x >>> UInt32.ofNat n).toNat : Int) := by
  rw [← shr32 x n h, Int.fdiv_eq_ediv_of_nonneg _ (by rw [pow_cast]; exact Int.natCast_nonneg _)]
theorem shl32' (x : UInt32) (n : Nat) (h : n < 32) : (x.toNat : Int) * 2 ^ n % 4294967296 = ((x <<< UInt32.ofNat n).toNat : Int) := by
  rw [← shl32 x n h]
  simp [IntKind.wrap, IntKind.bits, IntKind.signed]
theorem sub_ofNat32 (n : Nat) (h1 : 1 ≤ n) (h2 : n ≤ 31) : (32 : UInt32) - UInt32.ofNat n = UInt32.ofNat (32 - n) := by
  apply UInt32.toNat_inj.1
  rw [UInt32.toNat_sub, toNat_ofNat32 (by omega), toNat_ofNat32 (by omega)]
  simp; omega
theorem rot_val (x : UInt32) (n : Nat) (h1 : 1 ≤ n) (h2 : n ≤ 31) : bits .or .u32 ((x.toNat : Int) / 2 ^ n) ((x.toNat : Int) * 2 ^ (32 - n) % 4294967296) = ((rotR x (UInt32.ofNat n)).toNat : Int) := by
  rw [shr32' x n (by omega), shl32' x (32 - n) (by omega), bits_or32, rotR, sub_ofNat32 n h1 h2]
theorem bits_or32_comm (a b : Int) : bits .or .u32 a b = bits .or .u32 b a := by
  unfold bits
  simp only
  rw [BitVec.or_comm]
theorem rot_and (n : Nat) (h1 : 1 ≤ n) (h2 : n ≤ 31) : bits .and .u64 (IntKind.u64.wrap (-(n : Int))) 31 = 32 - (n : Int) := by
  have : ∀ n : Fin 32, 1 ≤ n.1 → bits .and .u64 (IntKind.u64.wrap (-(n.1 : Int))) 31 = 32 - (n.1 : Int) := by decide +kernel
  exact this ⟨n, by omega⟩ h1
/-! the rules of the walk -/
theorem wv_xor (x y : UInt32) : bits .xor .u32 (wv x) (wv y) = wv (x ^^^ y) := bits_xor32 x y
theorem wv_and (x y : UInt32) : bits .and .u32 (wv x) (wv y) = wv (x &&& y) := bits_and32 x y
theorem wv_or (x y : UInt32) : bits .or .u32 (wv x) (wv y) = wv (x ||| y) := bits_or32 x y
theorem wv_add (x y : UInt32) : IntKind.u32.wrap (wv x + wv y) = wv (x + y) := add32 x y
theorem wv_add' (x y : UInt32) : (wv x + wv y) % 4294967296 = wv (x + y) := by
  rw [← wv_add]; simp [IntKind.wrap, IntKind.bits, IntKind.signed]
theorem wv_not (x : UInt32) : bits .xor .u32 4294967295 (wv x) = wv (~~~x) := by
  have h : (4294967295 : Int) = wv 4294967295 := by decide
  rw [h, wv_xor]
  congr 1
theorem wv_shr (x : UInt32) (n : Nat) (h : n < 32) : (wv x) / 2 ^ n = wv (x >>> UInt32.ofNat n) := shr32' x n h
theorem wv_shrf (x : UInt32) (n : Nat) (h : n < 32) : (wv x).fdiv (2 ^ n) = wv (x >>> UInt32.ofNat n) := shr32 x n h
theorem wv_bd (x : UInt32) : 0 ≤ wv x ∧ wv x ≤ 4294967295 := by
  have := x.toNat_lt
  unfold wv; omega
end Go.Proofs.Ytfligkncdlocaaa
