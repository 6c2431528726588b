/- Digests: arrays of 32 bytes as values and in memory. No function of the program is named here. -/
import Derived.Test.YtebgopdmeghmhaaGreatKit0
import Derived.Test.YtebgopdmeghmhaaGreatLazy
import Derived.Deep.MidRow
namespace Go.Proofs.YtebgopdmeghmhaaGreat
open Go.RowKit

/-- the value of a digest -/
def dgV (d : List UInt8) : Value := .agg (bytesV d).toArray
def xorD (a b : List UInt8) : List UInt8 := List.zipWith (fun x y => x ^^^ y) a b
theorem Bx.range {w : World} {b : Nat} {cs : Array Value} {t : TypeId} (h : Bx w b cs t) : w.rangeAt b 0 cs.toList := by
  intro j v hv
  rw [Nat.zero_add, h.cell]
  simpa using hv
theorem wrap_u8 (n : Nat) (h : n < 256) : IntKind.u8.wrap (n : Int) = n := by
  simp [IntKind.wrap, IntKind.bits, IntKind.signed]
  omega
theorem bits_xor8 (x y : UInt8) : bits .xor .u8 (x.toNat : Int) (y.toNat : Int) = ((x ^^^ y).toNat : Int) := by
  unfold bits
  have hx : BitVec.ofInt 8 (x.toNat : Int) = x.toBitVec := by
    apply BitVec.eq_of_toNat_eq
    simp
  have hy : BitVec.ofInt 8 (y.toNat : Int) = y.toBitVec := by
    apply BitVec.eq_of_toNat_eq
    simp
  simp only [IntKind.bits]
  rw [hx, hy, wrap_u8 _ (by exact (x.toBitVec ^^^ y.toBitVec).isLt)]
  rfl
theorem xorD_len {a b : List UInt8} {n : Nat} (ha : a.length = n) (hb : b.length = n) : (xorD a b).length = n := by simp [xorD, ha, hb]
theorem xorD_get {a b : List UInt8} {k : Nat} (ha : k < a.length) (hb : k < b.length) : (xorD a b)[k]? = some (a[k] ^^^ b[k]) := by
  unfold xorD
  rw [List.getElem?_zipWith, List.getElem?_eq_getElem ha, List.getElem?_eq_getElem hb]
/-- one round of an exclusive or in place -/
theorem xor_step {a b c : List UInt8} {k : Nat} (hk : k < 32) (hc : c.length = 32 ∧ c.take k = (xorD a b).take k ∧ c.drop k = a.drop k) (hka : k < a.length) (hkb : k < b.length) :
    (c.set k (a[k] ^^^ b[k])).length = 32 ∧ (c.set k (a[k] ^^^ b[k])).take (k + 1) = (xorD a b).take (k + 1) ∧ (c.set k (a[k] ^^^ b[k])).drop (k + 1) = a.drop (k + 1) := by
  obtain ⟨h1, h2, h3⟩ := hc
  have hx := xorD_get hka hkb
  refine ⟨by simp [h1], ?_, ?_⟩
  · rw [List.take_add_one, List.take_add_one, hx]
    rw [List.take_set_of_le (Nat.le_refl _), h2]
    simp [h1, hk]
  · rw [List.drop_set_of_lt (Nat.lt_succ_self _)]
    have := congrArg (List.drop 1) h3
    rw [List.drop_drop, List.drop_drop] at this
    exact this
theorem same_get {a c : List UInt8} {k : Nat} (h3 : c.drop k = a.drop k) (ha : k < a.length) (hc : k < c.length) : c[k] = a[k] := by
  have := congrArg (fun l => l[0]?) h3
  simpa [ha, hc] using this
theorem bytesV_get {a : List UInt8} {k : Nat} (h : k < a.length) : (bytesV a).toArray[k]? = some (.int .u8 (a[k].toNat : Int)) := by simp [bytesV, h]
theorem bytesV_set (a : List UInt8) (k : Nat) (x : UInt8) : (bytesV a).toArray.setIfInBounds k (.int .u8 (x.toNat : Int)) = (bytesV (a.set k x)).toArray := by simp [bytesV, List.map_set]
theorem there_bx {w : World} {b n : Nat} {cs : Array Value} {t : TypeId} (h : Bx w b cs t) (hn : n ≤ cs.size) : w.there b 0 n := by
  intro j hj
  rw [Nat.zero_add, h.cell, h.free]
  exact ⟨by simp; omega, rfl⟩
theorem Bx.setCells {b : Nat} {t : TypeId} : ∀ (l : List Value) (o : Nat) (w : World) (cs : Array Value), Bx w b cs t →
    ∃ cs', Bx (w.setCells b o l) b cs' t ∧ cs'.size = cs.size ∧ ∀ j, cs'[j]? = if o ≤ j ∧ j < o + l.length ∧ j < cs.size then l[j - o]? else cs[j]?
  | [], o, w, cs, h => ⟨cs, h, rfl, fun j => by rw [if_neg (by simp; omega)]⟩
  | v :: l, o, w, cs, h => by
    obtain ⟨cs', h1, h2, h3⟩ := Bx.setCells l (o + 1) _ _ (h.set o v)
    refine ⟨cs', h1, by rw [h2]; simp, fun j => ?_⟩
    rw [h3]
    simp only [Array.size_setIfInBounds, List.length_cons]
    by_cases e : j = o
    · subst e
      rw [if_neg (by omega)]
      by_cases hj : j < cs.size
      · rw [if_pos (by omega)]; simp [hj]
      · rw [if_neg (by omega), Array.getElem?_eq_none (by simp; omega), Array.getElem?_eq_none (by omega)]
    · by_cases hj : o + 1 ≤ j ∧ j < o + 1 + l.length ∧ j < cs.size
      · rw [if_pos hj, if_pos (by omega)]
        rw [show j - o = (j - (o + 1)) + 1 by omega]; rfl
      · rw [if_neg hj, if_neg (by omega), Array.getElem?_setIfInBounds_ne (fun h => e h.symm)]
theorem Bx.setAll {w : World} {b : Nat} {t : TypeId} {cs cx : Array Value} (h : Bx w b cs t) (hs : cx.size = cs.size) : Bx (w.setCells b 0 cx.toList) b cx t := by
  obtain ⟨cs', h1, h2, h3⟩ := h.setCells cx.toList 0
  have : cs' = cx := by
    apply Array.ext_getElem?
    intro j
    rw [h3]
    by_cases hj : j < cs.size
    · rw [if_pos (by simp; omega)]; simp
    · rw [if_neg (by omega), Array.getElem?_eq_none (by omega), Array.getElem?_eq_none (by omega)]
  rw [this] at h1; exact h1
theorem Bx.setCellsO {b b' : Nat} {t : TypeId} {cs : Array Value} (hne : b ≠ b') : ∀ (l : List Value) (o : Nat) (w : World), Bx w b cs t → Bx (w.setCells b' o l) b cs t
  | [], _, _, h => h
  | v :: l, o, _, h => Bx.setCellsO hne l (o + 1) _ (h.setO (a := ⟨b', o, none⟩) hne v)
theorem below_setCells {B b : Nat} {w0 : World} (hb : B ≤ b) : ∀ (l : List Value) (o : Nat) (w : World), Below B w0 w → Below B w0 (w.setCells b o l)
  | [], _, _, h => h
  | v :: l, o, _, h => below_setCells hb l (o + 1) _ (h.setCell (p := ⟨b, o, none⟩) hb v)
theorem size_setCells {b : Nat} : ∀ (l : List Value) (o : Nat) (w : World), (w.setCells b o l).heap.size = w.heap.size
  | [], _, _ => rfl
  | v :: l, o, w => by rw [World.setCells, size_setCells l (o + 1)]; simp
end Go.Proofs.YtebgopdmeghmhaaGreat
