/- What both Sums compute. -/
import Derived.Test.YtfligkncdlocaaaShCmpr
import Derived.Test.YtfligkncdlocaaaDgXor
namespace Go.Proofs.Ytfligkncdlocaaa
open Go.RowKit

theorem zeroDg : (Try.prog.info? 31).map (·.zero) = some (some (.agg (Array.replicate 32 (.int .u8 0)))) := by kernel_rfl

/-- the zeros behind a message of n bytes and its first byte of the padding -/
def zN (n : Nat) : Nat := (120 - (n + 1) % 64) % 64
def lenB (n j : Nat) : UInt8 := UInt8.ofNat (8 * n / 2 ^ (56 - 8 * j))
def be8 (n : Nat) : List UInt8 := (List.range 8).map (lenB n)
def padL (l : List UInt8) : List UInt8 := l ++ [128] ++ List.replicate (zN l.length) 0 ++ be8 l.length
def nBlk (l : List UInt8) : Nat := (padL l).length / 64
def blk (l : List UInt8) (i : Nat) : ByteArray := ⟨(((padL l).drop (64 * i)).take 64).toArray⟩
def blks (l : List UInt8) : List ByteArray := (List.range (nBlk l)).map (blk l)
def stL (bs : List ByteArray) : List UInt32 := bs.foldl (fun st b => compressL st b.data.toList) shaI
def outB (st : List UInt32) (j : Nat) : UInt8 := UInt8.ofNat ((st.getD (j / 4) 0).toNat / 2 ^ (24 - 8 * (j % 4)))
def outD (st : List UInt32) : List UInt8 := (List.range 32).map (outB st)
/-- the digest of a message -/
def sumL (l : List UInt8) : List UInt8 := outD (stL (blks l))

theorem zN_lt (n : Nat) : zN n < 64 := by unfold zN; omega
theorem zN_at (n : Nat) : (n % 64 + 1 + zN n) % 64 = 56 := by unfold zN; omega
theorem zN_first (n z : Nat) (h : z < zN n) : (n % 64 + 1 + z) % 64 ≠ 56 := by unfold zN at h; omega
theorem be8_len (n : Nat) : (be8 n).length = 8 := by simp [be8]
theorem padL_len (l : List UInt8) : (padL l).length = l.length + 9 + zN l.length := by simp [padL, be8_len]; omega
theorem padL_nBlk (l : List UInt8) : (padL l).length = 64 * nBlk l := by
  have h := padL_len l
  have h2 := zN_at l.length
  unfold nBlk
  omega
theorem nBlk_at (l : List UInt8) : 64 * nBlk l = l.length + 9 + zN l.length := by rw [← padL_nBlk, padL_len]
theorem blks_len (l : List UInt8) : (blks l).length = nBlk l := by simp [blks]
theorem blks_take_succ {l : List UInt8} {k : Nat} (h : k < nBlk l) : (blks l).take (k + 1) = (blks l).take k ++ [blk l k] := by
  rw [List.take_succ_eq_append_getElem (by rw [blks_len]; exact h)]
  simp [blks]
theorem blk_size {l : List UInt8} {k : Nat} (h : k < nBlk l) : (blk l k).size = 64 := by
  have := padL_nBlk l
  show (((padL l).drop (64 * k)).take 64).toArray.size = 64
  simp only [List.size_toArray, List.length_take, List.length_drop]
  omega
/-- a block of 64 bytes -/
def Blk : Type := { x : ByteArray // x.size = 64 }
def Blk.b (x : Blk) : ByteArray := x.1
def blkB (l : List UInt8) (k : Fin (nBlk l)) : Blk := ⟨blk l k.1, blk_size k.2⟩
def blkBs (l : List UInt8) : List Blk := (List.finRange (nBlk l)).map (blkB l)
theorem blkBs_len (l : List UInt8) : (blkBs l).length = nBlk l := by simp [blkBs]
theorem blkBs_take_succ {l : List UInt8} {k : Nat} (h : k < nBlk l) : (blkBs l).take (k + 1) = (blkBs l).take k ++ [blkB l ⟨k, h⟩] := by
  rw [List.take_succ_eq_append_getElem (by rw [blkBs_len]; exact h)]
  simp [blkBs]
theorem blkBs_vals (l : List UInt8) : (blkBs l).map Blk.b = blks l := by
  unfold blkBs blks
  apply List.ext_getElem?
  intro i
  by_cases hi : i < nBlk l
  · simp [hi, blkB, Blk.b]
  · rw [List.getElem?_eq_none (by simp; omega), List.getElem?_eq_none (by simp; omega)]
theorem sumL_len (l : List UInt8) : (sumL l).length = 32 := by simp [sumL, outD]
theorem stL_snoc (bs : List ByteArray) (b : ByteArray) : stL (bs ++ [b]) = compressL (stL bs) b.data.toList := by simp [stL]
theorem compressL_len {st : List UInt32} (h : st.length = 8) (b : List UInt8) : (compressL st b).length = 8 := by simp [compressL, h, S8.list]
theorem stL_snocB (bs : List Blk) (b : Blk) : stL ((bs ++ [b]).map Blk.b) = compressL (stL (bs.map Blk.b)) b.1.data.toList := by rw [List.map_append]; exact stL_snoc _ _
theorem stL_len (bs : List ByteArray) : (stL bs).length = 8 := by
  unfold stL
  suffices ∀ (bs : List ByteArray) (st : List UInt32), st.length = 8 → (bs.foldl (fun st b => compressL st b.data.toList) st).length = 8 from this bs shaI rfl
  intro bs
  induction bs with
  | nil => intro st h; exact h
  | cons b bs ih => intro st h; exact ih _ (compressL_len h _)
/-- a whole block of the message -/
theorem blk_whole (s : ByteArray) (k : Nat) (h : 64 * k + 64 ≤ s.size) : s.extract (64 * k) (64 * k + 64) = blk s.data.toList k := by
  have hl : s.data.toList.length = s.size := by simp
  have e : (blk s.data.toList k) = ⟨((s.data.toList.drop (64 * k)).take 64).toArray⟩ := by
    unfold blk padL
    rw [List.append_assoc, List.append_assoc, List.drop_append_of_le_length (by omega), List.take_append_of_le_length (by simp; omega)]
  rw [e]
  apply ByteArray.ext
  apply Array.toList_inj.1
  rw [ByteArray.data_extract, Array.toList_extract]
  simp [List.extract_eq_take_drop]
theorem out_val32 (st : List UInt32) (k : Nat) : wv (st.getD (k / 4) 0) / 2 ^ (24 - 8 * (k % 4)) % 256 = ((outB st k).toNat : Int) := by
  have e : (outB st k).toNat = (st.getD (k / 4) 0).toNat / 2 ^ (24 - 8 * (k % 4)) % 256 := by unfold outB; simp
  rw [e, pow_cast]
  unfold wv
  generalize 2 ^ (24 - 8 * (k % 4)) = q
  rw [← Int.natCast_ediv, show (256 : Int) = ((256 : Nat) : Int) from rfl, ← Int.natCast_emod]
theorem outD_len (st : List UInt32) : (outD st).length = 32 := by simp [outD]
/-- the digest so far -/
def dP (st : List UInt32) (m : Nat) : List UInt8 := (List.range m).map (outB st) ++ List.replicate (32 - m) 0
theorem dP_len {st : List UInt32} {m : Nat} (h : m ≤ 32) : (dP st m).length = 32 := by simp [dP]; omega
theorem dP_all (st : List UInt32) : dP st 32 = outD st := by simp [dP, outD]
theorem dP_set {st : List UInt32} {m : Nat} (h : m < 32) : (dP st m).set m (outB st m) = dP st (m + 1) := by
  unfold dP
  have hl : ((List.range m).map (outB st)).length = m := by simp
  rw [List.set_append_right _ _ (by omega), hl, Nat.sub_self, show 32 - m = (32 - (m + 1)) + 1 by omega, List.replicate_succ, List.set_cons_zero, List.range_succ, List.map_append, List.append_assoc]
  rfl
theorem out_val (st : List UInt32) (i j : Nat) (hj : j < 4) : wv (st.getD i 0) / 2 ^ (24 - 8 * j) % 256 = ((outB st (4 * i + j)).toNat : Int) := by
  have e : (outB st (4 * i + j)).toNat = (st.getD i 0).toNat / 2 ^ (24 - 8 * j) % 256 := by
    unfold outB
    rw [show (4 * i + j) / 4 = i by omega, show (4 * i + j) % 4 = j by omega]
    simp
  rw [e, pow_cast]
  unfold wv
  generalize 2 ^ (24 - 8 * j) = q
  rw [← Int.natCast_ediv, show (256 : Int) = ((256 : Nat) : Int) from rfl, ← Int.natCast_emod]
end Go.Proofs.Ytfligkncdlocaaa
