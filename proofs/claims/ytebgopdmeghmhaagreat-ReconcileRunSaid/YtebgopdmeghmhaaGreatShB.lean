/- What both Sums compute. sha256.blocks: the contract of its iterator: the blocks of the padded message, in order. sha256.Sum: the digest of a message. -/
import Derived.Test.YtebgopdmeghmhaaGreatShA
import Derived.Test.YtebgopdmeghmhaaGreatDgXor
import Derived.RangeFuncBox
import Derived.RangeFuncLeaves
import Derived.Shelf.Abstract
import Derived.WalkKit
import Derived.OwnWalkIn
import Derived.TacticsInMore
import Derived.LoopNIn
import Derived.LoopIn
import Derived.Test.YtebgopdmeghmhaaGreatRunLaw
import Derived.Test.YtebgopdmeghmhaaGreatArr
namespace Go.Proofs.YtebgopdmeghmhaaGreat
open Go.RowKit

theorem zeroDg : (Tryz.prog.info? 39).map (·.zero) = some (some (.agg (Array.replicate 32 (.int .u8 0)))) := by kernel_rfl

/-- the zeros behind a message of n bytes and its first byte of the padding -/
def zN (n : Nat) : Nat := (120 - (n + 1) % 64) % 64
def lenB (n j : Nat) : UInt8 := UInt8.ofNat (8 * n / 2 ^ (56 - 8 * j))
def be8 (n : Nat) : List UInt8 := (List.range 8).map (lenB n)
def padL (l : List UInt8) : List UInt8 := l ++ [128] ++ List.replicate (zN l.length) 0 ++ be8 l.length
def nBlk (l : List UInt8) : Nat := (padL l).length / 64
def blk (l : List UInt8) (i : Nat) : ByteArray := ⟨(((padL l).drop (64 * i)).take 64).toArray⟩
def blks (l : List UInt8) : List ByteArray := (List.range (nBlk l)).map (blk l)
def stL (bs : List ByteArray) : List UInt32 := bs.foldl (fun st b => compressL st b.data.toList) shaI
def outB (st : List UInt32) (j : Nat) : UInt8 := UInt8.ofNat ((st.getD (j / 4) 0).toNat / 2 ^ (24 - 8 * (j % 4)))
def outD (st : List UInt32) : List UInt8 := (List.range 32).map (outB st)
/-- the digest of a message -/
def sumL (l : List UInt8) : List UInt8 := outD (stL (blks l))

theorem zN_lt (n : Nat) : zN n < 64 := by unfold zN; omega
theorem zN_at (n : Nat) : (n % 64 + 1 + zN n) % 64 = 56 := by unfold zN; omega
theorem zN_first (n z : Nat) (h : z < zN n) : (n % 64 + 1 + z) % 64 ≠ 56 := by unfold zN at h; omega
theorem be8_len (n : Nat) : (be8 n).length = 8 := by simp [be8]
theorem padL_len (l : List UInt8) : (padL l).length = l.length + 9 + zN l.length := by simp [padL, be8_len]; omega
theorem padL_nBlk (l : List UInt8) : (padL l).length = 64 * nBlk l := by
  have h := padL_len l
  have h2 := zN_at l.length
  unfold nBlk
  omega
theorem nBlk_at (l : List UInt8) : 64 * nBlk l = l.length + 9 + zN l.length := by rw [← padL_nBlk, padL_len]
theorem blks_len (l : List UInt8) : (blks l).length = nBlk l := by simp [blks]
theorem blks_take_succ {l : List UInt8} {k : Nat} (h : k < nBlk l) : (blks l).take (k + 1) = (blks l).take k ++ [blk l k] := by
  rw [List.take_succ_eq_append_getElem (by rw [blks_len]; exact h)]
  simp [blks]
theorem blk_size {l : List UInt8} {k : Nat} (h : k < nBlk l) : (blk l k).size = 64 := by
  have := padL_nBlk l
  show (((padL l).drop (64 * k)).take 64).toArray.size = 64
  simp only [List.size_toArray, List.length_take, List.length_drop]
  omega
/-- a block of 64 bytes -/
def Blk : Type := { x : ByteArray // x.size = 64 }
def Blk.b (x : Blk) : ByteArray := x.1
def blkB (l : List UInt8) (k : Fin (nBlk l)) : Blk := ⟨blk l k.1, blk_size k.2⟩
def blkBs (l : List UInt8) : List Blk := (List.finRange (nBlk l)).map (blkB l)
theorem blkBs_len (l : List UInt8) : (blkBs l).length = nBlk l := by simp [blkBs]
theorem blkBs_take_succ {l : List UInt8} {k : Nat} (h : k < nBlk l) : (blkBs l).take (k + 1) = (blkBs l).take k ++ [blkB l ⟨k, h⟩] := by
  rw [List.take_succ_eq_append_getElem (by rw [blkBs_len]; exact h)]
  simp [blkBs]
theorem blkBs_vals (l : List UInt8) : (blkBs l).map Blk.b = blks l := by
  unfold blkBs blks
  apply List.ext_getElem?
  intro i
  by_cases hi : i < nBlk l
  · simp [hi, blkB, Blk.b]
  · rw [List.getElem?_eq_none (by simp; omega), List.getElem?_eq_none (by simp; omega)]
theorem sumL_len (l : List UInt8) : (sumL l).length = 32 := by simp [sumL, outD]
theorem stL_snoc (bs : List ByteArray) (b : ByteArray) : stL (bs ++ [b]) = compressL (stL bs) b.data.toList := by simp [stL]
theorem compressL_len {st : List UInt32} (h : st.length = 8) (b : List UInt8) : (compressL st b).length = 8 := by simp [compressL, h, S8.list]
theorem stL_snocB (bs : List Blk) (b : Blk) : stL ((bs ++ [b]).map Blk.b) = compressL (stL (bs.map Blk.b)) b.1.data.toList := by rw [List.map_append]; exact stL_snoc _ _
theorem stL_len (bs : List ByteArray) : (stL bs).length = 8 := by
  unfold stL
  suffices ∀ (bs : List ByteArray) (st : List UInt32), st.length = 8 → (bs.foldl (fun st b => compressL st b.data.toList) st).length = 8 from this bs shaI rfl
  intro bs
  induction bs with
  | nil => intro st h; exact h
  | cons b bs ih => intro st h; exact ih _ (compressL_len h _)
/-- a whole block of the message -/
theorem blk_whole (s : ByteArray) (k : Nat) (h : 64 * k + 64 ≤ s.size) : s.extract (64 * k) (64 * k + 64) = blk s.data.toList k := by
  have hl : s.data.toList.length = s.size := by simp
  have e : (blk s.data.toList k) = ⟨((s.data.toList.drop (64 * k)).take 64).toArray⟩ := by
    unfold blk padL
    rw [List.append_assoc, List.append_assoc, List.drop_append_of_le_length (by omega), List.take_append_of_le_length (by simp; omega)]
  rw [e]
  apply ByteArray.ext
  apply Array.toList_inj.1
  rw [ByteArray.data_extract, Array.toList_extract]
  simp [List.extract_eq_take_drop]
theorem out_val32 (st : List UInt32) (k : Nat) : wv (st.getD (k / 4) 0) / 2 ^ (24 - 8 * (k % 4)) % 256 = ((outB st k).toNat : Int) := by
  have e : (outB st k).toNat = (st.getD (k / 4) 0).toNat / 2 ^ (24 - 8 * (k % 4)) % 256 := by unfold outB; simp
  rw [e, pow_cast]
  unfold wv
  generalize 2 ^ (24 - 8 * (k % 4)) = q
  rw [← Int.natCast_ediv, show (256 : Int) = ((256 : Nat) : Int) from rfl, ← Int.natCast_emod]
theorem outD_len (st : List UInt32) : (outD st).length = 32 := by simp [outD]
/-- the digest so far -/
def dP (st : List UInt32) (m : Nat) : List UInt8 := (List.range m).map (outB st) ++ List.replicate (32 - m) 0
theorem dP_len {st : List UInt32} {m : Nat} (h : m ≤ 32) : (dP st m).length = 32 := by simp [dP]; omega
theorem dP_all (st : List UInt32) : dP st 32 = outD st := by simp [dP, outD]
theorem dP_set {st : List UInt32} {m : Nat} (h : m < 32) : (dP st m).set m (outB st m) = dP st (m + 1) := by
  unfold dP
  have hl : ((List.range m).map (outB st)).length = m := by simp
  rw [List.set_append_right _ _ (by omega), hl, Nat.sub_self, show 32 - m = (32 - (m + 1)) + 1 by omega, List.replicate_succ, List.set_cons_zero, List.range_succ, List.map_append, List.append_assoc]
  rfl
theorem out_val (st : List UInt32) (i j : Nat) (hj : j < 4) : wv (st.getD i 0) / 2 ^ (24 - 8 * j) % 256 = ((outB st (4 * i + j)).toNat : Int) := by
  have e : (outB st (4 * i + j)).toNat = (st.getD i 0).toNat / 2 ^ (24 - 8 * j) % 256 := by
    unfold outB
    rw [show (4 * i + j) / 4 = i by omega, show (4 * i + j) % 4 = j by omega]
    simp
  rw [e, pow_cast]
  unfold wv
  generalize 2 ^ (24 - 8 * j) = q
  rw [← Int.natCast_ediv, show (256 : Int) = ((256 : Nat) : Int) from rfl, ← Int.natCast_emod]
end Go.Proofs.YtebgopdmeghmhaaGreat
namespace Go.Proofs.YtebgopdmeghmhaaGreat
open Go.RowKit Go.Shelf
attribute [local go_sem] Oper.semAt_some

theorem KeepT.cell {T : Nat → Prop} {W W' : World} (h : KeepT T W W') {p : Addr} {v : Value} (hp : T p.block) (hc : W.cell? p = some v) : W'.cell? p = some v := by
  obtain ⟨o, ho, _⟩ := cells_of_cell hc
  exact (World.cell?_of_block ((h _ o hp ho).trans ho.symm)).trans hc
theorem info_parts {P : Program} {t : TypeId} {z : Value} {n b : Nat} (h : (P.info? t).map (fun i => (i.zero, i.size, i.bytes)) = some (some z, n, b)) : ∃ i, P.info? t = some i ∧ i.zero = some z ∧ i.size = n ∧ i.bytes = b := by
  cases hi : P.info? t with
  | none => simp [hi] at h
  | some i => simp [hi] at h; exact ⟨i, rfl, h.1, h.2.1, h.2.2⟩
theorem infoU8 : (Tryz.prog.info? 5).map (fun i => (i.zero, i.size, i.bytes)) = some (some (.int .u8 0), 1, 1) := by kernel_rfl
def lenV : Value → Nat
  | .slice _ n _ => n
  | _ => 0
theorem grown_alloc {W w : World} (h : W.grownBy w none) (o : Obj) : W.grownBy (w.alloc o) none :=
  have hg := World.grownBy_alloc w o none
  ⟨hg.os.trans h.os, hg.tape.trans h.tape, hg.output.trans h.output, Nat.le_trans h.size hg.size, fun k hk hn => (hg.block k (Nat.lt_of_lt_of_le hk h.size) hn).trans (h.block k hk hn)⟩
theorem grown_own {W w w' : World} {base : Nat} {e : TypeId} {v : Value} {n : Nat} {xs : List Value} (h : W.grownBy w none) (hg : w.grownBy w' v.ownBlock) (ho : OwnG w base e v n xs) (hb : W.heap.size ≤ base := by exact Nat.le_refl _) : W.grownBy w' none :=
  ⟨hg.os.trans h.os, hg.tape.trans h.tape, hg.output.trans h.output, Nat.le_trans h.size hg.size, fun k hk _ => (hg.block k (Nat.lt_of_lt_of_le hk h.size) (fun e => by have := (ho.lt k e.symm).1; omega)).trans (h.block k hk (by simp))⟩
theorem lenB_val (n j : Nat) : (n : Int) * 8 / 2 ^ (56 - 8 * j) % 256 = ((lenB n j).toNat : Int) := by
  have e : (lenB n j).toNat = 8 * n / 2 ^ (56 - 8 * j) % 256 := by simp [lenB]
  rw [e, pow_cast, Int.mul_comm]
  generalize 2 ^ (56 - 8 * j) = q
  rw [show (8 : Int) * (n : Int) = ((8 * n : Nat) : Int) by simp, ← Int.natCast_ediv, show (256 : Int) = ((256 : Nat) : Int) from rfl, ← Int.natCast_emod]
theorem be8_take_succ (n j : Nat) (h : j < 8) : (be8 n).take (j + 1) = (be8 n).take j ++ [lenB n j] := by
  rw [List.take_succ_eq_append_getElem (by rw [be8_len]; exact h)]
  simp [be8]
theorem blk_last (s : ByteArray) (k q : Nat) (hk : k = s.size / 64) (r : ByteArray) (hr : s.extract (64 * k) s.size = r) (L : List UInt8) (hL : r.data.toList ++ [128] ++ List.replicate (zN s.size) 0 = L) :
    blk s.data.toList (k + q) = ⟨(((L ++ be8 s.size).drop (64 * q)).take 64).toArray⟩ := by
  have hl : s.data.toList.length = s.size := by simp
  have hsz : s.data.size = s.size := rfl
  have e : padL s.data.toList = s.data.toList.take (64 * k) ++ (L ++ be8 s.size) := by
    have e2 : r.data.toList = s.data.toList.drop (64 * k) := by
      rw [← hr, ByteArray.data_extract, Array.toList_extract]
      simp only [List.extract_eq_take_drop]
      rw [List.take_of_length_le (by simp)]
    unfold padL
    rw [hl, ← hL, e2]
    simp only [← List.append_assoc, List.take_append_drop]
  unfold blk
  rw [e, List.drop_append, List.drop_eq_nil_of_le (by simp; omega), List.length_take, hl, Nat.min_eq_left (by omega), List.nil_append, show 64 * (k + q) - 64 * k = 64 * q by omega]
theorem quo64 (n : Nat) : (n : Int).tdiv 64 = ((n / 64 : Nat) : Int) := by
  rw [Int.tdiv_eq_ediv_of_nonneg (by omega)]; omega

set_option maxRecDepth 100000 in
set_option maxHeartbeats 1200000 in
theorem blocks_runs (n : Nat) (hn : 1 ≤ n) (s : ByteArray) (hs : s.size ≤ 1000000000) (Bs : Nat) (T : Nat → Prop) (W : World) (hTB : T Bs) (hTW : ∀ b, W.heap.size ≤ b → T b) (hB : Bx W Bs #[.string s] 9) :
    SeqRun2 Fence.wide n Tryz.prog 112 #[.pointer (some ⟨Bs, 0, none⟩)] (fun x : Blk => #[Value.string x.1]) T (fun ys => ys = blkBs s.data.toList) (nBlk s.data.toList) W := by
  intro l J hJ hY h0 hJz
  have hro : Fence.wide.round = none := rfl
  have lB := hB.lt
  have c0 := hB.cell 0
  simp at c0
  have hl : s.data.toList.length = s.size := by simp
  obtain ⟨i8, h80, h81, h82, h83⟩ := info_parts infoU8
  have hnb := nBlk_at s.data.toList
  rw [hl] at hnb
  refine callsIn_of_wp Tryz.func112 rfl trivial ?_ hro
  simp only [Tryz.ntmps112, List.size_toArray, List.length_cons, List.length_nil, Nat.reduceAdd, Nat.reduceSub, Array.replicate_succ, Array.replicate_zero, List.push_toArray, List.append_toArray, List.nil_append, List.cons_append]
  gi_wp2
  gi_loopw [4] (fun i wr => ∃ k : Nat, 64 * k ≤ s.size ∧ i = .int .i64 (64 * (k : Int)) ∧ J ((blkBs s.data.toList).take k) wr ∧ KeepT T W wr) (fun i _ => s.size - (intOf i).toNat)
  case atStart => exact ⟨0, by omega, rfl, h0, KeepT.refl _ _⟩
  case round =>
    obtain ⟨k, hk, rfl, hJk, hKT⟩ := hrel
    have cB : wr.cell? ⟨Bs, 0, none⟩ = some (.string s) := hKT.cell hTB c0
    by_cases hlt : k < s.size / 64
    · have hlt' : 64 * (k : Int) < (s.size : Int) / 64 * 64 := by omega
      have i0 : (0 : Int) ≤ 64 * (k : Int) := by omega
      have i1 : (64 : Int) * (k : Int) + 64 ≤ (s.size : Int) := by omega
      have i2 : (64 : Int) * (k : Int) ≤ 64 * (k : Int) + 64 := by omega
      have t0 : (64 * (k : Int)).toNat = 64 * k := by omega
      have t1 : (64 * (k : Int) + 64).toNat = 64 * k + 64 := by omega
      have hex := blk_whole s k (by omega)
      have hkn : k < nBlk s.data.toList := by omega
      have hbz := blk_size hkn
      have hbm : (blk s.data.toList k).size ≤ maxLen := by rw [hbz]; decide
      obtain ⟨fn, tmps, assign, body, hy, hR⟩ := hY _ (blkB s.data.toList ⟨k, hkn⟩) wr hJk (by simp [blkBs_len]; omega)
      dsimp only [blkB] at hy
      generalize blk s.data.toList k = x at hy hex hbz hbm
      gi_wp2
      refine hR.mono ?_
      rintro e W3 ⟨rfl, hJ3, hk3⟩
      gi_wp2
      go_roundw
      case rel => exact ⟨k + 1, by omega, by go_num, by rw [blkBs_take_succ hkn]; exact hJ3, hKT.trans hk3⟩
      case measure => simp [intOf]; omega
    · have hke : k = s.size / 64 := by omega
      have hlt' : ¬ 64 * (k : Int) < (s.size : Int) / 64 * 64 := by omega
      have i0 : (0 : Int) ≤ (s.size : Int) / 64 * 64 := by omega
      have i1 : (s.size : Int) / 64 * 64 ≤ (s.size : Int) := by omega
      have t0 : ((s.size : Int) / 64 * 64).toNat = 64 * k := by omega
      have t1 : (s.size : Int).toNat = s.size := by omega
      obtain ⟨r, hr⟩ : ∃ r, s.extract (64 * k) s.size = r := ⟨_, rfl⟩
      have hrs : r.size = s.size % 64 := by rw [← hr, ByteArray.size_extract]; omega
      have hrm : r.size ≤ maxLen := by rw [hrs]; unfold maxLen; omega
      obtain ⟨W1, hW1⟩ : ∃ W1, W1 = wr := ⟨_, rfl⟩
      subst hW1
      have lB1 : Bs < W1.heap.size := by
        obtain ⟨o, ho, _⟩ := cells_of_cell cB
        exact (Array.getElem?_eq_some_iff.1 ho).1
      have Hke := Lib.hid hke
      have Hrs := Lib.hid hrs
      have Hnb := Lib.hid hnb
      clear hke hrs hnb hlt hk
      gi_wp2_with (first
        | (refine wpListIn_bytes rfl (.tmp 27) 9 79 5 rfl Tryz.underlying9 Tryz.underlying79 Tryz.underlying5 r rfl hrm ?_; intro w2 v2 ho2 hg2; obtain ⟨g2, p2, rfl, _⟩ := ho2.row)
        | (refine wpListIn_appG rfl (.tmp 28) (.tmp 29) 79 rfl W1.heap.size 5 i8 (.int .u8 0) 1 Tryz.underlying79 h80 h81 h82 h83 rfl (.slice (some ⟨g2, 0, none⟩) r.size p2) _ _ rfl (ho2.alloc (.cells #[.int .u8 128] 5)) _ 1 (.int .u8 128) rfl (by rw [(Bx.new w2 #[.int .u8 128] 5).cell]; rfl) rfl (by rw [Hrs.out]; unfold maxLen; omega) (by rw [Hrs.out]; omega) (by have := hg2.size; simp; omega) ?_; intro v3 w3 ho3 hg3; obtain ⟨g3, p3, rfl, _⟩ := ho3.row))
      have hgw : W1.grownBy w3 none := grown_own (grown_alloc hg2 _) hg3 (ho2.alloc (.cells #[.int .u8 128] 5))
      have ho3' : OwnG w3 W1.heap.size 5 (.slice (some ⟨g3, 0, none⟩) (r.size + 1 + 0) p3) (r.size + 1 + 0) (bytesV (r.data.toList ++ [128] ++ List.replicate 0 0)) := by
        have e : bytesV (r.data.toList ++ [128] ++ List.replicate 0 0) = bytesV r.data.toList ++ [Value.int .u8 128] := by simp [bytesV]
        rw [e]; exact ho3
      clear ho3 ho2 hg2 hg3
      gi_loopw [5] (fun v wr => ∃ z g p : Nat, z ≤ zN s.size ∧ v = .slice (some ⟨g, 0, none⟩) (r.size + 1 + z) p ∧ OwnG wr W1.heap.size 5 (.slice (some ⟨g, 0, none⟩) (r.size + 1 + z) p) (r.size + 1 + z) (bytesV (r.data.toList ++ [128] ++ List.replicate z 0)) ∧ W1.grownBy wr none) (fun v _ => r.size + 1 + zN s.size - lenV v)
      case atStart => exact ⟨0, g3, p3, by omega, rfl, ho3', hgw⟩
      case round =>
        clear ho3' hgw
        obtain ⟨z, g, p, hz, rfl, ho, hg⟩ := hrel
        have hat := zN_at s.size
        have hzl := zN_lt s.size
        rw [← Hrs.out] at hat
        by_cases hlt : z < zN s.size
        · have hne := zN_first s.size z hlt
          rw [← Hrs.out] at hne
          have hne' : (((r.size : Int) + 1 + (z : Int)) % 64 != 56) = true := by rw [bne_iff_ne]; omega
          have hrl : r.size < 64 := by rw [Hrs.out]; omega
          have hat2 := Lib.hid hat
          have hlt2 := Lib.hid hlt
          have hz64 : z < 64 := by omega
          have Hhg := Lib.hid hg
          have Hho := Lib.hid ho
          have hwz := hg.size
          clear hne hat hz hlt hlt' ho hg
          gi_wp2_with (refine wpListIn_appG rfl (.tmp 35) (.tmp 36) 79 rfl W1.heap.size 5 i8 (.int .u8 0) 1 Tryz.underlying79 h80 h81 h82 h83 rfl (.slice (some ⟨g, 0, none⟩) (r.size + 1 + z) p) _ _ rfl (Hho.out.alloc (.cells #[.int .u8 0] 5)) _ 1 (.int .u8 0) rfl (by rw [(Bx.new wr #[.int .u8 0] 5).cell]; rfl) rfl (by unfold maxLen; omega) (by omega) (by simp; omega) ?_; intro v4 w4 ho4 hg4; obtain ⟨g4, p4, rfl, _⟩ := ho4.row)
          have hgw := grown_own (grown_alloc Hhg.out _) hg4 (Hho.out.alloc (.cells #[.int .u8 0] 5))
          have e4 : bytesV (r.data.toList ++ [128] ++ List.replicate (z + 1) 0) = bytesV (r.data.toList ++ [128] ++ List.replicate z 0) ++ [Value.int .u8 0] := by simp [bytesV, List.replicate_succ']
          rw [← e4] at ho4
          have hz1 := hlt2.out
          go_roundw
          case rel => exact ⟨z + 1, g4, p4, by omega, rfl, ho4, hgw⟩
          case measure => simp [lenV]; omega
        · obtain rfl : z = zN s.size := by omega
          have hne' : (((r.size : Int) + 1 + (zN s.size : Int)) % 64 != 56) = false := by rw [bne_eq_false_iff_eq]; omega
          have hrl : r.size < 64 := by rw [Hrs.out]; omega
          have Hhg := Lib.hid hg
          have Hho := Lib.hid ho
          have hwz := hg.size
          have Hat := Lib.hid hat
          clear hat hz hlt hlt' ho hg
          gi_wp2
          obtain ⟨m, hm⟩ : ∃ m, r.size + 1 + zN s.size = m := ⟨_, rfl⟩
          obtain ⟨L, hL⟩ : ∃ L, r.data.toList ++ [128] ++ List.replicate (zN s.size) 0 = L := ⟨_, rfl⟩
          rw [hm, hL] at Hho
          rw [hm]
          rw [hm] at Hat
          have HL := Lib.hid hL
          have Hm := Lib.hid hm
          have hml : m < 128 := by omega
          clear hL hm hne'
          gi_loopw [5, 6] (fun v i wr => ∃ j g p : Nat, j ≤ 8 ∧ i = .int .i64 (56 - 8 * (j : Int)) ∧ v = .slice (some ⟨g, 0, none⟩) (m + j) p ∧ OwnG wr W1.heap.size 5 (.slice (some ⟨g, 0, none⟩) (m + j) p) (m + j) (bytesV (L ++ (be8 s.size).take j)) ∧ W1.grownBy wr none) (fun v _ _ => m + 8 - lenV v)
          case atStart => exact ⟨0, g, p, by omega, rfl, rfl, by rw [List.take_zero, List.append_nil]; exact Hho.out, Hhg.out⟩
          case round =>
            clear Hhg Hho hwz
            obtain ⟨j, g, p, hj, rfl, rfl, ho, hg⟩ := hrel
            have Hhg := Lib.hid hg
            have Hho := Lib.hid ho
            have hwz := hg.size
            have cB : wr.cell? ⟨Bs, 0, none⟩ = some (.string s) := grown_cell hg cB (by simp)
            clear ho hg
            by_cases hlt : j < 8
            · have i0 : (0 : Int) ≤ 56 - 8 * (j : Int) := by omega
              have t0 : (56 - 8 * (j : Int)).toNat = 56 - 8 * j := by omega
              have i5 : 8 * (j : Int) ≤ 56 := by omega
              gi_wp2_with (refine wpListIn_appG rfl (.tmp 42) (.tmp 50) 79 rfl W1.heap.size 5 i8 (.int .u8 0) 1 Tryz.underlying79 h80 h81 h82 h83 rfl (.slice (some ⟨g, 0, none⟩) (m + j) p) _ _ rfl (Hho.out.alloc (.cells #[.int .u8 ((s.size : Int) * 8 / 2 ^ (56 - 8 * j) % 256)] 5)) _ 1 (.int .u8 ((s.size : Int) * 8 / 2 ^ (56 - 8 * j) % 256)) rfl (by rw [(Bx.new wr #[.int .u8 ((s.size : Int) * 8 / 2 ^ (56 - 8 * j) % 256)] 5).cell]; rfl) rfl (by unfold maxLen; omega) (by omega) (by simp; omega) ?_; intro v4 w4 ho4 hg4; obtain ⟨g4, p4, rfl, _⟩ := ho4.row)
              have hgw := grown_own (grown_alloc Hhg.out _) hg4 (Hho.out.alloc (.cells #[.int .u8 ((s.size : Int) * 8 / 2 ^ (56 - 8 * j) % 256)] 5))
              have e4 : bytesV (L ++ (be8 s.size).take (j + 1)) = bytesV (L ++ (be8 s.size).take j) ++ [Value.int .u8 ((s.size : Int) * 8 / 2 ^ (56 - 8 * j) % 256)] := by rw [lenB_val, be8_take_succ _ _ hlt]; simp [bytesV]
              rw [← e4] at ho4
              go_roundw
              case rel => exact ⟨j + 1, g4, p4, by omega, by go_num, rfl, ho4, hgw⟩
              case measure => simp [lenV]; omega
            · obtain rfl : j = 8 := by omega
              have i5 : ¬ 8 * ((8 : Nat) : Int) ≤ 56 := by omega
              gi_wp2
              obtain ⟨W4, hW4⟩ : ∃ W4, W4 = wr := ⟨_, rfl⟩
              subst hW4
              have hM : L ++ (be8 s.size).take 8 = L ++ be8 s.size := by rw [List.take_of_length_le (by simp [be8_len])]
              rw [hM] at Hho
              have hzW := hJz _ _ hJk
              have hOwn : ∀ w', KeepT T W4 w' → OwnG w' W1.heap.size 5 (.slice (some ⟨g, 0, none⟩) (m + 8) p) (m + 8) (bytesV (L ++ be8 s.size)) := fun w' h => Hho.out.same fun b hb => by
                have hl := Hho.out.lt b hb
                have ho := Array.getElem?_eq_getElem hl.2
                exact (h _ _ (hTW b (by omega)) ho).trans ho.symm
              have HOwn := Lib.hid hOwn
              have hq0 : k + (m + 8) / 64 = nBlk s.data.toList := by have := Hke.out; have := Hrs.out; have := Hnb.out; have := Hm.out; have := Hat.out; omega
              have Hq0 := Lib.hid hq0
              clear hOwn hq0 hj hlt i5 hM hwz
              gi_loopw [7] (fun i wr => ∃ q : Nat, 64 * q ≤ m + 8 ∧ i = .int .i64 (64 * (q : Int)) ∧ J ((blkBs s.data.toList).take (k + q)) wr ∧ KeepT T W4 wr) (fun i _ => m + 8 - (intOf i).toNat)
              case atStart => exact ⟨0, by omega, rfl, hJ _ _ _ hJk Hhg.out, KeepT.refl _ _⟩
              case round =>
                obtain ⟨q, hq, rfl, hJq, hKq⟩ := hrel
                by_cases hlt : q < (m + 8) / 64
                · have i5 : 64 * (q : Int) < (m : Int) + 8 := by omega
                  have i0 : (0 : Int) ≤ 64 * (q : Int) := by omega
                  have i1 : (64 : Int) * (q : Int) + 64 ≤ (m : Int) + 8 := by have := Hat.out; omega
                  have i2 : (64 : Int) * (q : Int) ≤ 64 * (q : Int) + 64 := by omega
                  have t0 : (64 * (q : Int)).toNat = 64 * q := by omega
                  have t1 : (64 * (q : Int) + 64).toNat = 64 * q + 64 := by omega
                  have hkn : k + q < nBlk s.data.toList := by have := Hq0.out; omega
                  have hbz := blk_size hkn
                  have hbl := blk_last s k q Hke.out r hr L HL.out
                  obtain ⟨g', p', e', _, _, hrow, hpn, hpm⟩ := (HOwn.out wr hKq).row
                  obtain ⟨rfl, rfl⟩ : g = g' ∧ p = p' := by simpa using e'
                  have hcut := hrow.cut (64 * q) 64
                  rw [Nat.zero_add] at hcut
                  have hbv : ((bytesV (L ++ be8 s.size)).drop (64 * q)).take 64 = bytesV (((L ++ be8 s.size).drop (64 * q)).take 64) := by simp [bytesV, List.map_drop, List.map_take]
                  rw [hbv] at hcut
                  obtain ⟨fn, tmps, assign, body, hy, hR⟩ := hY _ (blkB s.data.toList ⟨k + q, hkn⟩) wr hJq (by simp [blkBs_len]; omega)
                  dsimp only [blkB] at hy
                  rw [hbl] at hy hbz
                  have hsz : (((L ++ be8 s.size).drop (64 * q)).take 64).length = 64 := hbz
                  generalize ((L ++ be8 s.size).drop (64 * q)).take 64 = y at hy hbl hbz hsz hcut
                  have Hbl := Lib.hid hbl
                  have Hcut := Lib.hid hcut
                  have i3 : (64 : Int) * (q : Int) + 64 ≤ (p : Int) := by omega
                  clear hbl hcut hrow e' hbv hbz hpn hpm
                  gi_wp2_with (refine wpListIn_str rfl (.tmp 63) 79 9 5 rfl Tryz.underlying79 Tryz.underlying5 Tryz.underlying9 (some ⟨g, 64 * q, none⟩) 64 (p - 64 * q) y rfl hsz Hcut.out ?_)
                  refine hR.mono ?_
                  rintro e W5 ⟨rfl, hJ5, hk5⟩
                  gi_wp2
                  go_roundw
                  case rel => exact ⟨q + 1, by omega, by go_num, by rw [← Nat.add_assoc, blkBs_take_succ hkn]; exact hJ5, hKq.trans hk5⟩
                  case measure => simp [intOf]; omega
                · have hqe : q = (m + 8) / 64 := by omega
                  have i5 : ¬ 64 * (q : Int) < (m : Int) + 8 := by have := Hat.out; omega
                  have hfin : (blkBs s.data.toList).take (k + q) = blkBs s.data.toList := by rw [hqe, Hq0.out]; exact List.take_of_length_le (by rw [blkBs_len]; exact Nat.le_refl _)
                  rw [hfin] at hJq
                  clear hqe hfin
                  gi_wp2
                  go_end0
                  exact ⟨⟨_, rfl⟩, hJq⟩
end Go.Proofs.YtebgopdmeghmhaaGreat
namespace Go.Proofs.YtebgopdmeghmhaaGreat
open Go.RowKit Go.Shelf

section
attribute [local go_sem] Oper.semAt_some
theorem blocks_in (n : Nat) (s : ByteArray) (w : World) : CallsIn Fence.wide n Tryz.prog 100 #[.string s] w fun e w' => e = .returned (.func (.func 112) #[] #[.pointer (some ⟨w.heap.size, 0, none⟩)]) ∧ w' = w.alloc (.cells #[.string s] 9) := by
  refine callsIn_of_wp Tryz.func100 rfl trivial ?_ rfl
  simp only [Tryz.ntmps100, List.size_toArray, List.length_cons, List.length_nil, Nat.reduceAdd, Nat.reduceSub, Array.replicate_succ, Array.replicate_zero, List.push_toArray, List.append_toArray, List.nil_append, List.cons_append]
  gi_wp2
  go_ret
  exact ⟨rfl, rfl⟩

set_option maxRecDepth 100000 in
set_option maxHeartbeats 1200000 in
theorem sha_sum (s : ByteArray) (hs : s.size ≤ 1000000000) (w : World) :
    Calls Tryz.prog 82 #[.string s] w fun e w' => e = .returned (dgV (sumL s.data.toList)) ∧ Below w.heap.size w w' := by
  obtain ⟨z, hz⟩ : ∃ z : Array Value, Array.replicate 32 (Value.int .u8 0) = z := ⟨_, rfl⟩
  have hz0 := zeroDg
  rw [hz] at hz0
  have hzs : z.size = 32 := by rw [← hz]; simp
  obtain ⟨y, hy⟩ : ∃ y : Array Value, Array.replicate 8 (Value.int .u32 0) = y := ⟨_, rfl⟩
  have hy0 := zeroH
  rw [hy] at hy0
  have hys : y.size = 8 := by rw [← hy]; simp
  obtain ⟨cI, hcI⟩ : ∃ c, (u32s shaI).toArray = c := ⟨_, rfl⟩
  have hini := sha_initial
  rw [hcI] at hini
  have hIs : cI.size = 8 := by rw [← hcI]; rfl
  have hI1 : cI.all (·.oneCell') = true := by rw [← hcI]; exact u32s_one _
  have HZ := Lib.hid hz
  have Z0 := Lib.hid hz0
  have Zs := Lib.hid hzs
  have Y0 := Lib.hid hy0
  have Ys := Lib.hid hys
  have Hini := Lib.hid hini
  have HcI := Lib.hid hcI
  have HIs := Lib.hid hIs
  have HI1 := Lib.hid hI1
  clear hz hz0 hzs hy hy0 hys hini hcI hIs hI1
  obtain ⟨n, hn⟩ : ∃ n, 9 ≤ n := ⟨9, Nat.le_refl _⟩
  refine (callsIn_wide (n := n)).1 ?_
  have hro : Fence.wide.round = none := rfl
  have h1 : 1 ≤ n := by omega
  refine callsIn_of_wp_marks Tryz.func82 rfl trivial ?_ hro
  simp only [Tryz.ntmps82, List.size_toArray, List.length_cons, List.length_nil, Nat.reduceAdd, Nat.reduceSub, Array.replicate_succ, Array.replicate_zero, List.push_toArray, List.append_toArray, List.nil_append, List.cons_append]
  gi_wp2_with (first
    | (refine wpListIn_alloc_row rfl 39 rfl z Z0.out ?_)
    | (refine ⟨trivial, ?_⟩; gi_at_call 99; refine (callsIn_wide.2 (Hini.out _)).mono ?_))
  rintro e w1 ⟨rfl, hb1⟩
  have xd := (Bx.new w z 39).belowAll hb1
  have hB1 := Below.then (Below.one w (.cells z 39)) hb1 (by simp)
  have hlt1 := xd.lt
  gi_wp2_with (first
    | (refine wpListIn_alloc_row rfl 114 rfl y Y0.out ?_)
    | (refine wpListIn_store_mid rfl 114 (.tmp 3) (.tmp 9) rfl w1.heap.size 0 cI rfl rfl (there_bx (Bx.new w1 y 114) (by rw [HIs.out, Ys.out]; exact Nat.le_refl _)) (by rw [sizeH, HIs.out]) HI1.out ?_)
    | (refine ⟨trivial, ?_⟩; gi_at_call 100; refine (blocks_in _ _ _).mono ?_; rintro e w' ⟨rfl, rfl⟩))
  obtain ⟨w0, hw0⟩ : ∃ w0, (w1.alloc (.cells y 114)).setCells w1.heap.size 0 cI.toList = w0 := ⟨_, rfl⟩
  have hz0 : w0.heap.size = w1.heap.size + 1 := by rw [← hw0, size_setCells]; simp
  have xs := (Bx.new w1 y 114).setAll (cx := cI) (by rw [HIs.out, Ys.out])
  have xd0 := (xd.alloc (.cells y 114)).setCellsO (b' := w1.heap.size) (by omega) cI.toList 0
  have hB0 := below_setCells (b := w1.heap.size) (by omega) cI.toList 0 _ (hB1.alloc (by omega) (.cells y 114))
  rw [hw0] at xs xd0 hB0
  rw [hw0]
  have xs0 := xs.alloc (.cells #[.string s] 9)
  have xd0 := xd0.alloc (.cells #[.string s] 9)
  have xB0 := Bx.newAt w0 #[.string s] 9 _ hz0.symm
  have hB0 := hB0.alloc (by omega) (.cells #[.string s] 9)
  rw [hz0]
  obtain ⟨W0, hW0⟩ : ∃ W0, w0.alloc (.cells #[.string s] 9) = W0 := ⟨_, rfl⟩
  have hzW : W0.heap.size = w1.heap.size + 2 := by rw [← hW0]; simp [hz0]
  rw [hW0] at xs0 xd0 xB0 hB0
  rw [hW0]
  have HzW := Lib.hid hzW
  rw [← HcI.out, show (u32s shaI).toArray = (u32s (stL (([] : List Blk).map Blk.b))).toArray from rfl] at xs0
  clear hw0 hW0 hz0 xs xd hB1 hb1
  refine rangeFunc_run2 hro h1 (gf := 112) (lb := #[.pointer (some ⟨w1.heap.size + 1, 0, none⟩)]) rfl trivial (enters_of Tryz.func112 (by kernel_rfl) rfl)
    (encs := fun x : Blk => #[Value.string x.1]) (T := fun b => b = w1.heap.size + 1 ∨ W0.heap.size + 2 ≤ b) (S := fun ys => ys = blkBs s.data.toList) (N := nBlk s.data.toList)
    (fun W1 hz1 hb1 => blocks_runs (n - 1) (by omega) s hs (w1.heap.size + 1) _ W1 (.inl rfl) (fun b h => .inr (by omega)) (xB0.belowAll hb1))
    (by rintro (h | h) <;> omega) (fun _ => rfl)
    (fun (pre : List Blk) W => Bx W w1.heap.size (u32s (stL (pre.map Blk.b))).toArray 114 ∧ Bx W w.heap.size z 39 ∧ Below w.heap.size w W)
    (fun pre W W' row h hg hr => ⟨h.1.grown hg (fun e => by have := hr _ e.symm; omega), h.2.1.grown hg (fun e => by have := hr _ e.symm; omega), h.2.2.grown hg h.2.2.size (fun k e => by have := hr _ e; omega)⟩)
    ⟨xs0, xd0, hB0⟩
    (fun x => { tmps := #[.string s, undef, .pointer (some ⟨w.heap.size, 0, none⟩), .pointer (some ⟨w1.heap.size, 0, none⟩), .string x.1, undef, undef, undef, undef, .agg cI, .string s, .func (.func 112) #[] #[.pointer (some ⟨w1.heap.size + 1, 0, none⟩)], .string x.1, undef, undef, undef, undef, undef, undef, undef, undef, undef, undef, undef, undef, undef, undef, undef, undef, undef, undef, undef, undef, undef, undef, undef, undef, undef], defers := [] }) ?assign ?body ?done
  case assign =>
    intro l x W K hK
    gi_wp2
    exact hK
  case body =>
    rintro l pre x W ⟨xs, xd, hB⟩ hWz hlt
    obtain ⟨cs, hcs⟩ : ∃ c, (u32s (stL (pre.map Blk.b))).toArray = c := ⟨_, rfl⟩
    obtain ⟨cx, hcx⟩ : ∃ c, (u32s (stL ((pre ++ [x]).map Blk.b))).toArray = c := ⟨_, rfl⟩
    have hcomp : ∀ V, Calls Tryz.prog 101 #[.agg cs, .string x.1] V fun e w' => e = .returned (.agg cx) ∧ Below V.heap.size V w' := fun V => by
      have := sha_compress (stL (pre.map Blk.b)) (stL_len _) x.1 x.2 V
      rw [hcs, ← stL_snocB, hcx] at this
      exact this
    have hsz : cs.size = 8 := by rw [← hcs]; simp [u32s, stL_len]
    have hxz : cx.size = 8 := by rw [← hcx]; simp only [u32s, List.size_toArray, List.length_map]; exact stL_len _
    have hx1 : cx.all (·.oneCell') = true := by rw [← hcx]; exact u32s_one _
    have Hcx := Lib.hid hcx
    have Hcomp := Lib.hid hcomp
    have Hsz := Lib.hid hsz
    have Hxz := Lib.hid hxz
    have Hx1 := Lib.hid hx1
    rw [hcs] at xs
    clear hcx hcomp hsz hxz hx1 hcs xs0 xd0 hB0 xB0
    gi_wp2_with (refine wpListIn_load_mid rfl 114 (.tmp 3) rfl w1.heap.size 0 rfl cs.toList _ xs.range Tryz.underlying114 rfl (by rw [sizeH]; simp [Hsz.out]) ?_)
    refine ⟨trivial, fun h => (by simp [Fence.wide] at h), ?_⟩
    refine (CallsIn.inRound l (callsIn_wide.2 (Hcomp.out _))).mono ?_
    rintro e w' ⟨rfl, hb'⟩
    have xs' := xs.belowAll hb'
    have xd' := xd.belowAll hb'
    have hB' := Below.then hB hb' hB.size
    gi_wp2_with (refine wpListIn_store_mid rfl 114 (.tmp 3) (.tmp 15) rfl w1.heap.size 0 cx rfl rfl (there_bx xs' (by rw [Hxz.out, Hsz.out]; exact Nat.le_refl _)) (by rw [sizeH, Hxz.out]) Hx1.out ?_)
    have hk := hb'.block W0.heap.size (by omega)
    have hk1 := hb'.block (W0.heap.size + 1) (by omega)
    refine ⟨(heap_setCells (by omega) _ _ _).trans hk, (heap_setCells (by omega) _ _ _).trans hk1, (KeepT.of_below hb' (Nat.le_refl _)).trans (KeepT.setCells (by rintro (h | h) <;> omega) _ _ _), ?_, xd'.setCellsO (by omega) _ _, below_setCells (by omega) _ _ _ hB'⟩
    rw [Hcx.out]
    exact xs'.setAll (cx := cx) (by rw [Hxz.out, Hsz.out])
  case done =>
    rintro xs W rfl ⟨xs, xd, hB⟩ hK
    rw [blkBs_vals] at xs
    obtain ⟨st, hst⟩ : ∃ st, stL (blks s.data.toList) = st := ⟨_, rfl⟩
    have hsl : st.length = 8 := by rw [← hst]; exact stL_len _
    have hsum : sumL s.data.toList = outD st := by rw [← hst]; rfl
    have Hsum := Lib.hid hsum
    rw [hst] at xs
    obtain ⟨cs, hcs⟩ : ∃ c, (u32s st).toArray = c := ⟨_, rfl⟩
    have hsz : cs.size = 8 := by rw [← hcs]; simp [u32s, hsl]
    have Hcs := Lib.hid hcs
    have Hsz := Lib.hid hsz
    have Hsl := Lib.hid hsl
    rw [hcs] at xs
    have HW0 : Hid (w.heap.size < W0.heap.size) := Lib.hid (by omega)
    clear hcs hsz hsl hst hsum xs0 xd0 hB0 xB0 hzW hs
    obtain ⟨nD, hnD⟩ : ∃ nD, W.heap.size = nD := ⟨_, rfl⟩
    have HnD := Lib.hid hnD
    have xD := Bx.new W z 39
    have xs := xs.alloc (.cells z 39)
    have xd := xd.alloc (.cells z 39)
    have hKd := (Below.heap_alloc W (.cells z 39) W0.heap.size (Array.getElem?_eq_some_iff.1 hK).1).trans hK
    have hlK : W0.heap.size < nD := by rw [← hnD]; exact (Array.getElem?_eq_some_iff.1 hK).1
    have hB2 := hB.alloc hB.size (.cells z 39)
    clear hK hB
    gi_wp2_with (first
      | (refine wpListIn_alloc_row rfl 39 rfl z Z0.out ?_)
      | (refine wpListIn_load_mid rfl 114 (.tmp 3) rfl w1.heap.size 0 rfl cs.toList _ xs.range Tryz.underlying114 rfl (by rw [sizeH]; simp [Hsz.out]) ?_))
    generalize W.alloc (.cells z 39) = W2 at *
    rw [hnD] at xD
    clear hnD
    rw [← HZ.out, show Array.replicate 32 (Value.int .u8 0) = (bytesV (dP st (4 * 0))).toArray from rfl] at xD
    gi_loopw [17] (fun i wr => ∃ k : Nat, k ≤ 8 ∧ i = .int .i64 k ∧ Bx wr nD (bytesV (dP st (4 * k))).toArray 39 ∧ Bx wr w.heap.size z 39 ∧ wr.heap[W0.heap.size]? = some (.deferred (some [])) ∧ Below w.heap.size w wr) (fun i _ => 8 - (intOf i).toNat)
    case atStart => exact ⟨0, by omega, rfl, xD, xd, hKd, hB2⟩
    case round =>
      clear xD xd hKd hB2 xs
      obtain ⟨k, hk, rfl, xD, xd, hKd, hB⟩ := hrel
      by_cases hlt : k < 8
      · have hlt' : (k : Int) < 8 := by omega
        have gi : Hid (cs[k]? = some (.int .u32 (wv (st.getD k 0)))) := Lib.hid (by rw [← Hcs.out, u32s_get (by rw [Hsl.out]; exact hlt)])
        gi_wp2_with (refine wpListIn_index_cell rfl 114 (.tmp 16) (.tmp 17) rfl cs rfl k rfl 8 111 Tryz.underlying114 .u32 Tryz.underlying111 rfl hlt _ gi.out ?_)
        clear gi
        gi_loopw [21] (fun i wr => ∃ j : Nat, j ≤ 4 ∧ i = .int .i64 j ∧ Bx wr nD (bytesV (dP st (4 * k + j))).toArray 39 ∧ Bx wr w.heap.size z 39 ∧ wr.heap[W0.heap.size]? = some (.deferred (some [])) ∧ Below w.heap.size w wr) (fun i _ => 4 - (intOf i).toNat)
        case atStart => exact ⟨0, by omega, rfl, xD, xd, hKd, hB⟩
        case round =>
          clear xD xd hKd hB
          obtain ⟨j, hj, rfl, xD, xd, hKd, hB⟩ := hrel
          by_cases hltj : j < 4
          · have hltj' : (j : Int) < 4 := by omega
            have i0 : (0 : Int) ≤ 24 - 8 * (j : Int) := by omega
            have t0 : (24 - 8 * (j : Int)).toNat = 24 - 8 * j := by omega
            have i1 : (0 : Int) ≤ 4 * (k : Int) + (j : Int) := by omega
            have i2 : 4 * (k : Int) + (j : Int) < 32 := by omega
            have t1 : (4 * (k : Int) + (j : Int)).toNat = 4 * k + j := by omega
            have i3 : 8 * (j : Int) ≤ 24 := by omega
            obtain ⟨x0, cD⟩ : ∃ x0, wr.cell? ⟨nD, 4 * k + j, none⟩ = some (.int .u8 x0) := by
              have hDl := dP_len (st := st) (m := 4 * k + j) (by omega)
              exact ⟨_, by rw [xD.cell, bytesV_get (by omega)]⟩
            have fD := xD.free (4 * k + j)
            have lD := xD.lt
            gi_wp2
            rw [show wv (st[k]?.getD 0) / 2 ^ (24 - 8 * j) % 256 = ((outB st (4 * k + j)).toNat : Int) from out_val st k j hltj]
            have hlW := Hid.out HW0
            go_roundw
            case rel =>
              refine ⟨j + 1, by omega, by go_num, ?_, xd.setO (a := ⟨nD, 4 * k + j, none⟩) (by simp; omega) _, (Below.heap_setCell wr ⟨nD, 4 * k + j, none⟩ _ _ (by simp; omega)).trans hKd, below_set1 hB (by omega)⟩
              have := xD.set (4 * k + j) (.int .u8 ((outB st (4 * k + j)).toNat : Int))
              rw [bytesV_set, dP_set (by omega)] at this
              exact this
            case measure => simp [intOf]; omega
          · obtain rfl : j = 4 := by omega
            have hltj' : ¬ ((4 : Nat) : Int) < 4 := by omega
            rw [show 4 * k + 4 = 4 * (k + 1) by omega] at xD
            gi_wp2
            go_roundw
            case rel => exact ⟨k + 1, by omega, by go_num, xD, xd, hKd, hB⟩
            case measure => simp [intOf]; omega
      · obtain rfl : k = 8 := by omega
        have hlt' : ¬ ((8 : Nat) : Int) < 8 := by omega
        rw [show 4 * 8 = 32 from rfl, dP_all] at xD
        obtain ⟨cx, hcx⟩ : ∃ cx, (bytesV (outD st)).toArray = cx := ⟨_, rfl⟩
        have hxz : cx.size = 32 := by rw [← hcx]; simp [bytesV, outD_len]
        have hx1 : cx.all (·.oneCell') = true := by rw [← hcx]; exact all_oneCell_toArray (bytesV_one _)
        rw [hcx] at xD
        have Hcx := Lib.hid hcx
        have Hxz := Lib.hid hxz
        have Hx1 := Lib.hid hx1
        clear hcx hxz hx1
        gi_wp2_with (first
          | (refine wpListIn_load_mid rfl 39 (.tmp 5) rfl nD 0 rfl cx.toList _ xD.range Tryz.underlying39 rfl (by rw [sizeDg]; simp [Hxz.out]) ?_)
          | (refine wpListIn_store_mid rfl 39 (.tmp 2) (.tmp 37) rfl w.heap.size 0 cx rfl rfl (there_bx xd (by rw [Hxz.out, Zs.out]; exact Nat.le_refl _)) (by rw [sizeDg, Hxz.out]) Hx1.out ?_))
        have xd2 := xd.setAll (cx := cx) (by rw [Hxz.out, Zs.out])
        have hl0 := Hid.out HW0
        have zK := (heap_setCells (by omega : W0.heap.size ≠ w.heap.size) cx.toList 0 wr).trans hKd
        have zB := below_setCells (b := w.heap.size) (Nat.le_refl _) cx.toList 0 _ hB
        refine ⟨by simp, .inl ⟨_, _, rfl, run_takeDeferred zK, ?_⟩⟩
        have xd3 := bx_own xd2 (grownBy_putObj' _ W0.heap.size (.deferred none)) (fun r e => by cases e; exact ⟨_, zK, rfl⟩)
        refine ⟨.agg cx, results_cell_row (d := .array 32 5) Tryz.results82 _ _ w.heap.size _ _ _ rfl xd3 Tryz.underlying39 rfl (by rw [sizeDg, Hxz.out]), ?_⟩
        refine ⟨by rw [Hsum.out, ← Hcx.out]; rfl, ?_⟩
        exact zB.trans (belowK_b (w := w) (Nat.le_refl _) _ W0.heap.size _ _ (by omega) zK rfl rfl)
end
end Go.Proofs.YtebgopdmeghmhaaGreat
