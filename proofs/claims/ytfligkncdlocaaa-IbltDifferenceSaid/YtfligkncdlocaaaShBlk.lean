/- sha256.blocks: the contract of its iterator: the blocks of the padded message, in order. -/
import Derived.RangeFuncBox
import Derived.RangeFuncLeaves
import Derived.Shelf.Abstract
import Derived.WalkKit
import Derived.OwnWalkIn
import Derived.TacticsInMore
import Derived.LoopNIn
import Derived.LoopIn
import Derived.Test.YtfligkncdlocaaaRunLaw2
import Derived.Test.YtfligkncdlocaaaShSpec
import Derived.Test.YtfligkncdlocaaaBuf
namespace Go.Proofs.Ytfligkncdlocaaa
open Go.RowKit Go.Shelf
attribute [local go_sem] Oper.semAt_some

theorem KeepT.cell {T : Nat → Prop} {W W' : World} (h : KeepT T W W') {p : Addr} {v : Value} (hp : T p.block) (hc : W.cell? p = some v) : W'.cell? p = some v := by
  obtain ⟨o, ho, _⟩ := cells_of_cell hc
  exact (World.cell?_of_block ((h _ o hp ho).trans ho.symm)).trans hc
theorem info_parts {P : Program} {t : TypeId} {z : Value} {n b : Nat} (h : (P.info? t).map (fun i => (i.zero, i.size, i.bytes)) = some (some z, n, b)) : ∃ i, P.info? t = some i ∧ i.zero = some z ∧ i.size = n ∧ i.bytes = b := by
  cases hi : P.info? t with
  | none => simp [hi] at h
  | some i => simp [hi] at h; exact ⟨i, rfl, h.1, h.2.1, h.2.2⟩
theorem infoU8 : (Try.prog.info? 5).map (fun i => (i.zero, i.size, i.bytes)) = some (some (.int .u8 0), 1, 1) := by kernel_rfl
def lenV : Value → Nat
  | .slice _ n _ => n
  | _ => 0
theorem grown_alloc {W w : World} (h : W.grownBy w none) (o : Obj) : W.grownBy (w.alloc o) none :=
  have hg := World.grownBy_alloc w o none
  ⟨hg.os.trans h.os, hg.tape.trans h.tape, hg.output.trans h.output, Nat.le_trans h.size hg.size, fun k hk hn => (hg.block k (Nat.lt_of_lt_of_le hk h.size) hn).trans (h.block k hk hn)⟩
theorem grown_own {W w w' : World} {base : Nat} {e : TypeId} {v : Value} {n : Nat} {xs : List Value} (h : W.grownBy w none) (hg : w.grownBy w' v.ownBlock) (ho : OwnG w base e v n xs) (hb : W.heap.size ≤ base := by exact Nat.le_refl _) : W.grownBy w' none :=
  ⟨hg.os.trans h.os, hg.tape.trans h.tape, hg.output.trans h.output, Nat.le_trans h.size hg.size, fun k hk _ => (hg.block k (Nat.lt_of_lt_of_le hk h.size) (fun e => by have := (ho.lt k e.symm).1; omega)).trans (h.block k hk (by simp))⟩
theorem lenB_val (n j : Nat) : (n : Int) * 8 / 2 ^ (56 - 8 * j) % 256 = ((lenB n j).toNat : Int) := by
  have e : (lenB n j).toNat = 8 * n / 2 ^ (56 - 8 * j) % 256 := by simp [lenB]
  rw [e, pow_cast, Int.mul_comm]
  generalize 2 ^ (56 - 8 * j) = q
  rw [show (8 : Int) * (n : Int) = ((8 * n : Nat) : Int) by simp, ← Int.natCast_ediv, show (256 : Int) = ((256 : Nat) : Int) from rfl, ← Int.natCast_emod]
theorem be8_take_succ (n j : Nat) (h : j < 8) : (be8 n).take (j + 1) = (be8 n).take j ++ [lenB n j] := by
  rw [List.take_succ_eq_append_getElem (by rw [be8_len]; exact h)]
  simp [be8]
theorem blk_last (s : ByteArray) (k q : Nat) (hk : k = s.size / 64) (r : ByteArray) (hr : s.extract (64 * k) s.size = r) (L : List UInt8) (hL : r.data.toList ++ [128] ++ List.replicate (zN s.size) 0 = L) :
    blk s.data.toList (k + q) = ⟨(((L ++ be8 s.size).drop (64 * q)).take 64).toArray⟩ := by
  have hl : s.data.toList.length = s.size := by simp
  have hsz : s.data.size = s.size := rfl
  have e : padL s.data.toList = s.data.toList.take (64 * k) ++ (L ++ be8 s.size) := by
    have e2 : r.data.toList = s.data.toList.drop (64 * k) := by
      rw [← hr, ByteArray.data_extract, Array.toList_extract]
      simp only [List.extract_eq_take_drop]
      rw [List.take_of_length_le (by simp)]
    unfold padL
    rw [hl, ← hL, e2]
    simp only [← List.append_assoc, List.take_append_drop]
  unfold blk
  rw [e, List.drop_append, List.drop_eq_nil_of_le (by simp; omega), List.length_take, hl, Nat.min_eq_left (by omega), List.nil_append, show 64 * (k + q) - 64 * k = 64 * q by omega]
theorem quo64 (n : Nat) : (n : Int).tdiv 64 = ((n / 64 : Nat) : Int) := by
  rw [Int.tdiv_eq_ediv_of_nonneg (by omega)]; omega

set_option maxRecDepth 100000 in
set_option maxHeartbeats 1200000 in
theorem blocks_runs (n : Nat) (hn : 1 ≤ n) (s : ByteArray) (hs : s.size ≤ 1000000000) (Bs : Nat) (T : Nat → Prop) (W : World) (hTB : T Bs) (hTW : ∀ b, W.heap.size ≤ b → T b) (hB : Bx W Bs #[.string s] 9) :
    SeqRun2 Fence.wide n Try.prog 79 #[.pointer (some ⟨Bs, 0, none⟩)] (fun x : Blk => #[Value.string x.1]) T (fun ys => ys = blkBs s.data.toList) (nBlk s.data.toList) W := by
  intro l J hJ hY h0 hJz
  have hro : Fence.wide.round = none := rfl
  have lB := hB.lt
  have c0 := hB.cell 0
  simp at c0
  have hl : s.data.toList.length = s.size := by simp
  obtain ⟨i8, h80, h81, h82, h83⟩ := info_parts infoU8
  have hnb := nBlk_at s.data.toList
  rw [hl] at hnb
  refine callsIn_of_wp Try.func79 rfl trivial ?_ hro
  simp only [Try.ntmps79, List.size_toArray, List.length_cons, List.length_nil, Nat.reduceAdd, Nat.reduceSub, Array.replicate_succ, Array.replicate_zero, List.push_toArray, List.append_toArray, List.nil_append, List.cons_append]
  gi_wp2
  gi_loopw [4] (fun i wr => ∃ k : Nat, 64 * k ≤ s.size ∧ i = .int .i64 (64 * (k : Int)) ∧ J ((blkBs s.data.toList).take k) wr ∧ KeepT T W wr) (fun i _ => s.size - (intOf i).toNat)
  case atStart => exact ⟨0, by omega, rfl, h0, KeepT.refl _ _⟩
  case round =>
    obtain ⟨k, hk, rfl, hJk, hKT⟩ := hrel
    have cB : wr.cell? ⟨Bs, 0, none⟩ = some (.string s) := hKT.cell hTB c0
    by_cases hlt : k < s.size / 64
    · have hlt' : 64 * (k : Int) < (s.size : Int) / 64 * 64 := by omega
      have i0 : (0 : Int) ≤ 64 * (k : Int) := by omega
      have i1 : (64 : Int) * (k : Int) + 64 ≤ (s.size : Int) := by omega
      have i2 : (64 : Int) * (k : Int) ≤ 64 * (k : Int) + 64 := by omega
      have t0 : (64 * (k : Int)).toNat = 64 * k := by omega
      have t1 : (64 * (k : Int) + 64).toNat = 64 * k + 64 := by omega
      have hex := blk_whole s k (by omega)
      have hkn : k < nBlk s.data.toList := by omega
      have hbz := blk_size hkn
      have hbm : (blk s.data.toList k).size ≤ maxLen := by rw [hbz]; decide
      obtain ⟨fn, tmps, assign, body, hy, hR⟩ := hY _ (blkB s.data.toList ⟨k, hkn⟩) wr hJk (by simp [blkBs_len]; omega)
      dsimp only [blkB] at hy
      generalize blk s.data.toList k = x at hy hex hbz hbm
      gi_wp2
      refine hR.mono ?_
      rintro e W3 ⟨rfl, hJ3, hk3⟩
      gi_wp2
      go_roundw
      case rel => exact ⟨k + 1, by omega, by go_num, by rw [blkBs_take_succ hkn]; exact hJ3, hKT.trans hk3⟩
      case measure => simp [intOf]; omega
    · have hke : k = s.size / 64 := by omega
      have hlt' : ¬ 64 * (k : Int) < (s.size : Int) / 64 * 64 := by omega
      have i0 : (0 : Int) ≤ (s.size : Int) / 64 * 64 := by omega
      have i1 : (s.size : Int) / 64 * 64 ≤ (s.size : Int) := by omega
      have t0 : ((s.size : Int) / 64 * 64).toNat = 64 * k := by omega
      have t1 : (s.size : Int).toNat = s.size := by omega
      obtain ⟨r, hr⟩ : ∃ r, s.extract (64 * k) s.size = r := ⟨_, rfl⟩
      have hrs : r.size = s.size % 64 := by rw [← hr, ByteArray.size_extract]; omega
      have hrm : r.size ≤ maxLen := by rw [hrs]; unfold maxLen; omega
      obtain ⟨W1, hW1⟩ : ∃ W1, W1 = wr := ⟨_, rfl⟩
      subst hW1
      have lB1 : Bs < W1.heap.size := by
        obtain ⟨o, ho, _⟩ := cells_of_cell cB
        exact (Array.getElem?_eq_some_iff.1 ho).1
      have Hke := Lib.hid hke
      have Hrs := Lib.hid hrs
      have Hnb := Lib.hid hnb
      clear hke hrs hnb hlt hk
      gi_wp2_with (first
        | (refine wpListIn_bytes rfl (.tmp 27) 9 73 5 rfl Try.underlying9 Try.underlying73 Try.underlying5 r rfl hrm ?_; intro w2 v2 ho2 hg2; obtain ⟨g2, p2, rfl, _⟩ := ho2.row)
        | (refine wpListIn_appG rfl (.tmp 28) (.tmp 29) 73 rfl W1.heap.size 5 i8 (.int .u8 0) 1 Try.underlying73 h80 h81 h82 h83 rfl (.slice (some ⟨g2, 0, none⟩) r.size p2) _ _ rfl (ho2.alloc (.cells #[.int .u8 128] 5)) _ 1 (.int .u8 128) rfl (by rw [(Bx.new w2 #[.int .u8 128] 5).cell]; rfl) rfl (by rw [Hrs.out]; unfold maxLen; omega) (by rw [Hrs.out]; omega) (by have := hg2.size; simp; omega) ?_; intro v3 w3 ho3 hg3; obtain ⟨g3, p3, rfl, _⟩ := ho3.row))
      have hgw : W1.grownBy w3 none := grown_own (grown_alloc hg2 _) hg3 (ho2.alloc (.cells #[.int .u8 128] 5))
      have ho3' : OwnG w3 W1.heap.size 5 (.slice (some ⟨g3, 0, none⟩) (r.size + 1 + 0) p3) (r.size + 1 + 0) (bytesV (r.data.toList ++ [128] ++ List.replicate 0 0)) := by
        have e : bytesV (r.data.toList ++ [128] ++ List.replicate 0 0) = bytesV r.data.toList ++ [Value.int .u8 128] := by simp [bytesV]
        rw [e]; exact ho3
      clear ho3 ho2 hg2 hg3
      gi_loopw [5] (fun v wr => ∃ z g p : Nat, z ≤ zN s.size ∧ v = .slice (some ⟨g, 0, none⟩) (r.size + 1 + z) p ∧ OwnG wr W1.heap.size 5 (.slice (some ⟨g, 0, none⟩) (r.size + 1 + z) p) (r.size + 1 + z) (bytesV (r.data.toList ++ [128] ++ List.replicate z 0)) ∧ W1.grownBy wr none) (fun v _ => r.size + 1 + zN s.size - lenV v)
      case atStart => exact ⟨0, g3, p3, by omega, rfl, ho3', hgw⟩
      case round =>
        clear ho3' hgw
        obtain ⟨z, g, p, hz, rfl, ho, hg⟩ := hrel
        have hat := zN_at s.size
        have hzl := zN_lt s.size
        rw [← Hrs.out] at hat
        by_cases hlt : z < zN s.size
        · have hne := zN_first s.size z hlt
          rw [← Hrs.out] at hne
          have hne' : (((r.size : Int) + 1 + (z : Int)) % 64 != 56) = true := by rw [bne_iff_ne]; omega
          have hrl : r.size < 64 := by rw [Hrs.out]; omega
          have hat2 := Lib.hid hat
          have hlt2 := Lib.hid hlt
          have hz64 : z < 64 := by omega
          have Hhg := Lib.hid hg
          have Hho := Lib.hid ho
          have hwz := hg.size
          clear hne hat hz hlt hlt' ho hg
          gi_wp2_with (refine wpListIn_appG rfl (.tmp 35) (.tmp 36) 73 rfl W1.heap.size 5 i8 (.int .u8 0) 1 Try.underlying73 h80 h81 h82 h83 rfl (.slice (some ⟨g, 0, none⟩) (r.size + 1 + z) p) _ _ rfl (Hho.out.alloc (.cells #[.int .u8 0] 5)) _ 1 (.int .u8 0) rfl (by rw [(Bx.new wr #[.int .u8 0] 5).cell]; rfl) rfl (by unfold maxLen; omega) (by omega) (by simp; omega) ?_; intro v4 w4 ho4 hg4; obtain ⟨g4, p4, rfl, _⟩ := ho4.row)
          have hgw := grown_own (grown_alloc Hhg.out _) hg4 (Hho.out.alloc (.cells #[.int .u8 0] 5))
          have e4 : bytesV (r.data.toList ++ [128] ++ List.replicate (z + 1) 0) = bytesV (r.data.toList ++ [128] ++ List.replicate z 0) ++ [Value.int .u8 0] := by simp [bytesV, List.replicate_succ']
          rw [← e4] at ho4
          have hz1 := hlt2.out
          go_roundw
          case rel => exact ⟨z + 1, g4, p4, by omega, rfl, ho4, hgw⟩
          case measure => simp [lenV]; omega
        · obtain rfl : z = zN s.size := by omega
          have hne' : (((r.size : Int) + 1 + (zN s.size : Int)) % 64 != 56) = false := by rw [bne_eq_false_iff_eq]; omega
          have hrl : r.size < 64 := by rw [Hrs.out]; omega
          have Hhg := Lib.hid hg
          have Hho := Lib.hid ho
          have hwz := hg.size
          have Hat := Lib.hid hat
          clear hat hz hlt hlt' ho hg
          gi_wp2
          obtain ⟨m, hm⟩ : ∃ m, r.size + 1 + zN s.size = m := ⟨_, rfl⟩
          obtain ⟨L, hL⟩ : ∃ L, r.data.toList ++ [128] ++ List.replicate (zN s.size) 0 = L := ⟨_, rfl⟩
          rw [hm, hL] at Hho
          rw [hm]
          rw [hm] at Hat
          have HL := Lib.hid hL
          have Hm := Lib.hid hm
          have hml : m < 128 := by omega
          clear hL hm hne'
          gi_loopw [5, 6] (fun v i wr => ∃ j g p : Nat, j ≤ 8 ∧ i = .int .i64 (56 - 8 * (j : Int)) ∧ v = .slice (some ⟨g, 0, none⟩) (m + j) p ∧ OwnG wr W1.heap.size 5 (.slice (some ⟨g, 0, none⟩) (m + j) p) (m + j) (bytesV (L ++ (be8 s.size).take j)) ∧ W1.grownBy wr none) (fun v _ _ => m + 8 - lenV v)
          case atStart => exact ⟨0, g, p, by omega, rfl, rfl, by rw [List.take_zero, List.append_nil]; exact Hho.out, Hhg.out⟩
          case round =>
            clear Hhg Hho hwz
            obtain ⟨j, g, p, hj, rfl, rfl, ho, hg⟩ := hrel
            have Hhg := Lib.hid hg
            have Hho := Lib.hid ho
            have hwz := hg.size
            have cB : wr.cell? ⟨Bs, 0, none⟩ = some (.string s) := grown_cell hg cB (by simp)
            clear ho hg
            by_cases hlt : j < 8
            · have i0 : (0 : Int) ≤ 56 - 8 * (j : Int) := by omega
              have t0 : (56 - 8 * (j : Int)).toNat = 56 - 8 * j := by omega
              have i5 : 8 * (j : Int) ≤ 56 := by omega
              gi_wp2_with (refine wpListIn_appG rfl (.tmp 42) (.tmp 50) 73 rfl W1.heap.size 5 i8 (.int .u8 0) 1 Try.underlying73 h80 h81 h82 h83 rfl (.slice (some ⟨g, 0, none⟩) (m + j) p) _ _ rfl (Hho.out.alloc (.cells #[.int .u8 ((s.size : Int) * 8 / 2 ^ (56 - 8 * j) % 256)] 5)) _ 1 (.int .u8 ((s.size : Int) * 8 / 2 ^ (56 - 8 * j) % 256)) rfl (by rw [(Bx.new wr #[.int .u8 ((s.size : Int) * 8 / 2 ^ (56 - 8 * j) % 256)] 5).cell]; rfl) rfl (by unfold maxLen; omega) (by omega) (by simp; omega) ?_; intro v4 w4 ho4 hg4; obtain ⟨g4, p4, rfl, _⟩ := ho4.row)
              have hgw := grown_own (grown_alloc Hhg.out _) hg4 (Hho.out.alloc (.cells #[.int .u8 ((s.size : Int) * 8 / 2 ^ (56 - 8 * j) % 256)] 5))
              have e4 : bytesV (L ++ (be8 s.size).take (j + 1)) = bytesV (L ++ (be8 s.size).take j) ++ [Value.int .u8 ((s.size : Int) * 8 / 2 ^ (56 - 8 * j) % 256)] := by rw [lenB_val, be8_take_succ _ _ hlt]; simp [bytesV]
              rw [← e4] at ho4
              go_roundw
              case rel => exact ⟨j + 1, g4, p4, by omega, by go_num, rfl, ho4, hgw⟩
              case measure => simp [lenV]; omega
            · obtain rfl : j = 8 := by omega
              have i5 : ¬ 8 * ((8 : Nat) : Int) ≤ 56 := by omega
              gi_wp2
              obtain ⟨W4, hW4⟩ : ∃ W4, W4 = wr := ⟨_, rfl⟩
              subst hW4
              have hM : L ++ (be8 s.size).take 8 = L ++ be8 s.size := by rw [List.take_of_length_le (by simp [be8_len])]
              rw [hM] at Hho
              have hzW := hJz _ _ hJk
              have hOwn : ∀ w', KeepT T W4 w' → OwnG w' W1.heap.size 5 (.slice (some ⟨g, 0, none⟩) (m + 8) p) (m + 8) (bytesV (L ++ be8 s.size)) := fun w' h => Hho.out.same fun b hb => by
                have hl := Hho.out.lt b hb
                have ho := Array.getElem?_eq_getElem hl.2
                exact (h _ _ (hTW b (by omega)) ho).trans ho.symm
              have HOwn := Lib.hid hOwn
              have hq0 : k + (m + 8) / 64 = nBlk s.data.toList := by have := Hke.out; have := Hrs.out; have := Hnb.out; have := Hm.out; have := Hat.out; omega
              have Hq0 := Lib.hid hq0
              clear hOwn hq0 hj hlt i5 hM hwz
              gi_loopw [7] (fun i wr => ∃ q : Nat, 64 * q ≤ m + 8 ∧ i = .int .i64 (64 * (q : Int)) ∧ J ((blkBs s.data.toList).take (k + q)) wr ∧ KeepT T W4 wr) (fun i _ => m + 8 - (intOf i).toNat)
              case atStart => exact ⟨0, by omega, rfl, hJ _ _ _ hJk Hhg.out, KeepT.refl _ _⟩
              case round =>
                obtain ⟨q, hq, rfl, hJq, hKq⟩ := hrel
                by_cases hlt : q < (m + 8) / 64
                · have i5 : 64 * (q : Int) < (m : Int) + 8 := by omega
                  have i0 : (0 : Int) ≤ 64 * (q : Int) := by omega
                  have i1 : (64 : Int) * (q : Int) + 64 ≤ (m : Int) + 8 := by have := Hat.out; omega
                  have i2 : (64 : Int) * (q : Int) ≤ 64 * (q : Int) + 64 := by omega
                  have t0 : (64 * (q : Int)).toNat = 64 * q := by omega
                  have t1 : (64 * (q : Int) + 64).toNat = 64 * q + 64 := by omega
                  have hkn : k + q < nBlk s.data.toList := by have := Hq0.out; omega
                  have hbz := blk_size hkn
                  have hbl := blk_last s k q Hke.out r hr L HL.out
                  obtain ⟨g', p', e', _, _, hrow, hpn, hpm⟩ := (HOwn.out wr hKq).row
                  obtain ⟨rfl, rfl⟩ : g = g' ∧ p = p' := by simpa using e'
                  have hcut := hrow.cut (64 * q) 64
                  rw [Nat.zero_add] at hcut
                  have hbv : ((bytesV (L ++ be8 s.size)).drop (64 * q)).take 64 = bytesV (((L ++ be8 s.size).drop (64 * q)).take 64) := by simp [bytesV, List.map_drop, List.map_take]
                  rw [hbv] at hcut
                  obtain ⟨fn, tmps, assign, body, hy, hR⟩ := hY _ (blkB s.data.toList ⟨k + q, hkn⟩) wr hJq (by simp [blkBs_len]; omega)
                  dsimp only [blkB] at hy
                  rw [hbl] at hy hbz
                  have hsz : (((L ++ be8 s.size).drop (64 * q)).take 64).length = 64 := hbz
                  generalize ((L ++ be8 s.size).drop (64 * q)).take 64 = y at hy hbl hbz hsz hcut
                  have Hbl := Lib.hid hbl
                  have Hcut := Lib.hid hcut
                  have i3 : (64 : Int) * (q : Int) + 64 ≤ (p : Int) := by omega
                  clear hbl hcut hrow e' hbv hbz hpn hpm
                  gi_wp2_with (refine wpListIn_str rfl (.tmp 63) 73 9 5 rfl Try.underlying73 Try.underlying5 Try.underlying9 (some ⟨g, 64 * q, none⟩) 64 (p - 64 * q) y rfl hsz Hcut.out ?_)
                  refine hR.mono ?_
                  rintro e W5 ⟨rfl, hJ5, hk5⟩
                  gi_wp2
                  go_roundw
                  case rel => exact ⟨q + 1, by omega, by go_num, by rw [← Nat.add_assoc, blkBs_take_succ hkn]; exact hJ5, hKq.trans hk5⟩
                  case measure => simp [intOf]; omega
                · have hqe : q = (m + 8) / 64 := by omega
                  have i5 : ¬ 64 * (q : Int) < (m : Int) + 8 := by have := Hat.out; omega
                  have hfin : (blkBs s.data.toList).take (k + q) = blkBs s.data.toList := by rw [hqe, Hq0.out]; exact List.take_of_length_le (by rw [blkBs_len]; exact Nat.le_refl _)
                  rw [hfin] at hJq
                  clear hqe hfin
                  gi_wp2
                  go_end0
                  exact ⟨⟨_, rfl⟩, hJq⟩
end Go.Proofs.Ytfligkncdlocaaa
