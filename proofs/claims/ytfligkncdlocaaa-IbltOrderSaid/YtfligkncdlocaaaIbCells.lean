/- iblt.cells: the contract of its iterator: the three cells of a digest. -/
import Derived.RangeFuncBox
import Derived.RangeFuncNested
import Derived.RangeFuncLeaves
import Derived.Shelf.Abstract
import Derived.Shelf.RegionOpen
import Derived.WalkKit
import Derived.TacticsInMore
import Derived.LoopNIn
import Derived.LoopIn
import Derived.Test.YtfligkncdlocaaaIbNew
import Derived.Test.YtfligkncdlocaaaShB
namespace Go.Proofs.Ytfligkncdlocaaa
open Go.RowKit Go.Shelf
attribute [local go_sem] Oper.semAt_some

/-- the first j bytes of a part of a digest, as a number -/
def keyP (d : List UInt8) (part j : Nat) : UInt64 := ((d.drop (8 * part)).take j).foldl (fun x c => (x <<< 8) ||| c.toUInt64) 0
/-- the cell of a digest in a part of a table of n cells -/
def posN (d : List UInt8) (n part : Nat) : Nat := part * (n / 3) + (keyP d part 8).toNat % (n / 3)
def wq (x : UInt64) : Int := (x.toNat : Int)
theorem keyP_succ {d : List UInt8} {part j : Nat} (h : 8 * part + j < d.length) : keyP d part (j + 1) = ((keyP d part j) <<< 8) ||| (d[8 * part + j]).toUInt64 := by
  unfold keyP
  rw [List.take_succ_eq_append_getElem (by simp; omega), List.foldl_append]
  simp
theorem wrap_u64 (n : Nat) (h : n < 18446744073709551616) : IntKind.u64.wrap (n : Int) = n := by
  simp [IntKind.wrap, IntKind.bits, IntKind.signed]
  omega
theorem ofInt_u64 (x : UInt64) : BitVec.ofInt 64 (x.toNat : Int) = x.toBitVec := by
  apply BitVec.eq_of_toNat_eq
  simp
theorem bits_or64 (x y : UInt64) : bits .or .u64 (x.toNat : Int) (y.toNat : Int) = ((x ||| y).toNat : Int) := by
  unfold bits
  simp only [IntKind.bits]
  rw [ofInt_u64, ofInt_u64, wrap_u64 _ (by exact (x.toBitVec ||| y.toBitVec).isLt)]
  rfl
theorem key_raw (x : UInt64) (c : UInt8) : bits .or .u64 (wq x * 256 % 18446744073709551616) (c.toNat : Int) = wq ((x <<< 8) ||| c.toUInt64) := by
  have e1 : wq x * (256 : Int) % (18446744073709551616 : Int) = ((x <<< 8).toNat : Int) := by
    unfold wq
    rw [UInt64.toNat_shiftLeft]
    simp [Nat.shiftLeft_eq]
  have e2 : (c.toNat : Int) = ((c.toUInt64).toNat : Int) := by simp
  rw [e1, e2, bits_or64]; rfl
theorem key_raw2 (x : UInt64) (c : UInt8) : bits .or .u64 (IntKind.u64.wrap (wq x * 256)) (IntKind.u64.wrap (c.toNat : Int)) = wq ((x <<< 8) ||| c.toUInt64) := by
  rw [wrap_u64 c.toNat (by have := c.toNat_lt; omega), ← key_raw]
  congr 1
theorem posN_lt {d : List UInt8} {n part : Nat} (hp : part < 3) (hn : 3 ≤ n) : posN d n part < n := by
  unfold posN
  have h1 : 0 < n / 3 := by omega
  have h2 := Nat.mod_lt (keyP d part 8).toNat h1
  have h3 : part * (n / 3) ≤ 2 * (n / 3) := Nat.mul_le_mul_right _ (by omega)
  omega

/-- the first k parts -/
def parts (k : Nat) : List (Fin 3) := (List.finRange 3).take k
theorem parts_succ {k : Nat} (h : k < 3) : parts (k + 1) = parts k ++ [⟨k, h⟩] := by
  unfold parts
  rw [List.take_add_one]
  simp [h]
theorem parts_len {k : Nat} (h : k ≤ 3) : (parts k).length = k := by simp [parts]; omega

set_option maxRecDepth 100000 in
set_option maxHeartbeats 1200000 in
theorem cells1_in (F : Fence) (nF : Nat) (hF : F.fn 54) (hro : F.round = none) (hn : 1 ≤ nF) (l : Nat) (d : List UInt8) (hd : d.length = 32) (n : Nat) (hn3 : 3 ≤ n) (hn4 : n ≤ 1000000) (Bn Bd : Nat) (T : Nat → Prop) (_hTn : T Bn) (hTd : T Bd) (J Jx : List (Fin 3) → World → Prop)
    (hY : ∀ pre x W, J pre W → pre.length < 3 → YieldAt F (nF - 1) Try.prog l #[.int .i64 (posN d n x.1)] W fun e W' => (e = .returned (.bool true) ∧ J (pre ++ [x]) W' ∧ KeepT T W W') ∨ (e = .returned (.bool false) ∧ Jx (pre ++ [x]) W'))
    (W : World) (xn : Bx W Bn #[.int .i64 n] 3) (xd : Bx W Bd (bytesV d).toArray 31) (h0 : J [] W) :
    CallsIn F nF Try.prog 54 #[.func (.yield l) #[] #[], .pointer (some ⟨Bn, 0, none⟩), .pointer (some ⟨Bd, 0, none⟩)] W fun e W' => (∃ v, e = .returned v) ∧
      ((∃ ys, ys = parts 3 ∧ J ys W') ∨ (∃ pre, (∃ k, k ≤ 3 ∧ pre = parts k) ∧ Jx pre W')) := by
  have cn := xn.cell 0
  simp at cn
  have hq3 : (n : Int).tdiv 3 = ((n / 3 : Nat) : Int) := by rw [Int.tdiv_eq_ediv_of_nonneg (by omega)]; omega
  obtain ⟨m, hm⟩ : ∃ m, n / 3 = m := ⟨_, rfl⟩
  have hpos : ∀ p, posN d n p = p * m + (keyP d p 8).toNat % m := fun p => by unfold posN; rw [hm]
  have hm1 : 1 ≤ m := by omega
  have hm2 : m ≤ 1000000 := by omega
  have hq4 : (n : Int) / 3 = (m : Int) := by omega
  rw [hm] at hq3
  have Hpos := Lib.hid hpos
  clear hpos hm
  refine callsIn_of_wp Try.func54 rfl hF ?_ hro
  simp only [Try.ntmps54, List.size_toArray, List.length_cons, List.length_nil, Nat.reduceAdd, Nat.reduceSub, Array.replicate_succ, Array.replicate_zero, List.push_toArray, List.append_toArray, List.nil_append, List.cons_append]
  gi_wp2
  gi_loopw [11] (fun i wr => ∃ k : Nat, k ≤ 3 ∧ i = .int .i64 k ∧ J (parts k) wr ∧ KeepT T W wr) (fun i _ => 3 - (intOf i).toNat)
  case atStart => exact ⟨0, by omega, rfl, h0, KeepT.refl _ _⟩
  case round =>
    obtain ⟨k, hk, rfl, hJk, hKT⟩ := hrel
    by_cases hlt : k < 3
    · have hlt' : (k : Int) < 3 := by omega
      have i0 : (0 : Int) ≤ 8 * (k : Int) := by omega
      have i1 : (8 : Int) * (k : Int) ≤ 8 * (k : Int) + 8 := by omega
      have i2 : (8 : Int) * (k : Int) + 8 ≤ 32 := by omega
      have t0 : (8 * (k : Int)).toNat = 8 * k := by omega
      have t1 : (8 * (k : Int) + 8).toNat = 8 * k + 8 := by omega
      have i3 : 8 * (k : Int) + 8 - 8 * (k : Int) = 8 := by omega
      have Hd8 : Hid (8 * k + 8 ≤ d.length) := Lib.hid (by omega)
      obtain ⟨W2, hW2⟩ : ∃ W2, W2 = wr := ⟨_, rfl⟩
      subst hW2
      have cD : ∀ j (hj : j < 8), W2.cell? ⟨Bd, 8 * k + j, none⟩ = some (.int .u8 ((d[8 * k + j]'(by have := Hd8.out; omega)).toNat : Int)) := fun j hj => hKT.cell hTd (by rw [xd.cell, bytesV_get (by have := Hd8.out; omega)])
      have HcD := Lib.hid cD
      clear cD i0 i1 i2 t0 t1
      have i0 : (0 : Int) ≤ 8 * (k : Int) := by omega
      have i1 : (8 : Int) * (k : Int) ≤ 8 * (k : Int) + 8 := by omega
      have i2 : (8 : Int) * (k : Int) + 8 ≤ 32 := by omega
      have t0 : (8 * (k : Int)).toNat = 8 * k := by omega
      have t1 : (8 * (k : Int) + 8).toNat = 8 * k + 8 := by omega
      have t2 : 8 * k + 8 - 8 * k = 8 := by omega
      gi_wp2
      gi_loopw [6, 21] (fun x i wr => ∃ j : Nat, j ≤ 8 ∧ i = .int .i64 j ∧ x = .int .u64 (wq (keyP d k j)) ∧ wr = W2) (fun _ i _ => 8 - (intOf i).toNat)
      case atStart => exact ⟨0, by omega, rfl, rfl, rfl⟩
      case round =>
        obtain ⟨j, hj, rfl, rfl, rfl⟩ := hrel
        by_cases hlt2 : j < 8
        · have hltj : (j : Int) < 8 := by omega
          have cx := HcD.out j hlt2
          have hsu := keyP_succ (d := d) (part := k) (j := j) (by have := Hd8.out; omega)
          generalize d[8 * k + j]'(by have := Hd8.out; omega) = c at *
          have Hsu := Lib.hid hsu
          clear hsu
          gi_wp2
          rw [key_raw2, ← Hsu.out]
          go_roundw
          case rel => exact ⟨j + 1, by omega, by go_num, rfl, trivial⟩
          case measure => simp [intOf]; omega
        · obtain rfl : j = 8 := by omega
          have hltj : ¬ ((8 : Nat) : Int) < 8 := by omega
          have hkm : k * m ≤ 3 * m := Nat.mul_le_mul_right _ (by omega)
          have hw : IntKind.i64.wrap ((k : Int) * (m : Int)) = ((k * m : Nat) : Int) := by rw [← Int.natCast_mul]; exact IntWalk.i64_in _ (by omega)
          have hx := Hpos.out k
          have hr1 := Nat.mod_lt (keyP d k 8).toNat (show 0 < m by omega)
          have hr2 : (wq (keyP d k 8)).tmod (m : Int) = (((keyP d k 8).toNat % m : Nat) : Int) := by unfold wq; rw [Int.tmod_eq_emod_of_nonneg (by omega)]; exact (Int.natCast_emod _ _).symm
          have hm0 : ¬ (m : Int) = 0 := by omega
          have hmw : IntKind.u64.wrap (m : Int) = (m : Int) := wrap_u64 m (by omega)
          obtain ⟨fn, tmps, assign, body, hy, hR⟩ := hY _ ⟨k, hlt⟩ wr hJk (by rw [parts_len hk]; exact hlt)
          dsimp only at hy
          rw [hx, Int.natCast_add] at hy
          have Hx := Lib.hid hx
          clear hx
          generalize (keyP d k 8).toNat % m = r at *
          generalize k * m = km at *
          gi_wp2
          refine hR.mono ?_
          rintro e W3 (⟨rfl, hJ3, hk3⟩ | ⟨rfl, hJx3⟩)
          · gi_wp2
            go_roundw
            case rel => exact ⟨k + 1, by omega, by go_num, by rw [parts_succ hlt]; exact hJ3, hKT.trans hk3⟩
            case measure => simp [intOf]; omega
          · gi_wp2
            refine bodyPost_ret (results_none rfl _ _ _) rfl ?_
            exact ⟨⟨_, rfl⟩, .inr ⟨_, ⟨k + 1, by omega, by rw [parts_succ hlt]⟩, hJx3⟩⟩
    · obtain rfl : k = 3 := by omega
      have hlt' : ¬ ((3 : Nat) : Int) < 3 := by omega
      gi_wp2
      go_end0
      exact ⟨⟨_, rfl⟩, .inl hJk⟩

set_option maxHeartbeats 1000000 in
theorem cells_in (F : Fence) (nF : Nat) (hF : F.fn 38) (hro : F.round = none) (d : List UInt8) (n : Int) (w : World) :
    CallsIn F nF Try.prog 38 #[dgV d, .int .i64 n] w fun e w' => e = .returned (.func (.func 54) #[] #[.pointer (some ⟨w.heap.size + 1, 0, none⟩), .pointer (some ⟨w.heap.size, 0, none⟩)]) ∧ w' = (w.alloc (.cells (bytesV d).toArray 31)).alloc (.cells #[.int .i64 n] 3) := by
  unfold dgV
  generalize (bytesV d).toArray = cd
  refine callsIn_of_wp Try.func38 rfl hF ?_ hro
  simp only [Try.ntmps38, List.size_toArray, List.length_cons, List.length_nil, Nat.reduceAdd, Nat.reduceSub, Array.replicate_succ, Array.replicate_zero, List.push_toArray, List.append_toArray, List.nil_append, List.cons_append]
  gi_wp2
  go_ret
  exact ⟨rfl, rfl⟩

/-- the contract: each cell in turn, to a body that may leave; what the body keeps is T -/
theorem cells_stops (F : Fence) (nF : Nat) (hF : F.fn 54) (hro : F.round = none) (hn : 1 ≤ nF) (d : List UInt8) (hd : d.length = 32) (n : Nat) (hn3 : 3 ≤ n) (hn4 : n ≤ 1000000) (Bn Bd : Nat) (T : Nat → Prop) (hTn : T Bn) (hTd : T Bd) (w : World)
    (xn : Bx w Bn #[.int .i64 n] 3) (xd : Bx w Bd (bytesV d).toArray 31) :
    SeqStopsK F nF Try.prog 54 #[.pointer (some ⟨Bn, 0, none⟩), .pointer (some ⟨Bd, 0, none⟩)] (fun x : Fin 3 => #[Value.int .i64 (posN d n x.1)]) (KeepT T) (fun ys => ys = parts 3) (fun pre => ∃ k, k ≤ 3 ∧ pre = parts k) 3 w := fun l J Jx W hW _ _ hY h0 =>
  cells1_in F nF hF hro hn l d hd n hn3 hn4 Bn Bd T hTn hTd J Jx hY W (xn.belowAll hW) (xd.belowAll hW) h0
end Go.Proofs.Ytfligkncdlocaaa
