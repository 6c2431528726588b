/- slices.Backward over a slice of writes (layer 40): the contract of its iterator. -/
import Derived.RangeFuncNested
import Derived.RangeFuncBound
import Derived.RangeFuncCalls
import Derived.RangeFuncLeaves
import Derived.Shelf.Abstract
import Derived.Shelf.RegionOpen
import Derived.WalkKit
import Derived.OwnWalkIn
import Derived.TacticsInMore
import Derived.LoopNIn
import Derived.LoopIn
import Derived.Test.YtjbcagijfodfgaaDSpec
namespace Go.Proofs.Ytjbcagijfodfgaa
open Go.RowKit Go.Shelf
attribute [local go_sem] Oper.semAt_some

/-- what has come when k rounds are over -/
def upto {α : Type} (f : Nat → α) (k : Nat) : List α := (List.range k).map f
theorem upto_succ {α : Type} (f : Nat → α) (k : Nat) : upto f (k + 1) = upto f k ++ [f k] := by simp [upto, List.range_succ]
theorem upto_length {α : Type} (f : Nat → α) (k : Nat) : (upto f k).length = k := by simp [upto]
/-- the j-th pair that Backward yields -/
def bkF (l : List PW) (j : Nat) : Int × PW := ((l.length : Int) - 1 - j, l[l.length - 1 - j]?.getD ⟨0, ByteArray.empty⟩)

set_option maxRecDepth 100000 in
set_option maxHeartbeats 2000000 in
theorem back1_in (F : Fence) (n : Nat) (hF : F.fn 43) (hro : F.round = none) (hn : 1 ≤ n) (l Bs n₀ cap : Nat) (o : Option Addr) (zs : List PW) (hreach : zs.length ≤ 140737488351232) {S : Nat → Prop} (hS : ∀ b, S b → b < n₀) (J Jx : List (Int × PW) → World → Prop)
    (hY : ∀ pre x W, J pre W → pre.length < zs.length → YieldAt F (n - 1) Try.prog l #[.int .i64 x.1, .agg #[.int .i64 x.2.page, .string x.2.data]] W fun e W' =>
      (e = .returned (.bool true) ∧ J (pre ++ [x]) W' ∧ Below n₀ W W') ∨ (e = .returned (.bool false) ∧ Jx (pre ++ [x]) W'))
    (W : World) (hBl : Bs < n₀) (hBs : W.cell? ⟨Bs, 0, none⟩ = some (.slice o zs.length cap))
    (hc : PWsAt S W o zs) (h0 : J [] W) :
    CallsIn F n Try.prog 43 #[.func (.yield l) #[] #[], .pointer (some ⟨Bs, 0, none⟩)] W fun e W' => (∃ v, e = .returned v) ∧
      ((∃ ys, ys = upto (bkF zs) zs.length ∧ J ys W') ∨ (∃ pre, (∃ k, k ≤ zs.length ∧ pre = upto (bkF zs) k) ∧ Jx pre W')) := by
  refine callsIn_of_wp Try.func43 rfl hF ?_ hro
  simp only [Try.ntmps43, List.size_toArray, List.length_cons, List.length_nil, Nat.reduceAdd, Nat.reduceSub, Array.replicate_succ, Array.replicate_zero, List.push_toArray, List.append_toArray, List.nil_append, List.cons_append]
  gi_wp2
  gi_loopw [3] (fun i wr => ∃ k : Nat, k ≤ zs.length ∧ i = .int .i64 ((zs.length : Int) - 1 - k) ∧ J (upto (bkF zs) k) wr ∧ Below n₀ W wr)
    (fun i _ => (intOf i + 1).toNat)
  case atStart => exact ⟨0, Nat.zero_le _, by go_num, h0, Below.refl _ _⟩
  case round =>
    obtain ⟨k, hk, rfl, hJs, hnx⟩ := hrel
    by_cases hlt : k < zs.length
    · have hBs' : wr.cell? ⟨Bs, 0, none⟩ = some (.slice o zs.length cap) := (hnx.cell (p := ⟨Bs, 0, none⟩) hBl).trans hBs
      obtain ⟨m, hm⟩ : ∃ m : Nat, m = zs.length - 1 - k := ⟨_, rfl⟩
      have hmz : m < zs.length := by omega
      have hmi : (zs.length : Int) - 1 - k = m := by omega
      obtain ⟨b, off, rfl, hc1, hc2, hb⟩ := hc m hmz
      have hb := hS b hb
      have hx : bkF zs k = ((m : Int), zs[m]) := by rw [bkF, ← hm, hmi, List.getElem?_eq_getElem hmz]; rfl
      have hJs' := hJs
      obtain ⟨fn, tmps, assign, body, hy, hR⟩ := hY _ (bkF zs k) wr hJs (by rw [upto_length]; exact hlt)
      rw [hx] at hy hR
      have hx := Lib.hid hx
      dsimp only at hy
      have hcx : wr.cell? ⟨b, off + m * 2, none⟩ = some (.int .i64 zs[m].page) := (hnx.cell (p := ⟨b, off + m * 2, none⟩) hb).trans hc1
      have hcy : wr.cell? ⟨b, off + m * 2 + 1, none⟩ = some (.string zs[m].data) := (hnx.cell (p := ⟨b, off + m * 2 + 1, none⟩) hb).trans hc2
      rw [hmi]
      have hm' := Lib.hid (And.intro hm hmi)
      clear hm hmi hc1 hc2
      gi_wp2
      refine hR.mono ?_
      rintro e W3 (⟨rfl, hJ3, hk3⟩ | ⟨rfl, hJx3⟩)
      · gi_wp2
        go_roundw
        case rel => exact ⟨k + 1, by omega, by have := hm'.out.2; go_num, by rw [upto_succ, hx.out]; exact hJ3, hnx.trans hk3⟩
        case measure => have := hm'.out.2; simp [intOf] <;> (try omega)
      · gi_wp2
        refine bodyPost_ret (results_none rfl _ _ _) rfl ?_
        exact ⟨⟨_, rfl⟩, .inr ⟨_, ⟨k + 1, by omega, by rw [upto_succ, hx.out]⟩, hJx3⟩⟩
    · obtain rfl : k = zs.length := by omega
      gi_wp2
      go_end0
      exact ⟨⟨_, rfl⟩, .inl ⟨_, rfl, hJs⟩⟩

set_option maxHeartbeats 1000000 in
theorem back_in (F : Fence) (n : Nat) (hF : F.fn 31) (hro : F.round = none) (a : Option Addr) (len cap : Nat) (w : World) :
    CallsIn F n Try.prog 31 #[.slice a len cap] w fun e w' => e = .returned (.func (.func 43) #[] #[.pointer (some ⟨w.heap.size, 0, none⟩)]) ∧ w' = w.alloc (.cells #[.slice a len cap] 23) := by
  refine callsIn_of_wp Try.func31 rfl hF ?_ hro
  simp only [Try.ntmps31, List.size_toArray, List.length_cons, List.length_nil, Nat.reduceAdd, Nat.reduceSub, Array.replicate_succ, Array.replicate_zero, List.push_toArray, List.append_toArray, List.nil_append, List.cons_append]
  gi_wp2
  go_ret
  exact ⟨rfl, rfl⟩

theorem back_stops (F : Fence) (n : Nat) (hF : F.fn 43) (hro : F.round = none) (hn : 1 ≤ n) (Bs n₀ cap : Nat) (o : Option Addr) (zs : List PW) (hreach : zs.length ≤ 140737488351232) {S : Nat → Prop} (hS : ∀ b, S b → b < n₀) (w : World) (hBs : Bs < n₀) (hn₀ : n₀ ≤ w.heap.size)
    (hBc : w.cell? ⟨Bs, 0, none⟩ = some (.slice o zs.length cap)) (hc : PWsAt S w o zs) :
    SeqStopsK F n Try.prog 43 #[.pointer (some ⟨Bs, 0, none⟩)] (fun x : Int × PW => #[Value.int .i64 x.1, .agg #[.int .i64 x.2.page, .string x.2.data]]) (Below n₀) (fun ys => ys = upto (bkF zs) zs.length)
      (fun pre => ∃ k, k ≤ zs.length ∧ pre = upto (bkF zs) k) zs.length w := fun l J Jx W hW _ _ hY h0 =>
  back1_in F n hF hro hn l Bs n₀ cap o zs hreach hS J Jx hY W hBs ((hW.cell (p := ⟨Bs, 0, none⟩) (show Bs < w.heap.size by omega)).trans hBc) (hc.below hW) h0
end Go.Proofs.Ytjbcagijfodfgaa
