/- New, Check, counts of layer 47, of the program and the reference. -/
import Derived.Test.YtfligkncdlocaaaLazyIn
import Derived.Test.YtfligkncdlocaaaTabEq
namespace Go.Proofs.Ytfligkncdlocaaa
open Go.RowKit

def allowedB (n : Int) : Bool := decide (3 ≤ n) && (decide (n ≤ 3000) && (n % 3 == 0))
def countsB (n : Int) : Bool := decide (-1099511627776 ≤ n) && decide (n ≤ 1099511627776)
def newE (n : Int) : Int := if allowedB n then 0 else 2
def newT (n : Int) : List Cl := if allowedB n then List.replicate n.toNat Cl.zero else []
theorem tmod3 {n : Int} (h : 3 ≤ n) : n.tmod 3 = n % 3 := Int.tmod_eq_emod_of_nonneg (by omega)
theorem allowedB_iff {n : Int} : allowedB n = true ↔ 3 ≤ n ∧ n ≤ 3000 ∧ n % 3 = 0 := by simp [allowedB]
theorem Tok.rep (n : Nat) : Tok (List.replicate n Cl.zero) := by
  intro c hc
  rw [(List.mem_replicate.1 hc).2]; exact Cl.zero_ok

set_option maxHeartbeats 1000000 in
theorem iblt_counts (n : Int) (w : World) : Calls Try.prog 39 #[.int .i64 n] w fun e w' => e = .returned (.bool (countsB n)) ∧ w = w' := by
  go_enter Try.func39, Try.ntmps39
  unfold countsB
  cases h : decide (-1099511627776 ≤ n)
  · go_wp2
    go_ret
    exact ⟨by simp, rfl⟩
  · go_wp2
    go_ret
    exact ⟨by simp, rfl⟩
set_option maxHeartbeats 1000000 in
theorem ref47_allowed (n : Int) (w : World) : Calls Try.prog 37 #[.int .i64 n] w fun e w' => e = .returned (.bool (allowedB n)) ∧ w = w' := by
  go_enter Try.func37, Try.ntmps37
  unfold allowedB
  cases h : decide (3 ≤ n)
  · go_wp2
    go_ret
    exact ⟨by simp, rfl⟩
  · have h3 := tmod3 (of_decide_eq_true h)
    cases h2 : decide (n ≤ 3000)
    · go_wp2
      go_ret
      exact ⟨by simp, rfl⟩
    · go_wp2
      go_ret
      exact ⟨by simp, rfl⟩
theorem made_flat (z : List Value) (n : Nat) (hz : 0 < z.length) : (madeCells z.toArray (n * z.length)).toList = (List.replicate n z).flatten := by
  have hL : ∀ x ∈ List.replicate n z, x.length = z.length := fun x hx => by rw [(List.mem_replicate.1 hx).2]
  apply List.ext_getElem?
  intro j
  by_cases hj : j < n * z.length
  · obtain ⟨q, r, hr, rfl⟩ : ∃ q r, r < z.length ∧ j = q * z.length + r := ⟨j / z.length, j % z.length, Nat.mod_lt _ hz, by rw [Nat.mul_comm]; exact (Nat.div_add_mod j _).symm⟩
    have hq : q < n := by
      rcases Nat.lt_or_ge q n with h | h
      · exact h
      · have := Nat.mul_le_mul_right z.length h; omega
    rw [flat_get hL _ _ hr]
    simp [madeCells, hj, hq, hr, Nat.mod_eq_of_lt hr]
  · rw [List.getElem?_eq_none (by simp [madeCells]; omega), List.getElem?_eq_none (by rw [flat_len hL, List.length_replicate]; omega)]
section
variable {P : Program} {ops : Array Oper} {rest : List Oper} {o : Oper} {a : Act} {Q : Exit → Act → World → Prop} {w : World}
/-- 'make([]T, n)', an element of many cells -/
theorem wpList_makeR (hgd : o.guard = none) (l c : Operand) (t : TypeId) (hop : o.op = Op.makeSlice t l c)
    (e : TypeId) (i : TypeInfo) (z : List Value) (m bytes : Nat) (ht : P.underlying t = some (.slice e)) (hi : P.info? e = some i) (hz : i.zero = some (.agg z.toArray)) (hsize : i.size = m) (hby : i.bytes = bytes) (hzl : z.length = m) (hm : 0 < m)
    (n : Nat) (hl : a.eval l = .int .i64 n) (hc : a.eval c = .int .i64 n) (hb : bytes * n ≤ 281474976710656) (h63 : n ≤ maxLen)
    (hK : ∀ w', w'.ownsRow w.heap.size e m (.slice (some ⟨w.heap.size, 0, none⟩) n n) n (List.replicate n z).flatten → w.grownBy w' none → w'.heap.size = w.heap.size + 1 → wpList P ops Q rest (a.put o.dst (.slice (some ⟨w.heap.size, 0, none⟩) n n)) w') :
    wpList P ops Q (o :: rest) a w := by
  refine wpList_plain hgd fun K hK' => ?_
  have hb' : (i.bytes : Int) * (n : Int) ≤ 281474976710656 := by
    have h : ((i.bytes * n : Nat) : Int) ≤ 281474976710656 := by rw [hby]; omega
    rwa [Int.natCast_mul] at h
  have h63' : (n : Int) ≤ 9223372036854775807 := by simp only [maxLen] at h63; omega
  have hrun := run_make (P := P) w t e i (.agg z.toArray) ht hi hz .i64 .i64 n n (by omega) (Int.le_refl _) hb' h63'
  rw [hsize] at hrun
  simp only [Int.toNat_natCast, Value.cells] at hrun
  unfold Oper.wp
  simp [execOp, hop, hl, hc, hrun, Result.andThen]
  have hfl := made_flat z n (by omega)
  rw [hzl] at hfl
  have hlen : (madeCells z.toArray (n * m)).size = n * m := by simp [madeCells]
  refine hK' _ _ (hK _ ⟨?_, .inr ⟨w.heap.size, n, _, rfl, Nat.le_refl _, Bx.new w _ _, Nat.le_refl _, h63, hlen, ?_⟩⟩ (World.grownBy_alloc w _ none) (World.size_alloc _ _))
  · rw [← hfl]; simpa using hlen
  · rw [← hfl, List.take_of_length_le (by simp [hlen])]
end
/-- what New answers -/
def NewP (w : World) (n : Int) (e : Ending) (w' : World) : Prop :=
  ∃ v, e = .returned (.tuple #[v, .int .i64 (newE n)]) ∧ (allowedB n = false → v = .slice none 0 0) ∧ (allowedB n = true → w'.ownsRow w.heap.size 50 65 v (newT n).length (tabC (newT n)).flatten) ∧ Below w.heap.size w w'
set_option maxHeartbeats 1000000 in
theorem iblt_new (n : Int) (w : World) : Calls Try.prog 14 #[.int .i64 n] w (NewP w n) := by
  obtain ⟨ic, hi, hz, hs, hby⟩ := info_parts infoCl
  rw [zeroCl'] at hz
  have Hz := Lib.hid hz
  clear hz
  go_enter Try.func14, Try.ntmps14
  cases h : decide (n < 3)
  · have hn3 : 3 ≤ n := by have := of_decide_eq_false h; omega
    have h3 := tmod3 hn3
    cases h2 : decide (3000 < n)
    · cases h4 : (n % 3 != 0)
      · have hn := of_decide_eq_false h2
        obtain ⟨k, rfl⟩ : ∃ k : Nat, n = (k : Int) := ⟨n.toNat, by omega⟩
        go_wp2_with (refine wpList_makeR rfl (.tmp 15) (.tmp 15) 23 rfl 50 ic Cl.zero.cells 65 72 Try.underlying23 hi Hz.out hs hby (Cl.len Cl.zero_ok) (by decide) k rfl rfl (by omega) (by unfold maxLen; omega) ?_; intro w2 ho hg hz2)
        have ha : allowedB (k : Int) = true := by simp [allowedB]; have := of_decide_eq_false h; simp at h4; omega
        refine bodyPost_ret (v := .tuple #[.slice (some ⟨w.heap.size, 0, none⟩) k k, .int .i64 0]) (by simp [results, Try.results14, go_sem]) rfl ?_
        have e1 : newE (k : Int) = 0 := by simp [newE, ha]
        have e2 : newT (k : Int) = List.replicate k Cl.zero := by simp [newT, ha]
        unfold NewP
        refine ⟨.slice (some ⟨w.heap.size, 0, none⟩) k k, by rw [e1], (fun h => by rw [ha] at h; cases h), fun _ => ?_, (Below.refl w.heap.size w).grown hg (Nat.le_refl _) (fun k e => by cases e)⟩
        rw [e2, List.length_replicate, tabC, List.map_replicate]
        exact ho
      · have ha : allowedB n = false := by simp [allowedB]; intro _ _; simpa using h4
        go_wp2
        refine bodyPost_ret (v := .tuple #[.slice none 0 0, .int .i64 2]) (by simp [results, Try.results14, go_sem]) rfl ?_
        exact ⟨.slice none 0 0, by rw [show newE n = 2 by simp [newE, ha]], fun _ => rfl, (fun h => by rw [ha] at h; cases h), Below.refl _ _⟩
    · have ha : allowedB n = false := by simp [allowedB]; intro _ h5; have := of_decide_eq_true h2; omega
      go_wp2
      refine bodyPost_ret (v := .tuple #[.slice none 0 0, .int .i64 2]) (by simp [results, Try.results14, go_sem]) rfl ?_
      exact ⟨.slice none 0 0, by rw [show newE n = 2 by simp [newE, ha]], fun _ => rfl, (fun h => by rw [ha] at h; cases h), Below.refl _ _⟩
  · have ha : allowedB n = false := by simp [allowedB]; intro h5; have := of_decide_eq_true h; omega
    go_wp2
    refine bodyPost_ret (v := .tuple #[.slice none 0 0, .int .i64 2]) (by simp [results, Try.results14, go_sem]) rfl ?_
    exact ⟨.slice none 0 0, by rw [show newE n = 2 by simp [newE, ha]], fun _ => rfl, (fun h => by rw [ha] at h; cases h), Below.refl _ _⟩
end Go.Proofs.Ytfligkncdlocaaa
