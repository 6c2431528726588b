/- 'T{x}' and appends of elements of many cells. No function of the program is named here. -/
import Derived.Test.YtfligkncdlocaaaLazyIn
namespace Go.Proofs.Ytfligkncdlocaaa
open Go.RowKit
section
variable {P : Program} {ops : Array Oper} {rest : List Oper} {o : Oper} {a : Act} {Q : Exit → Act → World → Prop} {w : World}
theorem range_zero {zl : List Value} {m : Nat} (hz : zl.length = m) : ((Array.range (1 * m)).map (zl.toArray[· % zl.toArray.size]!)) = zl.toArray := by
  apply Array.ext_getElem?
  intro j
  by_cases hj : j < m
  · have h1 : j < (Array.range (1 * m)).size := by simp; omega
    simp [hj, hz, Nat.mod_eq_of_lt hj]
  · rw [Array.getElem?_eq_none (by simp; omega), Array.getElem?_eq_none (by simp; omega)]
theorem run_buildSlice1 (t e : TypeId) (i : TypeInfo) (z : List Value) (m : Nat) (ht : P.underlying t = some (.slice e)) (hi : P.info? e = some i) (hz : i.zero = some (.agg z.toArray)) (hs : i.size = m) (hzl : z.length = m) (hm : 0 < m ∧ m ≤ 16777216) (cs : List Value) (hc : cs.length = m) :
    (Instr.buildSlice t 1 #[(0, .agg cs.toArray)]).run P w = .ok (.slice (some ⟨w.heap.size, 0, none⟩) 1 1) (w.alloc (.cells cs.toArray e)) := by
  have hf := fill_step (place := fun i => some (i * m, m)) (i := 0) (v := .agg cs.toArray) (rest := []) [] z cs [] (by simp [hzl]) rfl (by rw [hzl, hc])
  simp only [List.nil_append, List.append_nil] at hf
  have hr := range_zero hzl
  rw [Nat.one_mul] at hr
  have h0 : ¬ (m = 0) := by omega
  have h1 : ¬ (m > 2 ^ 24) := by omega
  have sz : ∀ w, (sizeOf e).run P w = .ok m w := fun w => by simp [sizeOf, typeInfo, hi, hs]
  have zv : ∀ w, (zeroValue e).run P w = .ok (.agg z.toArray) w := fun w => by simp [zeroValue, typeInfo, hi, hz]
  unfold Instr.buildSlice
  simp only [Sem.run_bind, run_underlying ht, Result.andThen_ok, sz, Nat.one_mul, h0, h1, if_false, Sem.run_ite, zv, Value.cells, Sem.run_pure, hr, hf]
  simp [Instr.fill, newRow]
/-- 'T{x}', one element of many cells -/
theorem wpList_build1 (hgd : o.guard = none) (t : TypeId) (x : Operand) (hop : o.op = .buildSlice t 1 #[(0, x)]) (e : TypeId) (i : TypeInfo) (z : List Value) (m : Nat) (ht : P.underlying t = some (.slice e)) (hi : P.info? e = some i) (hz : i.zero = some (.agg z.toArray)) (hs : i.size = m) (hzl : z.length = m) (hm : 0 < m ∧ m ≤ 16777216) (cs : List Value) (hc : cs.length = m) (hx : a.eval x = .agg cs.toArray)
    (hK : wpList P ops Q rest (a.put o.dst (.slice (some ⟨w.heap.size, 0, none⟩) 1 1)) (w.alloc (.cells cs.toArray e))) : wpList P ops Q (o :: rest) a w := by
  refine wpList_plain hgd fun K hK' => ?_
  have hr := run_buildSlice1 (w := w) t e i z m ht hi hz hs hzl hm cs hc
  unfold Oper.wp
  simp [execOp, hop, hx, hr, Result.andThen]
  exact hK' _ _ hK
end
end Go.Proofs.Ytfligkncdlocaaa
