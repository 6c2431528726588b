/- Arr's and the kit's laws on arrays, inside a fence. No function of the program is named here. -/
import Derived.Test.YtfligkncdlocaaaBuf
namespace Go.Proofs.Ytfligkncdlocaaa
open Go.RowKit
section
variable {F : Fence} {nF : Nat} {P : Program} {ops : Array Oper} {rest : List Oper} {o : Oper} {a : Act} {Q : Exit → Act → World → Prop} {w w' : World}
theorem wpListIn_value (hgd : o.guard = none) (hab : o.about P w a.eval = none) (hnd : ∀ c, o.op ≠ .defer c) (v : Value) (hrun : (execOp a.eval o).run P w = .ok (.value v) w')
    (hK : wpListIn F nF P ops Q rest (a.put o.dst v) w') : wpListIn F nF P ops Q (o :: rest) a w := by
  refine wpListIn_plain hgd fun K hK' => ?_
  unfold Oper.wpIn
  refine ⟨by simp [hab], ?_⟩
  rw [Oper.semAt_plain F _ _ hnd, hrun]
  exact hK' _ _ hK
theorem wpListIn_skip (hgd : o.guard = none) (hab : o.about P w a.eval = none) (hnd : ∀ c, o.op ≠ .defer c) (hrun : (execOp a.eval o).run P w = .ok .skip w')
    (hK : wpListIn F nF P ops Q rest (a.put o.dst undef) w') : wpListIn F nF P ops Q (o :: rest) a w := by
  refine wpListIn_plain hgd fun K hK' => ?_
  unfold Oper.wpIn
  refine ⟨by simp [hab], ?_⟩
  rw [Oper.semAt_plain F _ _ hnd, hrun]
  exact hK' _ _ hK
theorem wpListIn_load_mid (hgd : o.guard = none) (ty : TypeId) (x : Operand) (ho : o.op = .load ty x) (b k : Nat) (hx : a.eval x = .pointer (some ⟨b, k, none⟩)) (cs : List Value) (d : TypeDesc) (hc : w.rangeAt b k cs)
    (hu : P.underlying ty = some d) (hd : d.isRow = true) (hi : (P.info? ty).map (·.size) = some cs.length) (h : wpListIn F nF P ops Q rest (a.put o.dst (.agg cs.toArray)) w) : wpListIn F nF P ops Q (o :: rest) a w :=
  wpListIn_value hgd (by simp [Oper.about, ho]) (by rw [ho]; intro c hc'; cases hc') _ (by
    unfold execOp
    simp only [ho, hx, Instr.loadAt, Instr.sureAddr, Sem.run_bind, Sem.run_pure, Result.andThen_ok, run_loadVar_mid w b k ty cs d hc hu hd hi]) h
theorem wpListIn_store_mid (hgd : o.guard = none) (ty : TypeId) (x y : Operand) (ho : o.op = .store ty x y) (b k : Nat) (cells : Array Value) (hx : a.eval x = .pointer (some ⟨b, k, none⟩)) (hy : a.eval y = .agg cells)
    (ht : w.there b k cells.size) (hi : (P.info? ty).map (·.size) = some cells.size) (h1 : cells.all (·.oneCell') = true) (h : wpListIn F nF P ops Q rest (a.put o.dst undef) (w.setCells b k cells.toList)) : wpListIn F nF P ops Q (o :: rest) a w :=
  wpListIn_skip hgd (by simp [Oper.about, ho]) (by rw [ho]; intro c hc'; cases hc') (by
    unfold execOp
    simp only [ho, hx, hy, Instr.storeAt, Instr.sureAddr, Sem.run_bind, Sem.run_pure, Result.andThen_ok, run_storeVar_mid w b k ty cells ht hi h1]) h
theorem wpListIn_alloc_row (hgd : o.guard = none) (t : TypeId) (hop : o.op = .alloc t) (z : Array Value) (hz : (P.info? t).map (·.zero) = some (some (.agg z)))
    (hK : wpListIn F nF P ops Q rest (a.put o.dst (.pointer (some ⟨w.heap.size, 0, none⟩))) (w.alloc (.cells z t))) : wpListIn F nF P ops Q (o :: rest) a w :=
  wpListIn_value hgd (by simp [Oper.about, hop]) (by rw [hop]; intro c hc'; cases hc') _ (by
    simp [execOp, hop, Instr.alloc, run_zeroRow hz, newVar, newRow, Result.andThen, Value.cells]) hK
theorem wpListIn_index_cell (hgd : o.guard = none) (t : TypeId) (x ix : Operand) (hop : o.op = .index t x ix) (cs : Array Value) (hx : a.eval x = .agg cs) (k : Nat) (hi : a.eval ix = .int .i64 (k : Int)) (n e : Nat) (ht : P.underlying t = some (.array n e)) (d : IntKind) (he : P.underlying e = some (.int d)) (hs : (P.info? e).map (·.size) = some 1) (hk : k < n) (v : Value) (hv : cs[k]? = some v)
    (hK : wpListIn F nF P ops Q rest (a.put o.dst v) w) : wpListIn F nF P ops Q (o :: rest) a w :=
  wpListIn_value hgd (by simp [Oper.about, hop]) (by rw [hop]; intro c hc'; cases hc') _ (by
    cases hq : P.info? e with
    | none => simp [hq] at hs
    | some i =>
      have hsz : i.size = 1 := by simpa [hq] using hs
      simp [execOp, hop, hx, hi, Instr.index, asIntOf, run_underlying ht, run_underlying he, part, isAgg, sizeOf, typeInfo, hq, hsz, hv, Result.andThen, hk]) hK
end
end Go.Proofs.Ytfligkncdlocaaa
