/- Digests and cells compared. -/
import Derived.Test.YtfligkncdlocaaaTab
namespace Go.Proofs.Ytfligkncdlocaaa
open Go.RowKit

theorem isAgg_u8 (w : World) : (isAgg 5).run Try.prog w = .ok false w := by simp [isAgg, run_underlying Try.underlying5]
theorem isAgg_int (w : World) : (isAgg 3).run Try.prog w = .ok false w := by simp [isAgg, run_underlying Try.underlying3]
theorem isAgg_dg (w : World) : (isAgg 31).run Try.prog w = .ok true w := by simp [isAgg, run_underlying Try.underlying31]
theorem run_part_u8 (w : World) (a : List UInt8) (i : Nat) (hi : i < a.length) : (part 5 (bytesV a).toArray i).run Try.prog w = .ok (.int .u8 (a[i].toNat : Int)) w := by
  simp [part, bytesV_get hi, Result.andThen]
theorem run_eqItems_u8 (d : Nat) (w : World) (a b : List UInt8) (h : a.length = b.length) : ∀ (is : List Nat), (∀ i ∈ is, i < a.length) →
    (Op.eqItems (d + 1) 5 1 (bytesV a).toArray (bytesV b).toArray is).run Try.prog w = .ok (is.all fun i => a[i]? == b[i]?) w
  | [], _ => by simp [Op.eqItems]
  | i :: is, hi => by
    have h1 : i < a.length := hi i (by simp)
    have h2 : i < b.length := by omega
    have ih := run_eqItems_u8 d w a b h is (fun j hj => hi j (by simp [hj]))
    simp only [Op.eqItems, Sem.run_bind, Nat.mul_one, run_part_u8 w a i h1, run_part_u8 w b i h2, Result.andThen_ok, run_equalIn_int w d 5 .u8 .u8 _ _ Try.underlying5]
    rw [List.all_cons, List.getElem?_eq_getElem h1, List.getElem?_eq_getElem h2]
    by_cases e : a[i] = b[i]
    · simp [e, ih]
    · have e' : ¬ ((a[i].toNat : Int) = (b[i].toNat : Int)) := fun h => e (UInt8.toNat_inj.1 (by omega))
      simp [e, e']
theorem range_all {a b : List UInt8} {n : Nat} (ha : a.length = n) (hb : b.length = n) : ((List.range n).all fun i : Nat => a[i]? == b[i]?) = decide (a = b) := by
  by_cases e : a = b
  · subst e; simp
  · rw [decide_eq_false e, List.all_eq_false]
    have : ∃ i : Nat, a[i]? ≠ b[i]? := by
      apply Classical.byContradiction
      intro hn
      exact e (List.ext_getElem? fun i => Classical.byContradiction fun h => hn ⟨i, h⟩)
    obtain ⟨i, hi⟩ := this
    refine ⟨i, ?_, by simpa using hi⟩
    rw [List.mem_range]
    rcases Nat.lt_or_ge i n with h | h
    · exact h
    · exact absurd (by rw [List.getElem?_eq_none (by omega), List.getElem?_eq_none (by omega)]) hi
theorem cells_u8 : Try.prog.cellsOf 5 = 1 := by kernel_rfl
theorem run_eqDg (d : Nat) (w : World) (a b : List UInt8) (ha : a.length = 32) (hb : b.length = 32) : (Op.equalIn (d + 2) 31 (dgV a) (dgV b)).run Try.prog w = .ok (decide (a = b)) w := by
  obtain ⟨i, hi, _⟩ := info_parts infoU8
  unfold dgV
  rw [run_equalIn_array w (d + 1) _ _ Try.underlying31 hi, cells_u8, run_eqItems_u8 d w a b (by rw [ha, hb]) _ (fun j hj => by rw [ha]; exact List.mem_range.1 hj), range_all ha hb]
theorem run_part_cl (w : World) (c : Cl) (hc : c.ok) : (part 3 c.cells.toArray 0).run Try.prog w = .ok (.int .i64 c.n) w ∧ (part 31 c.cells.toArray 1).run Try.prog w = .ok (dgV c.k) w ∧ (part 31 c.cells.toArray 33).run Try.prog w = .ok (dgV c.s) w := by
  obtain ⟨i, hi, _, hs, _⟩ := info_parts infoDg
  have hk : (bytesV c.k).length = 32 := by rw [bytesV_len, hc.1]
  have hs2 : (bytesV c.s).length = 32 := by rw [bytesV_len, hc.2]
  refine ⟨?_, ?_, ?_⟩
  · simp [part, Cl.cells, Result.andThen]
  · simp only [part, Sem.run_bind, isAgg_dg, Result.andThen_ok, if_true, sizeOf, typeInfo, Sem.run_pure, dgV]
    simp [hi, hs]
    simp only [Cl.cells, List.tail_cons]
    rw [List.take_append_of_le_length (by omega), List.take_of_length_le (by omega)]
  · simp only [part, Sem.run_bind, isAgg_dg, Result.andThen_ok, if_true, sizeOf, typeInfo, Sem.run_pure, dgV]
    simp [hi, hs]
    simp only [Cl.cells, List.drop_succ_cons]
    rw [List.drop_append_of_le_length (by omega), List.drop_eq_nil_of_le (by omega), List.nil_append, List.take_of_length_le (by omega)]
theorem eqFields_cons {P : Program} {d : Nat} {xs ys : Array Value} {f : Field} {fs : List Field} {w : World} {va vb : Value} {r : Bool} (hn : f.name ≠ "_") (pa : (part f.type xs f.offset).run P w = .ok va w) (pb : (part f.type ys f.offset).run P w = .ok vb w) (hr : (Op.equalIn d f.type va vb).run P w = .ok r w) :
    (Op.eqFields d xs ys (f :: fs)).run P w = if r = true then (Op.eqFields d xs ys fs).run P w else .ok false w := by
  rw [Op.eqFields, if_pos hn]
  simp only [Sem.run_bind, pa, pb, hr, Result.andThen_ok]
  cases r <;> rfl
theorem fieldsCl : (Try.prog.fieldsOf 50).toList.map (fun f => (f.name != "_", f.type, f.offset)) = [(true, 3, 0), (true, 31, 1), (true, 31, 33)] := by kernel_rfl
theorem structCl : Try.prog.underlying 50 = some (.struct (Try.prog.fieldsOf 50)) := by kernel_rfl
theorem stoodCl : Try.prog.stoodInHeld 50 = false := by kernel_rfl
theorem guardCl : Try.prog.eqGuardType Try.prog.depth 50 = false := by kernel_rfl
theorem guardDg : Try.prog.eqGuardType Try.prog.depth 31 = false := by kernel_rfl
def Cl.eqB (a b : Cl) : Bool := decide (a.n = b.n) && (decide (a.k = b.k) && decide (a.s = b.s))
theorem run_eqCl (d : Nat) (w : World) (a b : Cl) (ha : a.ok) (hb : b.ok) : (Op.equalIn (d + 3) 50 a.V b.V).run Try.prog w = .ok (a.eqB b) w := by
  unfold Cl.V
  rw [run_equalIn_struct w (d + 2) _ _ _ structCl stoodCl]
  have hf := fieldsCl
  obtain ⟨a1, a2, a3⟩ := run_part_cl w a ha
  obtain ⟨b1, b2, b3⟩ := run_part_cl w b hb
  generalize (Try.prog.fieldsOf 50).toList = fs at *
  have hl : fs.length = 3 := by simpa using congrArg List.length hf
  match fs, hl with
  | [f, g, h], _ =>
    simp only [List.map_cons, List.map_nil, List.cons.injEq, Prod.mk.injEq, bne_iff_ne, and_true] at hf
    obtain ⟨⟨n1, t1, o1⟩, ⟨n2, t2, o2⟩, ⟨n3, t3, o3⟩⟩ := hf
    have k1 := run_eqDg d w _ _ ha.1 hb.1
    have k2 := run_eqDg d w _ _ ha.2 hb.2
    have k0 := run_equalIn_int w (d + 1) 3 .i64 .i64 a.n b.n Try.underlying3
    rw [eqFields_cons n1 (by rw [t1, o1]; exact a1) (by rw [t1, o1]; exact b1) (by rw [t1]; exact k0), eqFields_cons n2 (by rw [t2, o2]; exact a2) (by rw [t2, o2]; exact b2) (by rw [t2]; exact k1),
      eqFields_cons n3 (by rw [t3, o3]; exact a3) (by rw [t3, o3]; exact b3) (by rw [t3]; exact k2)]
    have h0 : (Op.eqFields (d + 2) a.cells.toArray b.cells.toArray []).run Try.prog w = .ok true w := rfl
    rw [h0]
    unfold Cl.eqB
    rw [show (a.n == b.n) = decide (a.n = b.n) from rfl]
    cases decide (a.n = b.n) <;> cases decide (a.k = b.k) <;> cases decide (a.s = b.s) <;> rfl
theorem Cl.eqB_iff (a b : Cl) : a.eqB b = true ↔ a = b := by
  cases a; cases b; simp [Cl.eqB]
/-! the operations -/
section
variable {a : Act} {o : Oper} {w : World}
theorem run_neq_dg (r : TypeId) (x y : Operand) (ho : o.op = .binOp .neq 31 x y r) (p q : List UInt8) (hp : p.length = 32) (hq : q.length = 32) (hx : a.eval x = dgV p) (hy : a.eval y = dgV q) : (execOp a.eval o).run Try.prog w = .ok (.value (.bool (!decide (p = q)))) w := by
  have e := run_eqDg 9998 w p q hp hq
  unfold execOp
  rw [ho]
  unfold dgV at hx hy e
  simp only [hx, hy, Sem.run_bind, run_eqGuard_agg w .neq 31 x y _ _ guardDg, Result.andThen_ok, run_neq_struct, e, Sem.run_pure]
theorem run_neq_cl (r : TypeId) (x y : Operand) (ho : o.op = .binOp .neq 50 x y r) (p q : Cl) (hp : p.ok) (hq : q.ok) (hx : a.eval x = p.V) (hy : a.eval y = q.V) : (execOp a.eval o).run Try.prog w = .ok (.value (.bool (!p.eqB q))) w := by
  have e := run_eqCl 9997 w p q hp hq
  unfold execOp
  rw [ho]
  unfold Cl.V at hx hy e
  simp only [hx, hy, Sem.run_bind, run_eqGuard_agg w .neq 50 x y _ _ guardCl, Result.andThen_ok, run_neq_struct, e, Sem.run_pure]
end
end Go.Proofs.Ytfligkncdlocaaa
