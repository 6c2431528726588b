/- Cells and tables of layer 47, and lists of digests: values, in memory, built, compared. Digests and cells compared. Appending a digest to a list of one's own, with the block told; an operation of one value. -/
import Derived.Test.YtebgopdmeghmhaaGreatRowsL
import Derived.Test.YtebgopdmeghmhaaGreatLazyIn
namespace Go.Proofs.YtebgopdmeghmhaaGreat
open Go.RowKit

structure Cl where
  n : Int
  k : List UInt8
  s : List UInt8
def Cl.ok (c : Cl) : Prop := c.k.length = 32 ∧ c.s.length = 32
def Cl.cells (c : Cl) : List Value := .int .i64 c.n :: (bytesV c.k ++ bytesV c.s)
def Cl.V (c : Cl) : Value := .agg c.cells.toArray
def zeroD : List UInt8 := List.replicate 32 0
def Cl.zero : Cl := ⟨0, zeroD, zeroD⟩
theorem Cl.len {c : Cl} (h : c.ok) : c.cells.length = 65 := by simp [Cl.cells, bytesV, h.1, h.2]
theorem Cl.zero_ok : Cl.zero.ok := ⟨rfl, rfl⟩
theorem Cl.one (c : Cl) : c.cells.toArray.all (·.oneCell') = true := all_oneCell_toArray (fun v hv => by
  rcases List.mem_cons.1 hv with rfl | hv
  · rfl
  · rcases List.mem_append.1 hv with hv | hv <;> exact bytesV_one _ v hv)
def tabC (t : List Cl) : List (List Value) := t.map Cl.cells
def digC (l : List (List UInt8)) : List (List Value) := l.map bytesV
def Tok (t : List Cl) : Prop := ∀ c ∈ t, c.ok
def Dok (l : List (List UInt8)) : Prop := ∀ d ∈ l, d.length = 32
theorem tabC_len {t : List Cl} (h : Tok t) : ∀ x ∈ tabC t, x.length = 65 := by
  intro x hx
  obtain ⟨c, hc, rfl⟩ := List.mem_map.1 hx
  exact Cl.len (h c hc)
theorem digC_len {l : List (List UInt8)} (h : Dok l) : ∀ x ∈ digC l, x.length = 32 := by
  intro x hx
  obtain ⟨c, hc, rfl⟩ := List.mem_map.1 hx
  simp [bytesV, h c hc]
theorem tabC_size (t : List Cl) : (tabC t).length = t.length := by simp [tabC]
theorem digC_size (l : List (List UInt8)) : (digC l).length = l.length := by simp [digC]
/-- a table in blocks of S -/
def TabR (S : Nat → Prop) (w : World) (v : Value) (t : List Cl) : Prop := RowsR S w v (tabC t) ∧ Tok t
def DigR (S : Nat → Prop) (w : World) (v : Value) (l : List (List UInt8)) : Prop := RowsR S w v (digC l) ∧ Dok l
theorem TabR.below {S : Nat → Prop} {w w' : World} {v : Value} {t : List Cl} (h : TabR S w v t) (hb : Below w.heap.size w w') : TabR S w' v t := ⟨h.1.below hb, h.2⟩
theorem DigR.below {S : Nat → Prop} {w w' : World} {v : Value} {t : List (List UInt8)} (h : DigR S w v t) (hb : Below w.heap.size w w') : DigR S w' v t := ⟨h.1.below hb, h.2⟩
theorem TabR.mono {S T : Nat → Prop} {w : World} {v : Value} {t : List Cl} (h : TabR S w v t) (hT : ∀ b, S b → T b) : TabR T w v t := ⟨h.1.mono hT, h.2⟩
theorem DigR.mono {S T : Nat → Prop} {w : World} {v : Value} {t : List (List UInt8)} (h : DigR S w v t) (hT : ∀ b, S b → T b) : DigR T w v t := ⟨h.1.mono hT, h.2⟩
theorem TabR.same {S : Nat → Prop} {w w' : World} {v : Value} {t : List Cl} (h : TabR S w v t) (hb : Same S w w') : TabR S w' v t := ⟨h.1.same hb, h.2⟩
theorem DigR.same {S : Nat → Prop} {w w' : World} {v : Value} {t : List (List UInt8)} (h : DigR S w v t) (hb : Same S w w') : DigR S w' v t := ⟨h.1.same hb, h.2⟩
/-- what an index into a table meets -/
theorem TabR.at {S : Nat → Prop} {w : World} {v : Value} {t : List Cl} (h : TabR S w v t) {i : Nat} (hi : i < t.length) :
    ∃ b off c, v = .slice (some ⟨b, off, none⟩) t.length c ∧ t.length ≤ c ∧ c ≤ maxLen ∧ S b ∧ b < w.heap.size ∧ w.rangeAt b (off + i * 65) t[i].cells := by
  obtain ⟨⟨o, c, e, hs, hr⟩, hok⟩ := h
  rw [tabC_size] at e hs
  have hl : 0 < (tabC t).flatten.length := by rw [flat_len (tabC_len hok), tabC_size]; omega
  obtain ⟨b, off, rfl, hS, hb⟩ := hr.blk hl
  have hseg := hr.seg (tabC_len hok) (i := i) (by rw [tabC_size]; exact hi)
  refine ⟨b, off, c, e, ?_, ?_, hS, hb, by simpa [tabC] using hseg⟩
  · rcases hs with ⟨h, _⟩ | ⟨_, _, h1, _⟩
    · cases h
    · exact h1
  · rcases hs with ⟨h, _⟩ | ⟨_, _, _, h2⟩
    · cases h
    · exact h2
theorem DigR.at {S : Nat → Prop} {w : World} {v : Value} {t : List (List UInt8)} (h : DigR S w v t) {i : Nat} (hi : i < t.length) :
    ∃ b off c, v = .slice (some ⟨b, off, none⟩) t.length c ∧ t.length ≤ c ∧ c ≤ maxLen ∧ S b ∧ b < w.heap.size ∧ w.rangeAt b (off + i * 32) (bytesV t[i]) := by
  obtain ⟨⟨o, c, e, hs, hr⟩, hok⟩ := h
  rw [digC_size] at e hs
  have hl : 0 < (digC t).flatten.length := by rw [flat_len (digC_len hok), digC_size]; omega
  obtain ⟨b, off, rfl, hS, hb⟩ := hr.blk hl
  have hseg := hr.seg (digC_len hok) (i := i) (by rw [digC_size]; exact hi)
  refine ⟨b, off, c, e, ?_, ?_, hS, hb, by simpa [digC] using hseg⟩
  · rcases hs with ⟨h, _⟩ | ⟨_, _, h1, _⟩
    · cases h
    · exact h1
  · rcases hs with ⟨h, _⟩ | ⟨_, _, _, h2⟩
    · cases h
    · exact h2
theorem Cl.count_at {w : World} {b o : Nat} {c : Cl} (h : w.rangeAt b o c.cells) : w.cell? ⟨b, o, none⟩ = some (.int .i64 c.n) := by
  have := h 0 (.int .i64 c.n) rfl
  simpa using this
theorem Cl.keys_at {w : World} {b o : Nat} {c : Cl} (hc : c.ok) (h : w.rangeAt b o c.cells) : w.rangeAt b (o + 1) (bytesV c.k) := by
  have := rangeAt_sub h 1 32
  have e : (c.cells.drop 1).take 32 = bytesV c.k := by
    show ((bytesV c.k ++ bytesV c.s)).take 32 = _
    rw [List.take_append_of_le_length (by simp [bytesV, hc.1]), List.take_of_length_le (by simp [bytesV, hc.1])]
  rwa [e] at this
theorem Cl.sums_at {w : World} {b o : Nat} {c : Cl} (hc : c.ok) (h : w.rangeAt b o c.cells) : w.rangeAt b (o + 33) (bytesV c.s) := by
  have := rangeAt_sub h 33 32
  have e : (c.cells.drop 33).take 32 = bytesV c.s := by
    show ((bytesV c.k ++ bytesV c.s).drop 32).take 32 = _
    rw [List.drop_append_of_le_length (by simp [bytesV, hc.1]), List.drop_eq_nil_of_le (by simp [bytesV, hc.1]), List.nil_append, List.take_of_length_le (by simp [bytesV, hc.2])]
  rwa [e] at this

/-! the types -/
theorem sizeCl : (Tryz.prog.info? 67).map (·.size) = some 65 := by kernel_rfl
theorem zeroCl : (Tryz.prog.info? 67).map (·.zero) = some (some (.agg (#[.int .i64 0] ++ Array.replicate 64 (.int .u8 0)))) := by kernel_rfl
theorem zeroCl' : (#[Value.int .i64 0] ++ Array.replicate 64 (.int .u8 0)) = Cl.zero.cells.toArray := by kernel_rfl
theorem infoCl : (Tryz.prog.info? 67).map (fun i => (i.zero, i.size, i.bytes)) = some (some (.agg (#[.int .i64 0] ++ Array.replicate 64 (.int .u8 0))), 65, 72) := by kernel_rfl
theorem infoDg : (Tryz.prog.info? 39).map (fun i => (i.zero, i.size, i.bytes)) = some (some (.agg (Array.replicate 32 (.int .u8 0))), 32, 32) := by kernel_rfl
theorem placesCl : ∃ fs, Tryz.prog.underlying 67 = some (.struct fs) ∧ (fs.toList.mapM fun f => (Tryz.prog.info? f.type).map fun i => (f.offset, i.size)) = some [(0, 1), (1, 32), (33, 32)] := ⟨_, Tryz.underlying67, by kernel_rfl⟩
theorem cl_fill (n : Int) (k s : List UInt8) (hk : k.length = 32) (hs : s.length = 32) :
    Instr.fill (([(0, 1), (1, 32), (33, 32)] : List (Nat × Nat)).toArray[·]?) (Cl.zero.cells.toArray) [(0, .int .i64 n), (1, dgV k), (2, dgV s)] = some (Cl.cells ⟨n, k, s⟩).toArray := by
  have hkv : (bytesV k).length = 32 := by rw [bytesV_len, hk]
  have hsv : (bytesV s).length = 32 := by rw [bytesV_len, hs]
  have hz : (bytesV zeroD).length = 32 := by rw [bytesV_len]; rfl
  have e0 : Cl.zero.cells = [] ++ [Value.int .i64 0] ++ (bytesV zeroD ++ bytesV zeroD) := rfl
  have e1 : ([] ++ [Value.int .i64 n] ++ (bytesV zeroD ++ bytesV zeroD)) = [Value.int .i64 n] ++ bytesV zeroD ++ bytesV zeroD := by simp
  have e2 : [Value.int .i64 n] ++ bytesV k ++ bytesV zeroD = ([Value.int .i64 n] ++ bytesV k) ++ bytesV zeroD ++ [] := by simp
  rw [e0, fill_step [] [Value.int .i64 0] [Value.int .i64 n] (bytesV zeroD ++ bytesV zeroD) rfl rfl rfl, e1,
    fill_step [Value.int .i64 n] (bytesV zeroD) (bytesV k) (bytesV zeroD) (by rw [hz]; rfl) rfl (by rw [hz, hkv]), e2,
    fill_step ([Value.int .i64 n] ++ bytesV k) (bytesV zeroD) (bytesV s) [] (by rw [hz, List.length_append, hkv]; rfl) rfl (by rw [hz, hsv])]
  rw [Instr.fill]
  simp [Cl.cells]
theorem run_buildCl (n : Int) (k s : List UInt8) (hk : k.length = 32) (hs : s.length = 32) (w : World) :
    (Instr.build 67 #[(0, .int .i64 n), (1, dgV k), (2, dgV s)]).run Tryz.prog w = .ok (Cl.V ⟨n, k, s⟩) w := by
  refine run_build w _ _ _ ?_
  have hz := zeroCl
  rw [zeroCl'] at hz
  unfold Program.built
  cases hi : Tryz.prog.info? 67 with
  | none => rw [hi] at hz; cases hz
  | some it =>
    rw [hi] at hz
    have hz' : it.zero = some (.agg Cl.zero.cells.toArray) := by simpa using hz
    obtain ⟨fs, hu, hp⟩ := placesCl
    simp only [hu, hz', hp]
    exact cl_fill n k s hk hs
end Go.Proofs.YtebgopdmeghmhaaGreat
namespace Go.Proofs.YtebgopdmeghmhaaGreat
open Go.RowKit

theorem isAgg_u8 (w : World) : (isAgg 5).run Tryz.prog w = .ok false w := by simp [isAgg, run_underlying Tryz.underlying5]
theorem isAgg_int (w : World) : (isAgg 3).run Tryz.prog w = .ok false w := by simp [isAgg, run_underlying Tryz.underlying3]
theorem isAgg_dg (w : World) : (isAgg 39).run Tryz.prog w = .ok true w := by simp [isAgg, run_underlying Tryz.underlying39]
theorem run_part_u8 (w : World) (a : List UInt8) (i : Nat) (hi : i < a.length) : (part 5 (bytesV a).toArray i).run Tryz.prog w = .ok (.int .u8 (a[i].toNat : Int)) w := by
  simp [part, bytesV_get hi, Result.andThen]
theorem run_eqItems_u8 (d : Nat) (w : World) (a b : List UInt8) (h : a.length = b.length) : ∀ (is : List Nat), (∀ i ∈ is, i < a.length) →
    (Op.eqItems (d + 1) 5 1 (bytesV a).toArray (bytesV b).toArray is).run Tryz.prog w = .ok (is.all fun i => a[i]? == b[i]?) w
  | [], _ => by simp [Op.eqItems]
  | i :: is, hi => by
    have h1 : i < a.length := hi i (by simp)
    have h2 : i < b.length := by omega
    have ih := run_eqItems_u8 d w a b h is (fun j hj => hi j (by simp [hj]))
    simp only [Op.eqItems, Sem.run_bind, Nat.mul_one, run_part_u8 w a i h1, run_part_u8 w b i h2, Result.andThen_ok, run_equalIn_int w d 5 .u8 .u8 _ _ Tryz.underlying5]
    rw [List.all_cons, List.getElem?_eq_getElem h1, List.getElem?_eq_getElem h2]
    by_cases e : a[i] = b[i]
    · simp [e, ih]
    · have e' : ¬ ((a[i].toNat : Int) = (b[i].toNat : Int)) := fun h => e (UInt8.toNat_inj.1 (by omega))
      simp [e, e']
theorem range_all {a b : List UInt8} {n : Nat} (ha : a.length = n) (hb : b.length = n) : ((List.range n).all fun i : Nat => a[i]? == b[i]?) = decide (a = b) := by
  by_cases e : a = b
  · subst e; simp
  · rw [decide_eq_false e, List.all_eq_false]
    have : ∃ i : Nat, a[i]? ≠ b[i]? := by
      apply Classical.byContradiction
      intro hn
      exact e (List.ext_getElem? fun i => Classical.byContradiction fun h => hn ⟨i, h⟩)
    obtain ⟨i, hi⟩ := this
    refine ⟨i, ?_, by simpa using hi⟩
    rw [List.mem_range]
    rcases Nat.lt_or_ge i n with h | h
    · exact h
    · exact absurd (by rw [List.getElem?_eq_none (by omega), List.getElem?_eq_none (by omega)]) hi
theorem cells_u8 : Tryz.prog.cellsOf 5 = 1 := by kernel_rfl
theorem run_eqDg (d : Nat) (w : World) (a b : List UInt8) (ha : a.length = 32) (hb : b.length = 32) : (Op.equalIn (d + 2) 39 (dgV a) (dgV b)).run Tryz.prog w = .ok (decide (a = b)) w := by
  obtain ⟨i, hi, _⟩ := info_parts infoU8
  unfold dgV
  rw [run_equalIn_array w (d + 1) _ _ Tryz.underlying39 hi, cells_u8, run_eqItems_u8 d w a b (by rw [ha, hb]) _ (fun j hj => by rw [ha]; exact List.mem_range.1 hj), range_all ha hb]
theorem run_part_cl (w : World) (c : Cl) (hc : c.ok) : (part 3 c.cells.toArray 0).run Tryz.prog w = .ok (.int .i64 c.n) w ∧ (part 39 c.cells.toArray 1).run Tryz.prog w = .ok (dgV c.k) w ∧ (part 39 c.cells.toArray 33).run Tryz.prog w = .ok (dgV c.s) w := by
  obtain ⟨i, hi, _, hs, _⟩ := info_parts infoDg
  have hk : (bytesV c.k).length = 32 := by rw [bytesV_len, hc.1]
  have hs2 : (bytesV c.s).length = 32 := by rw [bytesV_len, hc.2]
  refine ⟨?_, ?_, ?_⟩
  · simp [part, Cl.cells, Result.andThen]
  · simp only [part, Sem.run_bind, isAgg_dg, Result.andThen_ok, if_true, sizeOf, typeInfo, Sem.run_pure, dgV]
    simp [hi, hs]
    simp only [Cl.cells, List.tail_cons]
    rw [List.take_append_of_le_length (by omega), List.take_of_length_le (by omega)]
  · simp only [part, Sem.run_bind, isAgg_dg, Result.andThen_ok, if_true, sizeOf, typeInfo, Sem.run_pure, dgV]
    simp [hi, hs]
    simp only [Cl.cells, List.drop_succ_cons]
    rw [List.drop_append_of_le_length (by omega), List.drop_eq_nil_of_le (by omega), List.nil_append, List.take_of_length_le (by omega)]
theorem eqFields_cons {P : Program} {d : Nat} {xs ys : Array Value} {f : Field} {fs : List Field} {w : World} {va vb : Value} {r : Bool} (hn : f.name ≠ "_") (pa : (part f.type xs f.offset).run P w = .ok va w) (pb : (part f.type ys f.offset).run P w = .ok vb w) (hr : (Op.equalIn d f.type va vb).run P w = .ok r w) :
    (Op.eqFields d xs ys (f :: fs)).run P w = if r = true then (Op.eqFields d xs ys fs).run P w else .ok false w := by
  rw [Op.eqFields, if_pos hn]
  simp only [Sem.run_bind, pa, pb, hr, Result.andThen_ok]
  cases r <;> rfl
theorem fieldsCl : (Tryz.prog.fieldsOf 67).toList.map (fun f => (f.name != "_", f.type, f.offset)) = [(true, 3, 0), (true, 39, 1), (true, 39, 33)] := by kernel_rfl
theorem structCl : Tryz.prog.underlying 67 = some (.struct (Tryz.prog.fieldsOf 67)) := by kernel_rfl
theorem stoodCl : Tryz.prog.stoodInHeld 67 = false := by kernel_rfl
theorem guardCl : Tryz.prog.eqGuardType Tryz.prog.depth 67 = false := by kernel_rfl
theorem guardDg : Tryz.prog.eqGuardType Tryz.prog.depth 39 = false := by kernel_rfl
def Cl.eqB (a b : Cl) : Bool := decide (a.n = b.n) && (decide (a.k = b.k) && decide (a.s = b.s))
theorem run_eqCl (d : Nat) (w : World) (a b : Cl) (ha : a.ok) (hb : b.ok) : (Op.equalIn (d + 3) 67 a.V b.V).run Tryz.prog w = .ok (a.eqB b) w := by
  unfold Cl.V
  rw [run_equalIn_struct w (d + 2) _ _ _ structCl stoodCl]
  have hf := fieldsCl
  obtain ⟨a1, a2, a3⟩ := run_part_cl w a ha
  obtain ⟨b1, b2, b3⟩ := run_part_cl w b hb
  generalize (Tryz.prog.fieldsOf 67).toList = fs at *
  have hl : fs.length = 3 := by simpa using congrArg List.length hf
  match fs, hl with
  | [f, g, h], _ =>
    simp only [List.map_cons, List.map_nil, List.cons.injEq, Prod.mk.injEq, bne_iff_ne, and_true] at hf
    obtain ⟨⟨n1, t1, o1⟩, ⟨n2, t2, o2⟩, ⟨n3, t3, o3⟩⟩ := hf
    have k1 := run_eqDg d w _ _ ha.1 hb.1
    have k2 := run_eqDg d w _ _ ha.2 hb.2
    have k0 := run_equalIn_int w (d + 1) 3 .i64 .i64 a.n b.n Tryz.underlying3
    rw [eqFields_cons n1 (by rw [t1, o1]; exact a1) (by rw [t1, o1]; exact b1) (by rw [t1]; exact k0), eqFields_cons n2 (by rw [t2, o2]; exact a2) (by rw [t2, o2]; exact b2) (by rw [t2]; exact k1),
      eqFields_cons n3 (by rw [t3, o3]; exact a3) (by rw [t3, o3]; exact b3) (by rw [t3]; exact k2)]
    have h0 : (Op.eqFields (d + 2) a.cells.toArray b.cells.toArray []).run Tryz.prog w = .ok true w := rfl
    rw [h0]
    unfold Cl.eqB
    rw [show (a.n == b.n) = decide (a.n = b.n) from rfl]
    cases decide (a.n = b.n) <;> cases decide (a.k = b.k) <;> cases decide (a.s = b.s) <;> rfl
theorem Cl.eqB_iff (a b : Cl) : a.eqB b = true ↔ a = b := by
  cases a; cases b; simp [Cl.eqB]
/-! the operations -/
section
variable {a : Act} {o : Oper} {w : World}
theorem run_neq_dg (r : TypeId) (x y : Operand) (ho : o.op = .binOp .neq 39 x y r) (p q : List UInt8) (hp : p.length = 32) (hq : q.length = 32) (hx : a.eval x = dgV p) (hy : a.eval y = dgV q) : (execOp a.eval o).run Tryz.prog w = .ok (.value (.bool (!decide (p = q)))) w := by
  have e := run_eqDg 9998 w p q hp hq
  unfold execOp
  rw [ho]
  unfold dgV at hx hy e
  simp only [hx, hy, Sem.run_bind, run_eqGuard_agg w .neq 39 x y _ _ guardDg, Result.andThen_ok, run_neq_struct, e, Sem.run_pure]
theorem run_neq_cl (r : TypeId) (x y : Operand) (ho : o.op = .binOp .neq 67 x y r) (p q : Cl) (hp : p.ok) (hq : q.ok) (hx : a.eval x = p.V) (hy : a.eval y = q.V) : (execOp a.eval o).run Tryz.prog w = .ok (.value (.bool (!p.eqB q))) w := by
  have e := run_eqCl 9997 w p q hp hq
  unfold execOp
  rw [ho]
  unfold Cl.V at hx hy e
  simp only [hx, hy, Sem.run_bind, run_eqGuard_agg w .neq 67 x y _ _ guardCl, Result.andThen_ok, run_neq_struct, e, Sem.run_pure]
end
end Go.Proofs.YtebgopdmeghmhaaGreat
namespace Go.Proofs.YtebgopdmeghmhaaGreat
open Go.RowKit
section
variable {P : Program} {ops : Array Oper} {rest : List Oper} {o : Oper} {a : Act} {Q : Exit → Act → World → Prop} {w : World}
theorem wpList_value (hgd : o.guard = none) (v : Value) (hr : (execOp a.eval o).run P w = .ok (.value v) w) (hK : wpList P ops Q rest (a.put o.dst v) w) : wpList P ops Q (o :: rest) a w := by
  refine wpList_plain hgd fun K hK' => ?_
  unfold Oper.wp
  rw [hr]
  exact hK' _ _ hK
theorem run_append_ownB (w : World) (base : Nat) (t ty e : TypeId) (i : TypeInfo) (z : Value) (size bytes : Nat) (ht : P.underlying t = some (.slice e)) (hi : P.info? e = some i) (hz : i.zero = some z)
    (hsize : i.size = size) (hby : i.bytes = bytes) (hzs : z.cells.size = size) (hsz : 0 < size)
    (v : Value) (n : Nat) (xs : List Value) (hown : w.ownsRow base e size v n xs)
    (a : Addr) (m c : Nat) (hm : 0 < m) (news : List Value) (hl : news.length = m * size) (hnews : ∀ j u, news[j]? = some u → w.cell? (a.add j) = some u) (h1 : ∀ u ∈ news, u.oneCell' = true)
    (h63 : n + m ≤ maxLen) (hbytes : (n + m) * bytes ≤ 140737488355328) (hbase : base ≤ w.heap.size) :
    ∃ v' w', (Builtin.append_ #[t, t] ty #[v, .slice (some a) m c]).run P w = .ok v' w' ∧ w'.ownsRow base e size v' (n + m) (xs ++ news) ∧ w.grownBy w' v.ownBlock ∧
      (∀ k, v'.ownBlock = some k → v.ownBlock = some k ∨ k = w.heap.size) := by
  obtain ⟨v', w', hr, h2, h3, _⟩ := run_append_own (P := P) w base t ty e i z size bytes ht hi hz hsize hby hzs hsz v n xs hown a m c news hl hnews h1 h63 hbytes hbase
  refine ⟨v', w', hr, h2, h3, ?_⟩
  subst hsize
  subst hby
  have hsmall : n + m ≤ 9223372036854775807 := by simp only [maxLen] at h63; omega
  rcases hown.2 with ⟨rfl, rfl⟩ | ⟨g, cap, cur, rfl, hbg, hg, hnc, hcm, hcs, htake⟩
  · have hr2 := run_append_nil (P := P) w t ty e i z ht hi hz a m c news hl hnews hm (by omega) (by have hb := hbytes; simp only [Nat.zero_add] at hb; omega)
    rw [hr2] at hr
    injection hr with e1 e2
    subst e1
    intro k hk
    exact .inr (Option.some.inj hk).symm
  · by_cases hroom : n + m ≤ cap
    · have hfit : n * i.size + news.length ≤ cur.size := by rw [hl, hcs, ← Nat.add_mul]; exact Nat.mul_le_mul_right _ hroom
      have hr2 := run_append_room (P := P) w t ty e i ht hi g n cap cur hg a m c news hl hnews h1 hroom hfit
      rw [hr2] at hr
      injection hr with e1 e2
      subst e1
      exact fun k hk => .inl hk
    · have holds : ∀ j u, xs[j]? = some u → w.cell? ((⟨g, 0, none⟩ : Addr).add j) = some u := hown.cells (g := g) rfl
      have hr2 := run_append_grow (P := P) w t ty e i z ht hi hz ⟨g, 0, none⟩ n cap xs hown.1 holds a m c news hl hnews (by omega) (by omega) (growslice_fits (by omega) hbytes)
      rw [hr2] at hr
      injection hr with e1 e2
      subst e1
      intro k hk
      exact .inr (Option.some.inj hk).symm
end
section
variable {ops : Array Oper} {rest : List Oper} {o : Oper} {a : Act} {Q : Exit → Act → World → Prop} {w : World}
theorem digC_snoc (l : List (List UInt8)) (d : List UInt8) : (digC (l ++ [d])).flatten = (digC l).flatten ++ bytesV d := by simp [digC]
/-- 'append(s, T{d}...)' of a digest -/
theorem wpList_appD (hgd : o.guard = none) (s x : Operand) (ho : o.op = .call { callee := .builtin .append, args := #[s, x], argTypes := #[22, 22] })
    (base : Nat) (v : Value) (l : List (List UInt8)) (hs : a.eval s = v) (hown : w.ownsRow base 39 32 v l.length (digC l).flatten)
    (b : Nat) (d : List UInt8) (hd : d.length = 32) (hx : a.eval x = .slice (some ⟨b, 0, none⟩) 1 1) (hb : Bx w b (bytesV d).toArray 39) (hbig : l.length ≤ 1000000) (hbase : base ≤ w.heap.size)
    (h : ∀ v' w', w'.ownsRow base 39 32 v' (l ++ [d]).length (digC (l ++ [d])).flatten → w.grownBy w' v.ownBlock → (∀ k, v'.ownBlock = some k → v.ownBlock = some k ∨ k = w.heap.size) → wpList Tryz.prog ops Q rest (a.put o.dst v') w') : wpList Tryz.prog ops Q (o :: rest) a w := by
  refine wpList_plain hgd fun K hK => ?_
  obtain ⟨ic, hic, hz, hsz, hby⟩ := info_parts infoDg
  obtain ⟨v', w', hr, h2, h3, h4⟩ := run_append_ownB (P := Tryz.prog) w base 22 o.type 39 ic _ 32 32 Tryz.underlying22 hic hz hsz hby (by simp [Value.cells]) (by decide) v l.length _ hown ⟨b, 0, none⟩ 1 1 (by decide) (bytesV d) (by rw [bytesV_len, hd]) (by
      intro j u hu
      have := hb.range j u (by simpa using hu)
      rw [Addr.add_mid]; exact this) (bytesV_one d) (by unfold maxLen; omega) (by omega) hbase
  unfold Oper.wp execOp
  simp only [ho, resolve, invoke, builtin, Sem.run_bind, Sem.run_pure, Result.andThen_ok, List.map_toArray, List.map_cons, List.map_nil, hs, hx, hr]
  refine hK _ _ (h v' w' ?_ h3 h4)
  rw [digC_snoc, List.length_append]
  exact h2
end
theorem DigR.owns {w : World} {base : Nat} {v : Value} {l : List (List UInt8)} (h : w.ownsRow base 39 32 v l.length (digC l).flatten) (hok : Dok l) : DigR (fun b => base ≤ b ∧ b < w.heap.size) w v l := ⟨RowsR.owns (by rw [digC_size]; exact h), hok⟩
theorem DigR.nil0 (S : Nat → Prop) (w : World) : DigR S w (.slice none 0 0) [] := ⟨RowsR.nil S w, fun _ h => by cases h⟩
end Go.Proofs.YtebgopdmeghmhaaGreat
