/- Arrays made and built, kept whole: laws that do not unroll them. No function of the program is named here. -/
import Derived.Test.YtfligkncdlocaaaDig
import Derived.Laws.IdiomStrings
namespace Go.Proofs.Ytfligkncdlocaaa
open Go.RowKit

section
variable {P : Program} {ops : Array Oper} {rest : List Oper} {o : Oper} {a : Act} {Q : Exit → Act → World → Prop} {w : World}
theorem run_zeroRow {t : TypeId} {z : Array Value} (hz : (P.info? t).map (·.zero) = some (some (.agg z))) : (zeroValue t).run P w = .ok (.agg z) w := by
  cases hq : P.info? t with
  | none => simp [hq] at hz
  | some i =>
    have : i.zero = some (.agg z) := by simpa [hq] using hz
    simp [zeroValue, typeInfo, hq, this]
/-- 'var x T', T an array -/
theorem wpList_alloc_row (hgd : o.guard = none) (t : TypeId) (hop : o.op = .alloc t) (z : Array Value) (hz : (P.info? t).map (·.zero) = some (some (.agg z)))
    (hK : wpList P ops Q rest (a.put o.dst (.pointer (some ⟨w.heap.size, 0, none⟩))) (w.alloc (.cells z t))) : wpList P ops Q (o :: rest) a w := by
  refine wpList_plain hgd fun K hK' => ?_
  unfold Oper.wp
  simp [execOp, hop, Instr.alloc, run_zeroRow hz, newVar, newRow, Result.andThen, Value.cells]
  exact hK' _ _ hK
theorem wpList_build_zero (hgd : o.guard = none) (t : TypeId) (hop : o.op = .build t #[]) (n : Nat) (e : TypeId) (ht : P.underlying t = some (.array n e)) (z : Array Value) (hz : (P.info? t).map (·.zero) = some (some (.agg z))) (he : ((P.info? e).map (·.size)).isSome = true)
    (hK : wpList P ops Q rest (a.put o.dst (.agg z)) w) : wpList P ops Q (o :: rest) a w := by
  refine wpList_plain hgd fun K hK' => ?_
  unfold Oper.wp
  cases hq : P.info? e with
  | none => simp [hq] at he
  | some i =>
    simp [execOp, hop, Instr.build, run_zeroRow hz, Result.andThen, run_underlying ht, sizeOf, typeInfo, hq, Instr.fill, Value.cells]
    exact hK' _ _ hK
end
section
variable {P : Program} {ops : Array Oper} {rest : List Oper} {o : Oper} {a : Act} {Q : Exit → Act → World → Prop} {w : World}
/-- '[]byte(s)' -/
theorem wpList_bytes (hgd : o.guard = none) (x : Operand) (src dst e : TypeId) (hop : o.op = .convert src dst x) (hs : P.underlying src = some .string) (hd : P.underlying dst = some (.slice e)) (he : P.underlying e = some (.int .u8)) (s : ByteArray) (hx : a.eval x = .string s) (hm : s.size ≤ maxLen)
    (hK : ∀ w' c, SlW (some ⟨w.heap.size, 0, none⟩) s.size c → RowAt (· = w.heap.size) w' (some ⟨w.heap.size, 0, none⟩) (bytesV s.data.toList) → Below w.heap.size w w' → w'.heap.size = w.heap.size + 1 → wpList P ops Q rest (a.put o.dst (.slice (some ⟨w.heap.size, 0, none⟩) s.size c)) w') : wpList P ops Q (o :: rest) a w := by
  refine wpList_plain hgd fun K hK' => ?_
  unfold Oper.wp
  simp only [execOp, hop, hx]
  rw [Sem.run_bind, run_bytes_of_string w src dst e s hs hd he]
  refine hK' _ _ (hK _ _ (.inr ⟨_, rfl, grownCap_ge w _ _ _, grownCap_le_maxLen w _ _ _ hm⟩) ?_ (((Below.refl _ _).drew).alloc (Nat.le_refl _) _) (by simp))
  intro j hj
  have hj' : j < s.data.size := by simpa [bytesV] using hj
  refine ⟨w.heap.size, 0, rfl, ?_, rfl⟩
  have h := bytesRow_at s (grownCap w s.size 0 e) j hj'
  have hn : (w.drew.alloc (.cells (bytesRow s (grownCap w s.size 0 e)) e ((bytesRow s (grownCap w s.size 0 e)).size, (bytesRow s (grownCap w s.size 0 e)).size + 1))).heap[w.heap.size]? = some (.cells (bytesRow s (grownCap w s.size 0 e)) e ((bytesRow s (grownCap w s.size 0 e)).size, (bytesRow s (grownCap w s.size 0 e)).size + 1)) := heap_alloc_new w.drew _
  rw [cell_of_row _ _ _ _ _ _ hn, Nat.zero_add, h]
  simp [bytesV]
end
section
variable {P : Program} {ops : Array Oper} {rest : List Oper} {o : Oper} {a : Act} {Q : Exit → Act → World → Prop} {w : World}
/-- 'a[i]' of an array by value, its cells whole numbers -/
theorem wpList_index_cell (hgd : o.guard = none) (t : TypeId) (x ix : Operand) (hop : o.op = .index t x ix) (cs : Array Value) (hx : a.eval x = .agg cs) (k : Nat) (hi : a.eval ix = .int .i64 (k : Int)) (n e : Nat) (ht : P.underlying t = some (.array n e)) (d : IntKind) (he : P.underlying e = some (.int d)) (hs : (P.info? e).map (·.size) = some 1) (hk : k < n) (v : Value) (hv : cs[k]? = some v)
    (hK : wpList P ops Q rest (a.put o.dst v) w) : wpList P ops Q (o :: rest) a w := by
  refine wpList_plain hgd fun K hK' => ?_
  unfold Oper.wp
  cases hq : P.info? e with
  | none => simp [hq] at hs
  | some i =>
    have hsz : i.size = 1 := by simpa [hq] using hs
    simp [execOp, hop, hx, hi, Instr.index, asIntOf, run_underlying ht, run_underlying he, part, isAgg, sizeOf, typeInfo, hq, hsz, hv, Result.andThen, hk]
    exact hK' _ _ hK
end
/-- the annotation of a call that answers one value -/
def annK (v : Value) : Ann := ⟨fun _ => v, fun _ _ => True⟩
theorem lz_const {P : Program} {f : FuncId} {args : Array Value} {v : Value} {W : World} (h : Calls P f args W fun e w' => e = .returned v ∧ W = w') : Calls P f args W fun e w' => ∃ u, e = .returned u ∧ lzPost (annK v) W u w' :=
  h.mono fun _ _ ⟨he, hw⟩ => ⟨v, he, hw ▸ Below.refl _ _, fun _ => undef, rfl, fun _ _ => trivial⟩
theorem lz_constB {P : Program} {f : FuncId} {args : Array Value} {v : Value} {W : World} (h : Calls P f args W fun e w' => e = .returned v ∧ Below W.heap.size W w') : Calls P f args W fun e w' => ∃ u, e = .returned u ∧ lzPost (annK v) W u w' :=
  h.mono fun _ _ ⟨he, hw⟩ => ⟨v, he, hw, fun _ => undef, rfl, fun _ _ => trivial⟩
end Go.Proofs.Ytfligkncdlocaaa
