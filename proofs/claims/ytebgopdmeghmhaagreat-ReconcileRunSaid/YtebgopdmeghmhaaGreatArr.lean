/- Arrays made and built, kept whole: laws that do not unroll them. No function of the program is named here. A row of bytes that a call has made itself, frozen (if at all) behind its last cell: made by '[]byte(s)', grown byte by byte, inside a fence. No function of the program is named here. Arr's and the kit's laws on arrays, inside a fence. No function of the program is named here. -/
import Derived.Test.YtebgopdmeghmhaaGreatDig
import Derived.Laws.IdiomStrings
import Derived.Lib.FrozenHead
import Derived.OwnWalkIn
namespace Go.Proofs.YtebgopdmeghmhaaGreat
open Go.RowKit

section
variable {P : Program} {ops : Array Oper} {rest : List Oper} {o : Oper} {a : Act} {Q : Exit → Act → World → Prop} {w : World}
theorem run_zeroRow {t : TypeId} {z : Array Value} (hz : (P.info? t).map (·.zero) = some (some (.agg z))) : (zeroValue t).run P w = .ok (.agg z) w := by
  cases hq : P.info? t with
  | none => simp [hq] at hz
  | some i =>
    have : i.zero = some (.agg z) := by simpa [hq] using hz
    simp [zeroValue, typeInfo, hq, this]
/-- 'var x T', T an array -/
theorem wpList_alloc_row (hgd : o.guard = none) (t : TypeId) (hop : o.op = .alloc t) (z : Array Value) (hz : (P.info? t).map (·.zero) = some (some (.agg z)))
    (hK : wpList P ops Q rest (a.put o.dst (.pointer (some ⟨w.heap.size, 0, none⟩))) (w.alloc (.cells z t))) : wpList P ops Q (o :: rest) a w := by
  refine wpList_plain hgd fun K hK' => ?_
  unfold Oper.wp
  simp [execOp, hop, Instr.alloc, run_zeroRow hz, newVar, newRow, Result.andThen, Value.cells]
  exact hK' _ _ hK
theorem wpList_build_zero (hgd : o.guard = none) (t : TypeId) (hop : o.op = .build t #[]) (n : Nat) (e : TypeId) (ht : P.underlying t = some (.array n e)) (z : Array Value) (hz : (P.info? t).map (·.zero) = some (some (.agg z))) (he : ((P.info? e).map (·.size)).isSome = true)
    (hK : wpList P ops Q rest (a.put o.dst (.agg z)) w) : wpList P ops Q (o :: rest) a w := by
  refine wpList_plain hgd fun K hK' => ?_
  unfold Oper.wp
  cases hq : P.info? e with
  | none => simp [hq] at he
  | some i =>
    simp [execOp, hop, Instr.build, run_zeroRow hz, Result.andThen, run_underlying ht, sizeOf, typeInfo, hq, Instr.fill, Value.cells]
    exact hK' _ _ hK
end
section
variable {P : Program} {ops : Array Oper} {rest : List Oper} {o : Oper} {a : Act} {Q : Exit → Act → World → Prop} {w : World}
/-- '[]byte(s)' -/
theorem wpList_bytes (hgd : o.guard = none) (x : Operand) (src dst e : TypeId) (hop : o.op = .convert src dst x) (hs : P.underlying src = some .string) (hd : P.underlying dst = some (.slice e)) (he : P.underlying e = some (.int .u8)) (s : ByteArray) (hx : a.eval x = .string s) (hm : s.size ≤ maxLen)
    (hK : ∀ w' c, SlW (some ⟨w.heap.size, 0, none⟩) s.size c → RowAt (· = w.heap.size) w' (some ⟨w.heap.size, 0, none⟩) (bytesV s.data.toList) → Below w.heap.size w w' → w'.heap.size = w.heap.size + 1 → wpList P ops Q rest (a.put o.dst (.slice (some ⟨w.heap.size, 0, none⟩) s.size c)) w') : wpList P ops Q (o :: rest) a w := by
  refine wpList_plain hgd fun K hK' => ?_
  unfold Oper.wp
  simp only [execOp, hop, hx]
  rw [Sem.run_bind, run_bytes_of_string w src dst e s hs hd he]
  refine hK' _ _ (hK _ _ (.inr ⟨_, rfl, grownCap_ge w _ _ _, grownCap_le_maxLen w _ _ _ hm⟩) ?_ (((Below.refl _ _).drew).alloc (Nat.le_refl _) _) (by simp))
  intro j hj
  have hj' : j < s.data.size := by simpa [bytesV] using hj
  refine ⟨w.heap.size, 0, rfl, ?_, rfl⟩
  have h := bytesRow_at s (grownCap w s.size 0 e) j hj'
  have hn : (w.drew.alloc (.cells (bytesRow s (grownCap w s.size 0 e)) e ((bytesRow s (grownCap w s.size 0 e)).size, (bytesRow s (grownCap w s.size 0 e)).size + 1))).heap[w.heap.size]? = some (.cells (bytesRow s (grownCap w s.size 0 e)) e ((bytesRow s (grownCap w s.size 0 e)).size, (bytesRow s (grownCap w s.size 0 e)).size + 1)) := heap_alloc_new w.drew _
  rw [cell_of_row _ _ _ _ _ _ hn, Nat.zero_add, h]
  simp [bytesV]
end
section
variable {P : Program} {ops : Array Oper} {rest : List Oper} {o : Oper} {a : Act} {Q : Exit → Act → World → Prop} {w : World}
/-- 'a[i]' of an array by value, its cells whole numbers -/
theorem wpList_index_cell (hgd : o.guard = none) (t : TypeId) (x ix : Operand) (hop : o.op = .index t x ix) (cs : Array Value) (hx : a.eval x = .agg cs) (k : Nat) (hi : a.eval ix = .int .i64 (k : Int)) (n e : Nat) (ht : P.underlying t = some (.array n e)) (d : IntKind) (he : P.underlying e = some (.int d)) (hs : (P.info? e).map (·.size) = some 1) (hk : k < n) (v : Value) (hv : cs[k]? = some v)
    (hK : wpList P ops Q rest (a.put o.dst v) w) : wpList P ops Q (o :: rest) a w := by
  refine wpList_plain hgd fun K hK' => ?_
  unfold Oper.wp
  cases hq : P.info? e with
  | none => simp [hq] at hs
  | some i =>
    have hsz : i.size = 1 := by simpa [hq] using hs
    simp [execOp, hop, hx, hi, Instr.index, asIntOf, run_underlying ht, run_underlying he, part, isAgg, sizeOf, typeInfo, hq, hsz, hv, Result.andThen, hk]
    exact hK' _ _ hK
end
/-- the annotation of a call that answers one value -/
def annK (v : Value) : Ann := ⟨fun _ => v, fun _ _ => True⟩
theorem lz_const {P : Program} {f : FuncId} {args : Array Value} {v : Value} {W : World} (h : Calls P f args W fun e w' => e = .returned v ∧ W = w') : Calls P f args W fun e w' => ∃ u, e = .returned u ∧ lzPost (annK v) W u w' :=
  h.mono fun _ _ ⟨he, hw⟩ => ⟨v, he, hw ▸ Below.refl _ _, fun _ => undef, rfl, fun _ _ => trivial⟩
theorem lz_constB {P : Program} {f : FuncId} {args : Array Value} {v : Value} {W : World} (h : Calls P f args W fun e w' => e = .returned v ∧ Below W.heap.size W w') : Calls P f args W fun e w' => ∃ u, e = .returned u ∧ lzPost (annK v) W u w' :=
  h.mono fun _ _ ⟨he, hw⟩ => ⟨v, he, hw, fun _ => undef, rfl, fun _ _ => trivial⟩
end Go.Proofs.YtebgopdmeghmhaaGreat
namespace Go.Proofs.YtebgopdmeghmhaaGreat
open Go.RowKit

/-- the slice v, of n elements of one cell each, holds xs in a row of its own -/
def OwnG (w : World) (base : Nat) (e : TypeId) (v : Value) (n : Nat) (xs : List Value) : Prop :=
  xs.length = n ∧ ∃ g cap cur fz, v = .slice (some ⟨g, 0, none⟩) n cap ∧ base ≤ g ∧ w.heap[g]? = some (.cells cur e fz) ∧ (fz = (0, 0) ∨ cur.size ≤ fz.1) ∧ n ≤ cap ∧ cap ≤ maxLen ∧ cur.size = cap ∧ cur.toList.take n = xs
section
variable {w w' : World} {base : Nat} {e : TypeId} {v : Value} {n : Nat} {xs : List Value}
theorem OwnG.lt (h : OwnG w base e v n xs) : ∀ k, v.ownBlock = some k → base ≤ k ∧ k < w.heap.size := by
  obtain ⟨_, g, cap, cur, fz, rfl, hb, hg, _⟩ := h
  intro k hk
  obtain rfl : g = k := by simpa [Value.ownBlock] using hk
  exact ⟨hb, (Array.getElem?_eq_some_iff.1 hg).1⟩
theorem OwnG.same (h : OwnG w base e v n xs) (hw : ∀ k, v.ownBlock = some k → w'.heap[k]? = w.heap[k]?) : OwnG w' base e v n xs := by
  obtain ⟨hl, g, cap, cur, fz, rfl, hb, hg, r⟩ := h
  exact ⟨hl, g, cap, cur, fz, rfl, hb, (hw g rfl).trans hg, r⟩
theorem OwnG.alloc (h : OwnG w base e v n xs) (o : Obj) : OwnG (w.alloc o) base e v n xs := h.same fun k hk => Below.heap_alloc w o k (h.lt k hk).2
theorem OwnG.row (h : OwnG w base e v n xs) : ∃ g cap, v = .slice (some ⟨g, 0, none⟩) n cap ∧ base ≤ g ∧ g < w.heap.size ∧ RowAt (· = g) w (some ⟨g, 0, none⟩) xs ∧ n ≤ cap ∧ cap ≤ maxLen := by
  obtain ⟨hl, g, cap, cur, fz, rfl, hb, hg, hf, hn, hc, hs, ht⟩ := h
  refine ⟨g, cap, rfl, hb, (Array.getElem?_eq_some_iff.1 hg).1, fun j hj => ⟨g, 0, rfl, ?_, rfl⟩, hn, hc⟩
  rw [cell_of_row _ _ _ _ _ _ hg, Nat.zero_add]
  have : (cur.toList.take n)[j]? = some xs[j] := by rw [ht]; exact List.getElem?_eq_getElem hj
  rw [List.getElem?_take] at this
  split at this
  · simpa using this
  · cases this
theorem OwnG.cells (h : OwnG w base e v n xs) {g : Nat} (hg : v.ownBlock = some g) : ∀ j u, xs[j]? = some u → w.cell? ((⟨g, 0, none⟩ : Addr).add j) = some u := by
  obtain ⟨g', cap, rfl, _, _, hr, _⟩ := h.row
  obtain rfl : g' = g := by simpa [Value.ownBlock] using hg
  exact hr.src _ rfl
end
section
variable {P : Program}
theorem run_storeCells_one (g o : Nat) (t : TypeId) (fz : Nat × Nat) (v : Value) (cur : Array Value) (w : World) (hg : w.heap[g]? = some (.cells cur t fz)) (hf : fz = (0, 0) ∨ cur.size ≤ fz.1) (ho : o < cur.size) (h1 : v.oneCell' = true) :
    (storeCells ⟨g, o, none⟩ [v]).run P w = .ok () (w.setRow g (cur.setIfInBounds o v)) := by
  have hadd : (⟨g, o, none⟩ : Addr).add 0 = ⟨g, o, none⟩ := by unfold Addr.add; split <;> simp_all
  have hcell : w.cell? ⟨g, o, none⟩ = some cur[o] := by simp [World.cell?, hg, ho]
  have hfro : w.frozen? ⟨g, o, none⟩ = false := by
    obtain ⟨lo, hi'⟩ := fz
    simp only [World.frozen?, hg, Bool.and_eq_false_iff, decide_eq_false_iff_not]
    rcases hf with hf | hf
    · right; injection hf with h1 h2; omega
    · left; simp only at hf; omega
  have hst : (store ((⟨g, o, none⟩ : Addr).add 0) v).run P w = .ok () (w.setRow g (cur.setIfInBounds o v)) := by
    rw [hadd, run_store P w _ v _ h1, hcell]
    simp [hfro, setCell_eq_setRow w g o cur t fz v hg]
  simp only [storeCells, Sem.run_bind, hst, Result.andThen_ok]
  rfl
/-- 'append(s, x)', one element of one cell -/
theorem run_append_G (w : World) (base : Nat) (t ty e : TypeId) (i : TypeInfo) (z : Value) (bytes : Nat) (ht : P.underlying t = some (.slice e)) (hi : P.info? e = some i) (hz : i.zero = some z) (hsize : i.size = 1) (hby : i.bytes = bytes) (hzs : z.cells.size = 1)
    (v : Value) (n : Nat) (xs : List Value) (hown : OwnG w base e v n xs) (a : Addr) (c : Nat) (u : Value) (hu : w.cell? a = some u) (h1 : u.oneCell' = true)
    (h63 : n + 1 ≤ maxLen) (hbytes : (n + 1) * bytes ≤ 140737488355328) (hbase : base ≤ w.heap.size) :
    ∃ v' w', (Builtin.append_ #[t, t] ty #[v, .slice (some a) 1 c]).run P w = .ok v' w' ∧ OwnG w' base e v' (n + 1) (xs ++ [u]) ∧ w.grownBy w' v.ownBlock := by
  have hnews : ∀ j x, [u][j]? = some x → w.cell? (a.add j) = some x := by
    intro j x hj
    match j, hj with
    | 0, hj => simp at hj; subst hj; rw [show a.add 0 = a by unfold Addr.add; split <;> simp_all]; exact hu
    | j + 1, hj => simp at hj
  have hcl := fun g => hown.cells (g := g)
  obtain ⟨hl, g, cap, cur, fz, rfl, hb, hg, hf, hn, hc, hs, htk⟩ := hown
  have hlen : (xs ++ [u]).length = n + 1 := by simp [hl]
  by_cases hroom : n + 1 ≤ cap
  · have hff := run_firstCells_some (P := P) w i.size 1 a 1 c [u] (by rw [hsize]; rfl) hnews
    have hst := run_storeCells_one (P := P) g n e fz u cur w hg hf (by omega) h1
    have hr : (Builtin.append_ #[t, t] ty #[.slice (some ⟨g, 0, none⟩) n cap, .slice (some a) 1 c]).run P w = .ok (.slice (some ⟨g, 0, none⟩) (n + 1) cap) (w.setRow g (cur.setIfInBounds n u)) := by
      rw [hsize] at hff
      simp [Builtin.append_, run_underlying ht, sizeOf, typeInfo, hi, hsize, Builtin.lenOf, hroom, hff, Addr.add_lit, hst]
    refine ⟨_, _, hr, ⟨hlen, g, cap, _, fz, rfl, hb, setRow_heap w g cur _ e _ hg, by simpa using hf, hroom, hc, by simpa using hs, ?_⟩, ⟨rfl, rfl, rfl, by simp, fun k _ hk => setRow_other w g k _ (fun e => hk (by simp [Value.ownBlock, e]))⟩⟩
    rw [Array.toList_setIfInBounds, List.take_add_one, List.take_set_of_le (Nat.le_refl _), htk]
    simp [show n < cur.size by omega]
  · have hr := run_append_grow (P := P) w t ty e i z ht hi hz ⟨g, 0, none⟩ n cap xs (by rw [hsize, hl]; simp) (hcl g rfl) a 1 c [u] (by rw [hsize]; rfl) hnews (by omega) (by simp only [maxLen] at h63; omega) (by rw [hby]; exact growslice_fits (by omega) hbytes)
    have hge := grownCap_ge w (n + 1) cap e
    refine ⟨_, _, hr, ⟨hlen, w.heap.size, _, _, (0, 0), rfl, hbase, heap_alloc_new w.drew _, .inl rfl, hge, grownCap_le_maxLen w (n + 1) cap e h63, ?_, ?_⟩, ⟨rfl, rfl, rfl, by simp, fun k hk _ => Below.heap_alloc w.drew _ k hk⟩⟩
    · simp only [Array.size_append, List.size_toArray, size_zeroCells, hzs, hl, List.length_singleton]
      omega
    · simp only [Array.toList_append]
      rw [← hlen, List.take_left' (by simp [hl])]
end
section
variable {F : Fence} {nF : Nat} {P : Program} {ops : Array Oper} {rest : List Oper} {o : Oper} {a : Act} {Q : Exit → Act → World → Prop} {w : World}
theorem wpListIn_appG (hgd : o.guard = none) (s x : Operand) (t : TypeId) (ho : o.op = .call { callee := .builtin .append, args := #[s, x], argTypes := #[t, t] })
    (base : Nat) (e : TypeId) (i : TypeInfo) (z : Value) (bytes : Nat) (ht : P.underlying t = some (.slice e)) (hi : P.info? e = some i) (hz : i.zero = some z) (hsize : i.size = 1) (hby : i.bytes = bytes) (hzs : z.cells.size = 1)
    (v : Value) (n : Nat) (xs : List Value) (hs : a.eval s = v) (hown : OwnG w base e v n xs) (ad : Addr) (c : Nat) (u : Value) (hx : a.eval x = .slice (some ad) 1 c) (hu : w.cell? ad = some u) (h1 : u.oneCell' = true)
    (h63 : n + 1 ≤ maxLen) (hbytes : (n + 1) * bytes ≤ 140737488355328) (hbase : base ≤ w.heap.size)
    (h : ∀ v' w', OwnG w' base e v' (n + 1) (xs ++ [u]) → w.grownBy w' v.ownBlock → wpListIn F nF P ops Q rest (a.put o.dst v') w') : wpListIn F nF P ops Q (o :: rest) a w := by
  refine wpListIn_plain hgd fun K hK => ?_
  obtain ⟨v', w', hr, h2, h3⟩ := run_append_G (P := P) w base t o.type e i z bytes ht hi hz hsize hby hzs v n xs hown ad c u hu h1 h63 hbytes hbase
  unfold Oper.wpIn
  refine ⟨?_, ?_⟩
  · simp [Oper.about, ho, resolve, Target.leads, Sem.run_pure]
  · rw [Oper.semAt_plain F _ _ (by rw [ho]; intro c hc'; cases hc')]
    simp [execOp, ho, resolve, invoke, builtin, hs, hx, hr, Result.andThen]
    exact hK _ _ (h v' w' h2 h3)
/-- '[]byte(s)' -/
theorem wpListIn_bytes (hgd : o.guard = none) (x : Operand) (src dst e : TypeId) (hop : o.op = .convert src dst x) (hs : P.underlying src = some .string) (hd : P.underlying dst = some (.slice e)) (he : P.underlying e = some (.int .u8)) (s : ByteArray) (hx : a.eval x = .string s) (hm : s.size ≤ maxLen)
    (hK : ∀ w' v, OwnG w' w.heap.size e v s.size (bytesV s.data.toList) → w.grownBy w' none → wpListIn F nF P ops Q rest (a.put o.dst v) w') : wpListIn F nF P ops Q (o :: rest) a w := by
  refine wpListIn_plain hgd fun K hK' => ?_
  have hrun := run_bytes_of_string (P := P) w src dst e s hs hd he
  have hge := grownCap_ge w s.size 0 e
  have hsz : (bytesRow s (grownCap w s.size 0 e)).size = grownCap w s.size 0 e := by
    have : s.data.size = s.size := rfl
    simp [bytesRow]; omega
  unfold Oper.wpIn
  refine ⟨by simp [Oper.about, hop], ?_⟩
  rw [Oper.semAt_plain F _ _ (by rw [hop]; intro c hc'; cases hc')]
  simp only [execOp, hop, hx, Sem.run_bind, hrun, Result.andThen_ok]
  refine hK' _ _ (hK _ _ ⟨by simp [bytesV], w.heap.size, _, _, _, rfl, Nat.le_refl _, heap_alloc_new w.drew _, .inr (Nat.le_refl _), hge, grownCap_le_maxLen w _ _ _ hm, hsz, ?_⟩ ⟨rfl, rfl, rfl, by simp, fun k hk _ => Below.heap_alloc w.drew _ k hk⟩)
  have e1 : s.size = (s.data.map (fun b => Value.int .u8 b.toNat)).toList.length := by simp
  rw [bytesRow, Array.toList_append, e1, List.take_left]
  simp [bytesV]
/-- 'string(b)' -/
theorem wpListIn_str {S : Nat → Prop} (hgd : o.guard = none) (x : Operand) (src dst e : TypeId) (hop : o.op = .convert src dst x) (hs : P.underlying src = some (.slice e)) (he : P.underlying e = some (.int .u8)) (hd : P.underlying dst = some .string)
    (ao : Option Addr) (n c : Nat) (l : List UInt8) (hx : a.eval x = .slice ao n c) (hn : l.length = n) (hrow : RowAt S w ao (bytesV l))
    (hK : wpListIn F nF P ops Q rest (a.put o.dst (.string ⟨l.toArray⟩)) w) : wpListIn F nF P ops Q (o :: rest) a w := by
  refine wpListIn_plain hgd fun K hK' => ?_
  have hrun : (convert src dst (.slice ao n c)).run P w = .ok (.string ⟨l.toArray⟩) w := by
    cases ao with
    | none =>
      have : l = [] := by
        cases l with
        | nil => rfl
        | cons x l => obtain ⟨b, off, h, _⟩ := hrow 0 (by simp [bytesV]); cases h
      subst this
      rw [run_convert_bytes_nil w src e hs he _ _ dst hd]
      rfl
    | some ad =>
      cases l with
      | nil =>
        subst hn
        rw [run_convert_bytes_string w src dst e _ _ _ hs he hd]
        simp [Conv.bytesToString]
        rfl
      | cons y l =>
        obtain ⟨b, off, h, _⟩ := hrow 0 (by simp [bytesV])
        obtain rfl := Option.some.inj h
        rw [run_convert_bytes_arg w src e hs he b off n c ((y :: l).map fun u => (u.toNat : Int)) (by simpa using hn) (fun i hi => ?_) dst hd, strOf_bytes]
        obtain ⟨b', off', h', hc, _⟩ := hrow i (by simp [bytesV] at hn ⊢; omega)
        obtain ⟨rfl, rfl⟩ : b = b' ∧ off = off' := by simpa using h'
        have hi' : i < (y :: l).length := by omega
        rw [hc]
        simp only [bytesV, List.getElem_map]
        rw [List.getD, List.getElem?_map, List.getElem?_eq_getElem hi']
        rfl
  unfold Oper.wpIn
  refine ⟨by simp [Oper.about, hop], ?_⟩
  rw [Oper.semAt_plain F _ _ (by rw [hop]; intro c hc'; cases hc')]
  simp only [execOp, hop, hx, Sem.run_bind, hrun, Result.andThen_ok]
  exact hK' _ _ hK
end
end Go.Proofs.YtebgopdmeghmhaaGreat
namespace Go.Proofs.YtebgopdmeghmhaaGreat
open Go.RowKit
section
variable {F : Fence} {nF : Nat} {P : Program} {ops : Array Oper} {rest : List Oper} {o : Oper} {a : Act} {Q : Exit → Act → World → Prop} {w w' : World}
theorem wpListIn_value (hgd : o.guard = none) (hab : o.about P w a.eval = none) (hnd : ∀ c, o.op ≠ .defer c) (v : Value) (hrun : (execOp a.eval o).run P w = .ok (.value v) w')
    (hK : wpListIn F nF P ops Q rest (a.put o.dst v) w') : wpListIn F nF P ops Q (o :: rest) a w := by
  refine wpListIn_plain hgd fun K hK' => ?_
  unfold Oper.wpIn
  refine ⟨by simp [hab], ?_⟩
  rw [Oper.semAt_plain F _ _ hnd, hrun]
  exact hK' _ _ hK
theorem wpListIn_skip (hgd : o.guard = none) (hab : o.about P w a.eval = none) (hnd : ∀ c, o.op ≠ .defer c) (hrun : (execOp a.eval o).run P w = .ok .skip w')
    (hK : wpListIn F nF P ops Q rest (a.put o.dst undef) w') : wpListIn F nF P ops Q (o :: rest) a w := by
  refine wpListIn_plain hgd fun K hK' => ?_
  unfold Oper.wpIn
  refine ⟨by simp [hab], ?_⟩
  rw [Oper.semAt_plain F _ _ hnd, hrun]
  exact hK' _ _ hK
theorem wpListIn_load_mid (hgd : o.guard = none) (ty : TypeId) (x : Operand) (ho : o.op = .load ty x) (b k : Nat) (hx : a.eval x = .pointer (some ⟨b, k, none⟩)) (cs : List Value) (d : TypeDesc) (hc : w.rangeAt b k cs)
    (hu : P.underlying ty = some d) (hd : d.isRow = true) (hi : (P.info? ty).map (·.size) = some cs.length) (h : wpListIn F nF P ops Q rest (a.put o.dst (.agg cs.toArray)) w) : wpListIn F nF P ops Q (o :: rest) a w :=
  wpListIn_value hgd (by simp [Oper.about, ho]) (by rw [ho]; intro c hc'; cases hc') _ (by
    unfold execOp
    simp only [ho, hx, Instr.loadAt, Instr.sureAddr, Sem.run_bind, Sem.run_pure, Result.andThen_ok, run_loadVar_mid w b k ty cs d hc hu hd hi]) h
theorem wpListIn_store_mid (hgd : o.guard = none) (ty : TypeId) (x y : Operand) (ho : o.op = .store ty x y) (b k : Nat) (cells : Array Value) (hx : a.eval x = .pointer (some ⟨b, k, none⟩)) (hy : a.eval y = .agg cells)
    (ht : w.there b k cells.size) (hi : (P.info? ty).map (·.size) = some cells.size) (h1 : cells.all (·.oneCell') = true) (h : wpListIn F nF P ops Q rest (a.put o.dst undef) (w.setCells b k cells.toList)) : wpListIn F nF P ops Q (o :: rest) a w :=
  wpListIn_skip hgd (by simp [Oper.about, ho]) (by rw [ho]; intro c hc'; cases hc') (by
    unfold execOp
    simp only [ho, hx, hy, Instr.storeAt, Instr.sureAddr, Sem.run_bind, Sem.run_pure, Result.andThen_ok, run_storeVar_mid w b k ty cells ht hi h1]) h
theorem wpListIn_alloc_row (hgd : o.guard = none) (t : TypeId) (hop : o.op = .alloc t) (z : Array Value) (hz : (P.info? t).map (·.zero) = some (some (.agg z)))
    (hK : wpListIn F nF P ops Q rest (a.put o.dst (.pointer (some ⟨w.heap.size, 0, none⟩))) (w.alloc (.cells z t))) : wpListIn F nF P ops Q (o :: rest) a w :=
  wpListIn_value hgd (by simp [Oper.about, hop]) (by rw [hop]; intro c hc'; cases hc') _ (by
    simp [execOp, hop, Instr.alloc, run_zeroRow hz, newVar, newRow, Result.andThen, Value.cells]) hK
theorem wpListIn_index_cell (hgd : o.guard = none) (t : TypeId) (x ix : Operand) (hop : o.op = .index t x ix) (cs : Array Value) (hx : a.eval x = .agg cs) (k : Nat) (hi : a.eval ix = .int .i64 (k : Int)) (n e : Nat) (ht : P.underlying t = some (.array n e)) (d : IntKind) (he : P.underlying e = some (.int d)) (hs : (P.info? e).map (·.size) = some 1) (hk : k < n) (v : Value) (hv : cs[k]? = some v)
    (hK : wpListIn F nF P ops Q rest (a.put o.dst v) w) : wpListIn F nF P ops Q (o :: rest) a w :=
  wpListIn_value hgd (by simp [Oper.about, hop]) (by rw [hop]; intro c hc'; cases hc') _ (by
    cases hq : P.info? e with
    | none => simp [hq] at hs
    | some i =>
      have hsz : i.size = 1 := by simpa [hq] using hs
      simp [execOp, hop, hx, hi, Instr.index, asIntOf, run_underlying ht, run_underlying he, part, isAgg, sizeOf, typeInfo, hq, hsz, hv, Result.andThen, hk]) hK
end
end Go.Proofs.YtebgopdmeghmhaaGreat
