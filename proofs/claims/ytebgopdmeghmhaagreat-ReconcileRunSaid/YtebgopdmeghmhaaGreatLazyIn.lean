/- Lazy's law for a region inside a fence that lets everything pass (the body of a range over a function); rows of cells read, and rows compared, in the one walk. 'T{x}' and appends of elements of many cells. No function of the program is named here. Guarded operations that are wanted: load of a row, list of one. -/
import Derived.Test.YtebgopdmeghmhaaGreatArr
import Derived.Test.YtebgopdmeghmhaaGreatRowsL
import Derived.OrdersIn
import Derived.RangeFuncCalls
import Derived.Test.YtebgopdmeghmhaaGreatDig
namespace Go.Proofs.YtebgopdmeghmhaaGreat
open Go.RowKit

/-- a fence that lets every call pass -/
structure Lets (F : Fence) (P : Program) : Prop where
  fn : ∀ f, F.fn f
  depth : F.depth = none
  calls : ∀ {n : Nat} {f : FuncId} {args : Array Value} {w : World} {R : Ending → World → Prop}, Calls P f args w R → CallsIn F n P f args w R
theorem lets_round (P : Program) (l : Nat) : Lets (Fence.wide.inRound l) P := ⟨fun _ => trivial, rfl, fun h => CallsIn.inRound l (callsIn_wide.2 h)⟩
theorem lets_wide (P : Program) : Lets Fence.wide P := ⟨fun _ => trivial, rfl, fun h => callsIn_wide.2 h⟩

section
variable {F : Fence} {nF : Nat} {P : Program} {ops : Array Oper} {md : Region.Mode} {W0 : World} {an : Anns} {Q : Exit → Act → World → Prop}
theorem not_defer_value {ρ : Operand → Value} {o : Oper} {w w' : World} {v : Value} (h : (execOp ρ o).run P w = .ok (.value v) w') : ∀ c, o.op ≠ .defer c := by
  intro c hc
  unfold execOp at h
  rw [hc] at h
  simp only [Sem.run_bind] at h
  cases hr : (resolve ρ c o.type).run P w with
  | ok d w1 => rw [hr] at h; simp [Result.andThen] at h
  | halt x w1 => rw [hr] at h; simp [Result.andThen] at h
theorem not_defer_lz {o : Oper} {a : Act} {w : World} {Post : Value → World → Prop} (h : lzAt P o a w Post) : ∀ c, o.op ≠ .defer c := by
  intro c hc
  unfold lzAt execOp at h
  rw [hc] at h
  simp only [Sem.run_bind] at h
  cases hr : (resolve a.eval c o.type).run P w with
  | ok d w1 => rw [hr] at h; simp [Result.andThen] at h
  | halt x w1 => rw [hr] at h; simp [Result.andThen] at h
theorem wpIn_of_lz (hF : Lets F P) {o : Oper} {a : Act} {w : World} {Post : Value → World → Prop} {K : Act → World → Prop} (h : lzAt P o a w Post) (hK : ∀ v w', Post v w' → K (a.put o.dst v) w') : o.wpIn F nF P a w K Q := by
  have hnd := not_defer_lz h
  unfold Oper.wpIn
  refine ⟨fun f _ => hF.fn f, ?_⟩
  rw [Oper.semAt_plain F _ _ hnd]
  unfold lzAt at h
  generalize (execOp a.eval o).run P w = r at *
  cases r with
  | ok n w' =>
    cases n <;> simp only [Oper.uponIn] at h ⊢
    case value u => exact hK _ _ h
    case skip => exact hK _ _ h
    case enter f args => exact ⟨fun hd => by rw [hF.depth] at hd; simp at hd, hF.calls (h.mono fun e w'' ⟨v, he, hp⟩ => by subst he; exact hK _ _ hp)⟩
  | halt x w' => exact h.elim
theorem wpAnyIn_of_AO (hF : Lets F P) {n g : Nat} {L : Array Bool → Recs → Act → Prop} (hL : ∀ listed ξ a w, L listed ξ a → Good an W0 ξ w → wpAnyIn F nF P md ops Q g listed a w) :
    ∀ (f : Nat) (listed : Array Bool) (ξ : Recs) (a : Act) (w : World), AO P ops md an W0 n L f listed ξ a → Good an W0 ξ w → wpAnyIn F nF P md ops Q (f + g) listed a w
  | 0, listed, ξ, a, w, h, hg => by rw [Nat.zero_add]; exact hL _ _ _ _ h hg
  | f + 1, listed, ξ, a, w, h, hg => by
    rw [show f + 1 + g = (f + g) + 1 by omega]
    refine ⟨fun h0 => absurd h0 h.1, fun i hi => ?_⟩
    obtain ⟨_, oi, hoi, _⟩ := mem_ready.1 hi
    obtain ⟨S, hS, hK⟩ := (h.2 i hi).2 oi hoi
    unfold wpOpIn
    simp only [hoi]
    cases hS with
    | skip hw =>
      rw [if_neg (by rw [hw]; exact Bool.false_ne_true)]
      exact ⟨fun f _ => hF.fn f, wpAnyIn_of_AO hF hL f _ _ _ _ (hK none undef ⟨rfl, rfl⟩) hg⟩
    | quiet v hw hn hr =>
      rw [if_pos hw]
      have hrun := hr w ⟨⟨w, hg.below⟩, rfl⟩
      unfold Oper.wpIn
      refine ⟨fun f _ => hF.fn f, ?_⟩
      rw [Oper.semAt_plain F _ _ (not_defer_value hrun), hrun]
      exact wpAnyIn_of_AO hF hL f _ _ _ _ (hK none v ⟨rfl, rfl⟩) hg
    | lzy A hw hn hl =>
      rw [if_pos hw]
      refine wpIn_of_lz hF (hl w hg.below fun j _ => hg.fact j) ?_
      rintro v w' ⟨hb, x, rfl, hΦ⟩
      exact wpAnyIn_of_AO hF hL f _ _ _ _ (hK _ _ ⟨_, rfl, rfl⟩) (hg.add hb hn hΦ)
theorem wpIn_region_lz (hF : Lets F P) {id : Nat} {a : Act} {w : World} {l : List Oper} (n g : Nat) (done : Array Bool) (an : Anns) (hm : P.follows .mixedOrders = true) (hn : l.length = n + g) (hd : setTo (Array.replicate l.length false) n 0 = done) (hB : lazyB .any l.toArray n = true)
    (h : LW P l.toArray .any an w (fun ξ a' => ∀ w', Good an w ξ w' → wpAnyIn F nF P .any l.toArray Q g done a' w') (l.take n) 0 (fun _ => none) a) : (Code.region id l.toArray true).wpIn F nF P Q a w := by
  simp only [lazyB, Bool.and_eq_true] at hB
  obtain ⟨⟨hsel, hs⟩, hlex⟩ := hB
  have htl : (l.take n).length = n := by simp; omega
  have inv0 : Closed .any l.toArray n (Array.replicate l.toArray.size false) := ⟨by simp, fun j oj _ hl => (by rw [getD_replicate_false] at hl; cases hl)⟩
  have hdn := lazyHead_done _ _ _ hlex
  have H := AO_lex (md := .any) hsel hs _ hdn (l.take n) 0 _ _ a (fun j hj => by
    have hj' : j < n := by rw [htl] at hj; exact hj
    simp [hj']) (by simpa using htl) inv0 (by rw [htl]) (by rw [htl]; exact hlex) h
  refine wpIn_region_any hm ?_
  simp only [List.size_toArray] at H
  have := wpAnyIn_of_AO hF (nF := nF) (g := g) (Q := Q) (w := { w with drawn := w.drawn + 1 }) (fun listed ξ a' w' hL hg => ?_) _ _ _ _ H (Good.start an ((Below.refl _ w).drew))
  · rw [htl] at this
    rw [← hn] at this
    rw [List.size_toArray]
    exact this
  · rw [hL.1, hd]
    exact hL.2 w' hg
/-- one operation left -/
theorem wpAnyIn_one {listed : Array Bool} {a : Act} {w : World} (i : Nat) {o : Oper} (hr : Region.ready md ops listed = [i]) (ho : ops[i]? = some o) (hw : Region.wanted o (yielded ops a.tmps) = true) (hd : Region.ready md ops (listed.setIfInBounds i true) = [])
    (h : o.wpIn F nF P a w (fun a' w' => Q .normal a' w') Q) : wpAnyIn F nF P md ops Q 1 listed a w := by
  refine ⟨fun h0 => (by rw [hr] at h0; cases h0), fun j hj => ?_⟩
  rw [hr] at hj
  obtain rfl : j = i := by simpa using hj
  unfold wpOpIn
  simp only [ho]
  rw [if_pos hw]
  exact Oper.wpIn_mono (fun a' w' hq => ⟨hd, hq⟩) h
/-- a store of cells, the last of its region -/
theorem wpIn_store_mid {o : Oper} {a : Act} {w : World} {K : Act → World → Prop} (ty : TypeId) (x y : Operand) (ho : o.op = .store ty x y) (b k : Nat) (cells : Array Value) (hx : a.eval x = .pointer (some ⟨b, k, none⟩)) (hy : a.eval y = .agg cells)
    (ht : w.there b k cells.size) (hi : (P.info? ty).map (·.size) = some cells.size) (h1 : cells.all (·.oneCell') = true) (h : K (a.put o.dst undef) (w.setCells b k cells.toList)) : o.wpIn F nF P a w K Q := by
  unfold Oper.wpIn
  refine ⟨by simp [Oper.about, ho], ?_⟩
  rw [Oper.semAt_plain F _ _ (by rw [ho]; intro c hc'; cases hc')]
  unfold execOp
  simp only [ho, hx, hy, Instr.storeAt, Instr.sureAddr, Sem.run_bind, Sem.run_pure, Result.andThen_ok, run_storeVar_mid w b k ty cells ht hi h1]
  exact h
end
/-! in the one walk -/
section
variable {P : Program} {o : Oper} {a : Act} {C : World → Prop} {K : Act → Prop}
/-- a row of cells read -/
theorem quiet_load_row (ty : TypeId) (x : Operand) (ho : o.op = .load ty x) (b k : Nat) (hx : a.eval x = .pointer (some ⟨b, k, none⟩)) (cs : List Value) (d : TypeDesc) (hC : ∀ w, C w → w.rangeAt b k cs) (hu : P.underlying ty = some d) (hd : d.isRow = true) (hi : (P.info? ty).map (·.size) = some cs.length)
    (hK : K (a.put o.dst (.agg cs.toArray))) : o.quiet P a C K :=
  ⟨_, fun w hw => by
    unfold Oper.quietAt execOp
    simp only [ho, hx, Instr.loadAt, Instr.sureAddr, Sem.run_bind, Sem.run_pure, Result.andThen_ok, run_loadVar_mid w b k ty cs d (hC w hw) hu hd hi]
    exact ⟨rfl, rfl⟩, hK⟩
theorem quiet_run (v : Value) (hr : ∀ w, (execOp a.eval o).run P w = .ok (.value v) w) (hK : K (a.put o.dst v)) : o.quiet P a C K :=
  ⟨v, fun w _ => by unfold Oper.quietAt; rw [hr w]; exact ⟨rfl, rfl⟩, hK⟩
/-- what lay in a world lies in those above it -/
theorem lat_range {W : World} {b k : Nat} {cs : List Value} (h : W.rangeAt b k cs) (hb : b < W.heap.size) : ∀ w, (∃ y : Lat W, w = y.w) → w.rangeAt b k cs := by
  rintro _ ⟨y, rfl⟩
  exact rangeAt_below h y.h hb
theorem exec_build {ρ : Operand → Value} {w : World} (t : TypeId) (parts : Array (Nat × Operand)) (hop : o.op = .build t parts) (vs : Array (Nat × Value)) (hv : parts.map (fun (i, x) => (i, ρ x)) = vs) {v : Value} (hr : (Instr.build t vs).run P w = .ok v w) : (execOp ρ o).run P w = .ok (.value v) w := by
  unfold execOp
  simp only [hop, hv, Sem.run_bind, hr, Result.andThen_ok, Sem.run_pure]
/-- an annotated operation that answers a value and leaves the world -/
theorem lz_value {W : World} {v : Value} (hr : (execOp a.eval o).run P W = .ok (.value v) W) : lzAt P o a W (lzPost (annK v) W) := by
  unfold lzAt
  rw [hr]
  exact ⟨Below.refl _ _, fun _ => undef, rfl, fun _ _ => trivial⟩
end
end Go.Proofs.YtebgopdmeghmhaaGreat
namespace Go.Proofs.YtebgopdmeghmhaaGreat
open Go.RowKit
section
variable {P : Program} {ops : Array Oper} {rest : List Oper} {o : Oper} {a : Act} {Q : Exit → Act → World → Prop} {w : World}
theorem range_zero {zl : List Value} {m : Nat} (hz : zl.length = m) : ((Array.range (1 * m)).map (zl.toArray[· % zl.toArray.size]!)) = zl.toArray := by
  apply Array.ext_getElem?
  intro j
  by_cases hj : j < m
  · have h1 : j < (Array.range (1 * m)).size := by simp; omega
    simp [hj, hz, Nat.mod_eq_of_lt hj]
  · rw [Array.getElem?_eq_none (by simp; omega), Array.getElem?_eq_none (by simp; omega)]
theorem run_buildSlice1 (t e : TypeId) (i : TypeInfo) (z : List Value) (m : Nat) (ht : P.underlying t = some (.slice e)) (hi : P.info? e = some i) (hz : i.zero = some (.agg z.toArray)) (hs : i.size = m) (hzl : z.length = m) (hm : 0 < m ∧ m ≤ 16777216) (cs : List Value) (hc : cs.length = m) :
    (Instr.buildSlice t 1 #[(0, .agg cs.toArray)]).run P w = .ok (.slice (some ⟨w.heap.size, 0, none⟩) 1 1) (w.alloc (.cells cs.toArray e)) := by
  have hf := fill_step (place := fun i => some (i * m, m)) (i := 0) (v := .agg cs.toArray) (rest := []) [] z cs [] (by simp [hzl]) rfl (by rw [hzl, hc])
  simp only [List.nil_append, List.append_nil] at hf
  have hr := range_zero hzl
  rw [Nat.one_mul] at hr
  have h0 : ¬ (m = 0) := by omega
  have h1 : ¬ (m > 2 ^ 24) := by omega
  have sz : ∀ w, (sizeOf e).run P w = .ok m w := fun w => by simp [sizeOf, typeInfo, hi, hs]
  have zv : ∀ w, (zeroValue e).run P w = .ok (.agg z.toArray) w := fun w => by simp [zeroValue, typeInfo, hi, hz]
  unfold Instr.buildSlice
  simp only [Sem.run_bind, run_underlying ht, Result.andThen_ok, sz, Nat.one_mul, h0, h1, if_false, Sem.run_ite, zv, Value.cells, Sem.run_pure, hr, hf]
  simp [Instr.fill, newRow]
/-- 'T{x}', one element of many cells -/
theorem wpList_build1 (hgd : o.guard = none) (t : TypeId) (x : Operand) (hop : o.op = .buildSlice t 1 #[(0, x)]) (e : TypeId) (i : TypeInfo) (z : List Value) (m : Nat) (ht : P.underlying t = some (.slice e)) (hi : P.info? e = some i) (hz : i.zero = some (.agg z.toArray)) (hs : i.size = m) (hzl : z.length = m) (hm : 0 < m ∧ m ≤ 16777216) (cs : List Value) (hc : cs.length = m) (hx : a.eval x = .agg cs.toArray)
    (hK : wpList P ops Q rest (a.put o.dst (.slice (some ⟨w.heap.size, 0, none⟩) 1 1)) (w.alloc (.cells cs.toArray e))) : wpList P ops Q (o :: rest) a w := by
  refine wpList_plain hgd fun K hK' => ?_
  have hr := run_buildSlice1 (w := w) t e i z m ht hi hz hs hzl hm cs hc
  unfold Oper.wp
  simp [execOp, hop, hx, hr, Result.andThen]
  exact hK' _ _ hK
end
end Go.Proofs.YtebgopdmeghmhaaGreat
namespace Go.Proofs.YtebgopdmeghmhaaGreat
open Go.RowKit
section
variable {P : Program} {ops : Array Oper} {rest : List Oper} {o : Oper} {a : Act} {Q : Exit → Act → World → Prop} {w : World}
/-- a guarded operation that is wanted -/
theorem wpList_want (hw : Region.wanted o (yielded ops a.tmps) = true) (h : ∀ K : Act → World → Prop, (∀ a w, wpList P ops Q rest a w → K a w) → o.wp P a w K Q) : wpList P ops Q (o :: rest) a w :=
  wpList_step fun K hK => by simp only [hw, if_true]; exact h K hK
theorem wpList_load_want (hw : Region.wanted o (yielded ops a.tmps) = true) (ty : TypeId) (x : Operand) (ho : o.op = .load ty x)
    (b k : Nat) (hx : a.eval x = .pointer (some ⟨b, k, none⟩)) (cs : List Value) (d : TypeDesc) (hc : w.rangeAt b k cs)
    (hu : P.underlying ty = some d) (hd : d.isRow = true) (hi : (P.info? ty).map (·.size) = some cs.length)
    (h : wpList P ops Q rest (a.put o.dst (.agg cs.toArray)) w) : wpList P ops Q (o :: rest) a w :=
  wpList_want hw fun _ hK => wp_load_mid ty x ho b k hx cs d hc hu hd hi (hK _ _ h)
theorem wpList_build1_want (hw : Region.wanted o (yielded ops a.tmps) = true) (t : TypeId) (x : Operand) (hop : o.op = .buildSlice t 1 #[(0, x)]) (e : TypeId) (i : TypeInfo) (z : List Value) (m : Nat) (ht : P.underlying t = some (.slice e)) (hi : P.info? e = some i) (hz : i.zero = some (.agg z.toArray)) (hs : i.size = m) (hzl : z.length = m) (hm : 0 < m ∧ m ≤ 16777216) (cs : List Value) (hc : cs.length = m) (hx : a.eval x = .agg cs.toArray)
    (hK : wpList P ops Q rest (a.put o.dst (.slice (some ⟨w.heap.size, 0, none⟩) 1 1)) (w.alloc (.cells cs.toArray e))) : wpList P ops Q (o :: rest) a w := by
  refine wpList_want hw fun K hK' => ?_
  have hr := run_buildSlice1 (w := w) t e i z m ht hi hz hs hzl hm cs hc
  unfold Oper.wp
  simp [execOp, hop, hx, hr, Result.andThen]
  exact hK' _ _ hK
end
end Go.Proofs.YtebgopdmeghmhaaGreat
