/- An argument of type api.Disk (layer 40), a slice of ints, a string: opened: what it is in plain Lean. Arguments of layer 42: acts, runs: opened. -/
import Derived.Test.YtlefmmhlpgmbjaaGreatQ01
import Derived.SizedLaws
import Derived.Lib.SmallJoins
import Derived.Deep.SlicePairs
import Derived.SliceStrings
import Derived.Test.YtlefmmhlpgmbjaaGreatProg
import Derived.Test.YtlefmmhlpgmbjaaGreatQ23
import Derived.Test.YtlefmmhlpgmbjaaGreatQ05
namespace Go.Proofs.YtlefmmhlpgmbjaaGreat
set_option maxRecDepth 100000
open Go.RowKit Go.ChangeShapes Go.WideShapes
section
variable {H : Type} {enc : TypeId × Value -> H} {W : World} {base : Nat} {sp : Nat -> Bool} {held : Bool}
theorem weights_of_all {P : Program} {e : TypeId} : ∀ {l : List (DataW H)} {d : DataW H}, d ∈ l -> ∀ n ∈ d.weights P e, n ∈ DataW.weightsAll P e l
 | x :: l, d, h, n, hn => by
  rw [DataW.weightsAll, zmA]
  rcases zmC.1 h with rfl | h
  .
   exact .inl hn
  .
   exact .inr (weights_of_all h n hn)
theorem weights_str {P : Program} {e : TypeId} (bs : List UInt8) : (DataW.lit (.string bs) : DataW H).weights P e = [bs.length] := by rw [DataW.weights]
theorem cellsOf_one9 : Tryz.prog.cellsOf 9 = 1 := by kernel_rfl
theorem cellsOf_int : Tryz.prog.cellsOf 3 = 1 := by kernel_rfl
theorem bytes_str : Tryz.prog.bytesOf 9 = 16 := by kernel_rfl
theorem bytes_int : Tryz.prog.bytesOf 3 = 8 := by kernel_rfl
theorem addr_form {w : World} {a : Addr} {v : Value} (h : w.cell? a = some v) : ∃ b off, a = ⟨b, off, none⟩ := by
 have := World.cell?_spot h
 cases a; cases this; exact ⟨_, _, rfl⟩
theorem open_strs {n : Nat} {v : Value} {y : DataW H × List MemPlace} (h : DataW.trod enc Tryz.prog W base sp held n 22 [v] = some y) (hw : ∀ k ∈ y.1.weights Tryz.prog 22, k <= reachBytes) :
  ∃ (o : Option Addr) (l : List ByteArray) (c : Nat), v = .slice o l.length c /\ SlW o l.length c /\ StrsAt (· < W.heap.size) W o l /\ l.length * 16 <= 140737488351232 /\ ∀ s ∈ l, s.size <= 140737488351232 := by
 rcases open_strings Tryz.underlying22 Tryz.underlying9 cellsOf_one9 h with ⟨e, _⟩ | ⟨a, len, cap, ss, e, hb, hl, hm, hss, hx, hcell, _⟩
 .
  cases e
  exact ⟨none, [], 0, rfl, .inl ⟨rfl, rfl, rfl⟩, by intro i hi; simp at hi, by simp, by simp⟩
 .
  cases e
  have hle : len <= ss.length := by rw [hss]; split <;> omega
  have hlen : (ss.take len).length = len := by simp; omega
  rw [hx] at hw
  have e1 := hw _ (by rw [DataW.weights, Tryz.underlying22]; exact List.mem_cons_self)
  rw [bytes_str] at e1
  simp [strs, reachBytes] at e1
  refine ⟨some a, ss.take len, cap, by rw [hlen], .inr ⟨a, rfl, by rw [hlen]; exact hl, hm⟩, ?_, by rw [hlen]; omega, ?_⟩
  .
   intro i hi
   rw [hlen] at hi
   have h0 := hcell 0 (by omega)
   obtain ⟨b, off, rfl⟩ := addr_form (a := a) (by simpa [Addr.add] using h0)
   have hc := hcell i (by omega)
   rw [Addr.add_lit] at hc
   refine ⟨b, off, rfl, ?_, World.block_lt_of_cell? W _ hc⟩
   rw [hc]
   simp [List.getD, List.getElem?_eq_getElem (show i < ss.length by omega)]
  .
   intro s hs
   have := hw s.size (by
    rw [DataW.weights, Tryz.underlying22]
    refine List.mem_cons_of_mem _ (zmA.2 (.inl (weights_of_all (d := .lit (.string s.data.toList)) ?_ _ ?_)))
    .
     exact List.mem_map.2 ⟨s, hs, rfl⟩
    .
     rw [weights_str]; exact zmS.2 (by simp))
   exact this
set_option maxRecDepth 100000 in
theorem open_ints {r : Reach} {b0 : Nat} {v : Value} {d : DataW H} {p : List MemPlace} (hv : Value.okWide Tryz.prog W r b0 31 v) (h : DataW.Trod enc Tryz.prog W base sp held 31 v d p) (hw : ∀ k ∈ d.weights Tryz.prog 31, k <= reachBytes) :
  ∃ (o : Option Addr) (l : List Int) (c : Nat), v = .slice o l.length c /\ SlW o l.length c /\ IntsAt (· < W.heap.size) W o l /\ l.length * 8 <= 140737488351232 /\ ∀ x ∈ l, -9223372036854775808 <= x /\ x <= 9223372036854775807 := by
 obtain ⟨a0, len0, cap0, rfl⟩ := okWide_slice Tryz.underlying31 hv
 obtain ⟨fuel, hf⟩ := h
 rcases Deep.open_slice1 Tryz.underlying31 cellsOf_int hf with ⟨e, _⟩ | ⟨a, len, cap, m, n, V, D, Pl, e, hb, hl, hm, hmm, hx, hall⟩
 .
  simp [Value.cells] at e
  obtain ⟨rfl, rfl, rfl⟩ := e
  exact ⟨none, [], 0, rfl, .inl ⟨rfl, rfl, rfl⟩, by intro i hi; simp at hi, by simp, by simp⟩
 .
  simp [Value.cells] at e
  obtain ⟨rfl, rfl, rfl⟩ := e
  have hle : len0 <= m := by rw [hmm]; split <;> omega
  have hd : d = .slice ((List.range len0).map D) ((List.range (m - len0)).map fun j => D (len0 + j)) := congrArg Prod.fst hx
  subst hd
  have e1 := hw _ (by rw [DataW.weights, Tryz.underlying31]; exact List.mem_cons_self)
  rw [bytes_int] at e1
  simp [reachBytes] at e1
  have each : ∀ i, i < len0 -> ∃ x : Int, W.cell? (a.add i) = some (.int .i64 x) /\ -9223372036854775808 <= x /\ x <= 9223372036854775807 := by
   intro i hi
   obtain ⟨c0, t0⟩ := hall i (by omega)
   obtain ⟨q, e0, _, wq⟩ := DataW.trod_int Tryz.underlying3 t0
   exact ⟨q, by rw [c0, (List.cons.inj e0).1], by simpa [Lit.wf, IntKind.min, IntKind.max, IntKind.signed, IntKind.bits] using wq⟩
  obtain ⟨X, hX⟩ := Deep.choose_lt each
  refine ⟨some a, (List.range len0).map X, cap0, by simp, .inr ⟨a, rfl, by simpa using hl, hm⟩, ?_, by simp; omega, ?_⟩
  .
   intro i hi
   have hi' : i < len0 := by simpa using hi
   have c0 := (hX i hi').1
   have hz := (hX 0 (by omega)).1
   obtain ⟨b, off, rfl⟩ := addr_form (a := a) (by simpa [Addr.add] using hz)
   rw [Addr.add_lit] at c0
   exact ⟨b, off, rfl, by simpa using c0, World.block_lt_of_cell? W _ c0⟩
  .
   intro x hx'
   obtain ⟨i, hi, rfl⟩ := List.mem_map.1 hx'
   exact (hX i (by simpa using hi)).2
end
section
variable {H : Type} {enc : TypeId × Value -> H} {W : World} {base : Nat} {sp : Nat -> Bool} {held : Bool}
theorem wts_all {P : Program} {e : TypeId} {d : DataW H} : ∀ {ds : List (DataW H)}, d ∈ ds -> ∀ n ∈ d.weights P e, n ∈ DataW.weightsAll P e ds
 | x :: ds, hd, n, hn => by
  simp only [DataW.weightsAll, zmA]
  rcases zmC.1 hd with rfl | h
  .
   exact .inl hn
  .
   exact .inr (wts_all h n hn)
theorem open_rowsP {X : Type} [Inhabited X] {ok : X -> Prop} {en : X -> List Value} {t e : TypeId} {m bytes : Nat} (ht : Tryz.prog.underlying t = some (.slice e)) (hm : Tryz.prog.cellsOf e = m) (hm0 : 0 < m) (hb : Tryz.prog.bytesOf e = bytes) (hlen : ∀ x, ok x -> (en x).length = m)
  (hE : ∀ n cs y, DataW.trod enc Tryz.prog W base sp held n e cs = some y -> (∀ k ∈ y.1.weights Tryz.prog e, k <= reachBytes) -> ∃ x : X, ok x /\ cs = en x) {n : Nat} {cs : List Value} {y : DataW H × List MemPlace}
  (h : DataW.trod enc Tryz.prog W base sp held n t cs = some y) (hw : ∀ k ∈ y.1.weights Tryz.prog t, k <= reachBytes) :
  ∃ (o : Option Addr) (l : List X) (c : Nat), cs = [.slice o l.length c] /\ SlW o l.length c /\ RowAt (· < W.heap.size) W o (l.map en).flatten /\ (∀ x ∈ l, ok x) /\ l.length * bytes <= 140737488351232 := by
 rcases Deep.open_slice ht h with ⟨e0, _⟩ | ⟨a, len, cap, k, n', D, Pl, e0, hba, hl, hcap, hk, hx, hall⟩
 .
  exact ⟨none, [], 0, e0, .inl ⟨rfl, rfl, rfl⟩, RowAt.nil _ _ _, (fun x hx => by cases hx), by simp⟩
 .
  rw [hx] at hw
  have hle : len <= k := by rw [hk]; split <;> omega
  have hwD : ∀ i, i < len -> ∀ q ∈ (D i).weights Tryz.prog e, q <= reachBytes := by
   intro i hi q hq
   refine hw q ?_
   rw [DataW.weights, ht]
   exact List.mem_cons_of_mem _ (List.mem_append_left _ (wts_all (List.mem_map.2 ⟨i, List.mem_range.2 hi, rfl⟩) q hq))
  have e1 := hw _ (by rw [DataW.weights, ht]; exact List.mem_cons_self)
  rw [hb] at e1
  simp [reachBytes] at e1
  rw [hm] at hall
  have each : ∀ i, i < len -> ∃ x : X, ok x /\ ∀ j, j < m -> W.cell? ((a.add (i * m)).add j) = (en x)[j]? := by
   intro i hi
   obtain ⟨cs', h1, h2⟩ := hall i (by omega)
   obtain ⟨x, hox, rfl⟩ := hE _ _ _ h2 (hwD i hi)
   obtain ⟨_, _, h3⟩ := World.cells?_some h1
   exact ⟨x, hox, h3⟩
  obtain ⟨Q, hQ⟩ := Deep.choose_lt each
  have hok : ∀ x ∈ (List.range len).map Q, ok x := by
   intro x hx
   obtain ⟨i, hi, rfl⟩ := List.mem_map.1 hx
   exact (hQ i (List.mem_range.1 hi)).1
  have hL : ∀ x ∈ ((List.range len).map Q).map en, x.length = m := by
   intro x hx
   obtain ⟨q, hq, rfl⟩ := List.mem_map.1 hx
   exact hlen q (hok q hq)
  refine ⟨some a, (List.range len).map Q, cap, by rw [e0]; simp, .inr ⟨a, rfl, by simpa using hl, hcap⟩, ?_, hok, by rw [List.length_map, List.length_range]; exact znT (Nat.mul_le_mul_right _ (by omega)) e1⟩
  intro j hj
  have hfl := flat_len hL
  rw [List.length_map, List.length_map, List.length_range] at hfl
  obtain ⟨q, r, hr, rfl⟩ : ∃ q r, r < m /\ j = q * m + r := ⟨j / m, j % m, Nat.mod_lt _ hm0, by rw [Nat.mul_comm]; exact (Nat.div_add_mod j m).symm⟩
  have hq : q < len := by
   rcases Nat.lt_or_ge q len with h | h
   .
    exact h
   .
    have := Nat.mul_le_mul_right m h; omega
  have hc := (hQ q hq).2 r hr
  have hg := flat_get hL q r hr
  simp only [List.getElem?_map, List.getElem?_range hq, Option.map_some, Option.bind_some] at hg
  rw [<- hg, Deep.add_add, List.getElem?_eq_getElem hj] at hc
  have h00 := (hQ 0 (by omega)).2 0 hm0
  obtain ⟨b, off, rfl⟩ : ∃ b off, a = ⟨b, off, none⟩ := by
   have hz : (en (Q 0))[0]? = some ((en (Q 0))[0]'(by rw [hlen _ (hQ 0 (by omega)).1]; exact hm0)) := List.getElem?_eq_getElem _
   rw [hz] at h00
   exact addr_form (by simpa [Addr.add] using h00)
  rw [Addr.add_lit] at hc
  exact ⟨b, off, rfl, hc, World.block_lt_of_cell? W _ hc⟩
theorem trod_ones {t : TypeId} {ts : List TypeId} (hs : Tryz.prog.underlying t = some (.struct (Tryz.prog.fieldsOf t))) (hf : (Tryz.prog.fieldsOf t).toList.map (fun f => (f.type, f.offset)) = ts.zipIdx) (hone : ∀ u ∈ ts, Tryz.prog.cellsOf u = 1) (hC : Tryz.prog.cellsOf t = ts.length)
  {n : Nat} {cs : List Value} {y : DataW H × List MemPlace} (h : DataW.trod enc Tryz.prog W base sp held n t cs = some y) (hw : ∀ k ∈ y.1.weights Tryz.prog t, k <= reachBytes) :
  cs.length = ts.length /\ ∃ m, ∀ i (h1 : i < ts.length) (h2 : i < cs.length), ∃ z : DataW H × List MemPlace, DataW.trod enc Tryz.prog W base sp held m ts[i] [cs[i]] = some z /\ ∀ k ∈ z.1.weights Tryz.prog ts[i], k <= reachBytes := by
 obtain ⟨xs, m, _, hy, hl, hx, hall⟩ := DataW.trod_struct hs h
 have hd : y.1 = .agg (xs.map (·.1)) := congrArg Prod.fst hy
 rw [hd, DataW.weights, hs] at hw
 rw [hC] at hl
 refine ⟨hl, m, fun i h1 h2 => ?_⟩
 have hfl : (Tryz.prog.fieldsOf t).size = ts.length := by
  have := congrArg List.length hf
  simpa using this
 have hi : i < (Tryz.prog.fieldsOf t).size := by omega
 have hg := congrArg (fun l => l[i]?) hf
 simp only [List.getElem?_map, Array.getElem?_toList, Array.getElem?_eq_getElem hi, Option.map_some, List.getElem?_zipIdx, List.getElem?_eq_getElem h1, Nat.zero_add, Option.some.injEq, Prod.mk.injEq] at hg
 obtain ⟨g1, g2⟩ := hg
 have hk := hall i _ (Array.getElem?_eq_getElem hi)
 have hxi : i < xs.length := by omega
 rw [g1, g2, hone _ (List.getElem_mem h1), List.getElem?_eq_getElem hxi] at hk
 have e1 : (cs.drop i).take 1 = [cs[i]] := by
  rw [List.drop_eq_getElem_cons h2, List.take_succ_cons, List.take_zero]
 rw [e1] at hk
 refine ⟨_, hk, fun k hk' => hw k (DataW.weights_mem_each (j := i) (t := ts[i]) (d := xs[i].1) ?_ ?_ k hk')⟩
 .
  simp only [List.getElem?_map, Array.getElem?_toList, Array.getElem?_eq_getElem hi, Option.map_some, g1]
 .
  rw [List.getElem?_map, List.getElem?_eq_getElem hxi]; rfl
theorem list5 {α : Type} {cs : List α} (h : cs.length = 5) : ∃ c0 c1 c2 c3 c4, cs = [c0, c1, c2, c3, c4] := by
 match cs, h with
 | [c0, c1, c2, c3, c4], _ => exact ⟨c0, c1, c2, c3, c4, rfl⟩
theorem list6 {α : Type} {cs : List α} (h : cs.length = 6) : ∃ c0 c1 c2 c3 c4 c5, cs = [c0, c1, c2, c3, c4, c5] := by
 match cs, h with
 | [c0, c1, c2, c3, c4, c5], _ => exact ⟨c0, c1, c2, c3, c4, c5, rfl⟩
theorem list4 {α : Type} {cs : List α} (h : cs.length = 4) : ∃ c0 c1 c2 c3, cs = [c0, c1, c2, c3] := by
 match cs, h with
 | [c0, c1, c2, c3], _ => exact ⟨c0, c1, c2, c3, rfl⟩
theorem list2 {α : Type} {cs : List α} (h : cs.length = 2) : ∃ c0 c1, cs = [c0, c1] := by
 match cs, h with
 | [c0, c1], _ => exact ⟨c0, c1, rfl⟩
theorem trod_str {n : Nat} {v : Value} {y : DataW H × List MemPlace} (h : DataW.trod enc Tryz.prog W base sp held n 9 [v] = some y) (hw : ∀ k ∈ y.1.weights Tryz.prog 9, k <= reachBytes) : ∃ s : ByteArray, v = .string s /\ s.size <= 140737488351232 := by
 obtain ⟨s, e1, e2, _⟩ := DataW.trod_string Tryz.underlying9 h
 refine ⟨s, (List.cons.inj e1).1, ?_⟩
 have hd : y.1 = .lit (.string s.data.toList) := congrArg Prod.fst e2
 have := hw s.size (by rw [hd, weights_str]; exact zmS.2 (by simp))
 simpa [reachBytes] using this
theorem cells_bool : Tryz.prog.cellsOf 4 = 1 := by kernel_rfl
theorem cells_pair : Tryz.prog.cellsOf 77 = 2 := by kernel_rfl
theorem cells_chg : Tryz.prog.cellsOf 71 = 5 := by kernel_rfl
theorem bytes_pair : Tryz.prog.bytesOf 77 = 32 := by kernel_rfl
theorem struct_pair : Tryz.prog.underlying 77 = some (.struct (Tryz.prog.fieldsOf 77)) := by kernel_rfl
theorem fields_pair : (Tryz.prog.fieldsOf 77).toList.map (fun f => (f.type, f.offset)) = [9, 9].zipIdx := by kernel_rfl
theorem struct_chg : Tryz.prog.underlying 71 = some (.struct (Tryz.prog.fieldsOf 71)) := by kernel_rfl
theorem fields_chg : (Tryz.prog.fieldsOf 71).toList.map (fun f => (f.type, f.offset)) = [9, 4, 4, 9, 9].zipIdx := by kernel_rfl
set_option maxRecDepth 100000 in
theorem trod_pair {n : Nat} {cs : List Value} {y : DataW H × List MemPlace} (h : DataW.trod enc Tryz.prog W base sp held n 77 cs = some y) (hw : ∀ k ∈ y.1.weights Tryz.prog 77, k <= reachBytes) : ∃ x : Kv, True /\ cs = kvC x := by
 obtain ⟨hl, m, hk⟩ := trod_ones struct_pair fields_pair (by simp [cellsOf_one9]) cells_pair h hw
 obtain ⟨c0, c1, rfl⟩ := list2 hl
 obtain ⟨z0, t0, w0⟩ := hk 0 (by decide) (by simp)
 obtain ⟨z1, t1, w1⟩ := hk 1 (by decide) (by simp)
 obtain ⟨s0, e0, _⟩ := trod_str t0 w0
 obtain ⟨s1, e1, _⟩ := trod_str t1 w1
 exact ⟨(s0, s1), trivial, by rw [show c0 = .string s0 from e0, show c1 = .string s1 from e1]; rfl⟩
set_option maxRecDepth 100000 in
theorem trod_chg {n : Nat} {cs : List Value} {y : DataW H × List MemPlace} (h : DataW.trod enc Tryz.prog W base sp held n 71 cs = some y) (hw : ∀ k ∈ y.1.weights Tryz.prog 71, k <= reachBytes) :
  ∃ x : Chg, (x.old.size <= 140737488355328 /\ x.new.size <= 140737488355328) /\ cs = chgC x := by
 obtain ⟨hl, m, hk⟩ := trod_ones struct_chg fields_chg (by simp [cellsOf_one9, cells_bool]) cells_chg h hw
 obtain ⟨c0, c1, c2, c3, c4, rfl⟩ := list5 hl
 obtain ⟨z0, t0, w0⟩ := hk 0 (by decide) (by simp)
 obtain ⟨z1, t1, w1⟩ := hk 1 (by decide) (by simp)
 obtain ⟨z2, t2, w2⟩ := hk 2 (by decide) (by simp)
 obtain ⟨z3, t3, w3⟩ := hk 3 (by decide) (by simp)
 obtain ⟨z4, t4, w4⟩ := hk 4 (by decide) (by simp)
 obtain ⟨s0, e0, _⟩ := trod_str t0 w0
 obtain ⟨b1, e1, _⟩ := DataW.trod_bool Tryz.underlying4 t1
 obtain ⟨b2, e2, _⟩ := DataW.trod_bool Tryz.underlying4 t2
 obtain ⟨s3, e3, l3⟩ := trod_str t3 w3
 obtain ⟨s4, e4, l4⟩ := trod_str t4 w4
 exact ⟨⟨s0, b1, s3, b2, s4⟩, ⟨by simp only; omega, by simp only; omega⟩, by rw [show c0 = .string s0 from e0, show c1 = .bool b1 from (List.cons.inj e1).1, show c2 = .bool b2 from (List.cons.inj e2).1, show c3 = .string s3 from e3, show c4 = .string s4 from e4]; rfl⟩
instance inhChgO : Inhabited Chg := ⟨⟨ByteArray.empty, false, ByteArray.empty, false, ByteArray.empty⟩⟩
instance inhActBO : Inhabited ActB := ⟨⟨0, [], [], [], 0, []⟩⟩
structure ActY where
 a : ActB
 co : Option Addr
 po : Option Addr
 eo : Option Addr
 qo : Option Addr
 cc : Nat
 pc : Nat
 ec : Nat
 qc : Nat
instance inhActYO : Inhabited ActY := ⟨⟨default, none, none, none, none, 0, 0, 0, 0⟩⟩
def actY (x : ActY) : List Value := (actBC x.a x.co x.po x.eo x.qo x.cc x.pc x.ec x.qc).toList
def okAct (W : World) (x : ActY) : Prop := ActBOk W x.a x.co x.po x.eo x.qo x.cc x.pc x.ec x.qc
theorem ints_flat : ∀ l : List Int, (l.map fun x => [Value.int .i64 x]).flatten = l.map (.int .i64)
 | [] => rfl
 | x :: l => by rw [List.map_cons, List.flatten_cons, ints_flat l]; rfl
set_option maxRecDepth 100000 in
theorem open_intsT {n : Nat} {v : Value} {y : DataW H × List MemPlace} (h : DataW.trod enc Tryz.prog W base sp held n 31 [v] = some y) (hw : ∀ k ∈ y.1.weights Tryz.prog 31, k <= reachBytes) :
  ∃ (o : Option Addr) (l : List Int) (c : Nat), v = .slice o l.length c /\ SlW o l.length c /\ IntsAt (· < W.heap.size) W o l /\ ∀ x ∈ l, -9223372036854775808 <= x /\ x <= 9223372036854775807 := by
 obtain ⟨o, l, c, e, hs, hr, hok, _⟩ := open_rowsP (X := Int) (ok := fun x => -9223372036854775808 <= x /\ x <= 9223372036854775807) (en := fun x => [.int .i64 x]) Tryz.underlying31 cellsOf_int (by decide) bytes_int (fun _ _ => rfl)
  (fun n cs y h _ => by
   obtain ⟨q, e0, _, wf⟩ := DataW.trod_int Tryz.underlying3 h
   exact ⟨q, by simpa [Lit.wf, IntKind.min, IntKind.max, IntKind.signed, IntKind.bits] using wf, e0⟩) h hw
 refine ⟨o, l, c, (List.cons.inj e).1, hs, .of_row ?_, hok⟩
 rw [<- ints_flat]; exact hr
theorem bytes_chg : Tryz.prog.bytesOf 71 = 56 := by kernel_rfl
set_option maxRecDepth 100000 in
theorem open_pairs {n : Nat} {v : Value} {y : DataW H × List MemPlace} (h : DataW.trod enc Tryz.prog W base sp held n 41 [v] = some y) (hw : ∀ k ∈ y.1.weights Tryz.prog 41, k <= reachBytes) :
  ∃ (o : Option Addr) (l : List Kv) (c : Nat), v = .slice o l.length c /\ SlW o l.length c /\ KvsAt W o l := by
 obtain ⟨o, l, c, e, hs, hr, _, _⟩ := open_rowsP (X := Kv) (ok := fun _ => True) (en := kvC) Tryz.underlying41 cells_pair (by decide) bytes_pair (fun _ _ => rfl) (fun n cs y h hw => trod_pair h hw) h hw
 exact ⟨o, l, c, (List.cons.inj e).1, hs, hr⟩
set_option maxRecDepth 100000 in
theorem open_chgs {n : Nat} {v : Value} {y : DataW H × List MemPlace} (h : DataW.trod enc Tryz.prog W base sp held n 52 [v] = some y) (hw : ∀ k ∈ y.1.weights Tryz.prog 52, k <= reachBytes) :
  ∃ (o : Option Addr) (l : List Chg) (c : Nat), v = .slice o l.length c /\ SlW o l.length c /\ ChgsAt W o l /\ ∀ x ∈ l, x.old.size <= 140737488355328 /\ x.new.size <= 140737488355328 := by
 obtain ⟨o, l, c, e, hs, hr, hok, _⟩ := open_rowsP (X := Chg) (ok := fun x => x.old.size <= 140737488355328 /\ x.new.size <= 140737488355328) (en := chgC) Tryz.underlying52 cells_chg (by decide) bytes_chg (fun _ _ => rfl) (fun n cs y h hw => trod_chg h hw) h hw
 exact ⟨o, l, c, (List.cons.inj e).1, hs, hr, hok⟩
theorem cells_strs : Tryz.prog.cellsOf 22 = 1 := by kernel_rfl
theorem cells_ints : Tryz.prog.cellsOf 31 = 1 := by kernel_rfl
theorem cells_chgs : Tryz.prog.cellsOf 52 = 1 := by kernel_rfl
theorem cells_pairs : Tryz.prog.cellsOf 41 = 1 := by kernel_rfl
theorem cells_act : Tryz.prog.cellsOf 54 = 6 := by kernel_rfl
theorem cells_acts : Tryz.prog.cellsOf 47 = 1 := by kernel_rfl
theorem cells_run : Tryz.prog.cellsOf 49 = 4 := by kernel_rfl
theorem bytes_act : Tryz.prog.bytesOf 54 = 112 := by kernel_rfl
theorem struct_act : Tryz.prog.underlying 54 = some (.struct (Tryz.prog.fieldsOf 54)) := by kernel_rfl
theorem fields_act : (Tryz.prog.fieldsOf 54).toList.map (fun f => (f.type, f.offset)) = [3, 52, 41, 22, 3, 31].zipIdx := by kernel_rfl
theorem struct_run : Tryz.prog.underlying 49 = some (.struct (Tryz.prog.fieldsOf 49)) := by kernel_rfl
theorem fields_run : (Tryz.prog.fieldsOf 49).toList.map (fun f => (f.type, f.offset)) = [3, 3, 3, 47].zipIdx := by kernel_rfl
theorem int_bd {q : Int} (h : Lit.wf (.int .i64 q : Lit)) : -9223372036854775808 <= q /\ q <= 9223372036854775807 := by
 simpa [Lit.wf, IntKind.min, IntKind.max, IntKind.signed, IntKind.bits] using h
set_option maxRecDepth 100000 in
theorem trod_act {n : Nat} {cs : List Value} {y : DataW H × List MemPlace} (h : DataW.trod enc Tryz.prog W base sp held n 54 cs = some y) (hw : ∀ k ∈ y.1.weights Tryz.prog 54, k <= reachBytes) :
  ∃ x : ActY, okAct W x /\ cs = actY x := by
 obtain ⟨hl, m, hk⟩ := trod_ones struct_act fields_act (by simp [cellsOf_int, cells_strs, cells_ints, cells_chgs, cells_pairs]) cells_act h hw
 obtain ⟨c0, c1, c2, c3, c4, c5, rfl⟩ := list6 hl
 obtain ⟨z0, t0, w0⟩ := hk 0 (by decide) (by simp)
 obtain ⟨z1, t1, w1⟩ := hk 1 (by decide) (by simp)
 obtain ⟨z2, t2, w2⟩ := hk 2 (by decide) (by simp)
 obtain ⟨z3, t3, w3⟩ := hk 3 (by decide) (by simp)
 obtain ⟨z4, t4, w4⟩ := hk 4 (by decide) (by simp)
 obtain ⟨z5, t5, w5⟩ := hk 5 (by decide) (by simp)
 obtain ⟨kd, e0, _, wk⟩ := DataW.trod_int Tryz.underlying3 t0
 obtain ⟨co, chgs, cc, e1, s1, a1, z1'⟩ := open_chgs t1 w1
 obtain ⟨po, puts, pc, e2, s2, a2⟩ := open_pairs t2 w2
 obtain ⟨eo, dels, ec, e3, s3, a3, _, _⟩ := open_strs t3 w3
 obtain ⟨lf, e4, _, wl⟩ := DataW.trod_int Tryz.underlying3 t4
 obtain ⟨qo, picks, qc, e5, s5, a5, b5⟩ := open_intsT t5 w5
 refine ⟨⟨⟨kd, chgs, puts, dels, lf, picks⟩, co, po, eo, qo, cc, pc, ec, qc⟩, ⟨s1, s2, s3, s5, a1, a2, a3, a5, int_bd wk, int_bd wl, b5, z1'⟩, ?_⟩
 rw [show c0 = .int .i64 kd from (List.cons.inj e0).1, show c1 = _ from e1, show c2 = _ from e2, show c3 = _ from e3, show c4 = .int .i64 lf from (List.cons.inj e4).1, show c5 = _ from e5]
 rfl
theorem actY_len {l : List ActY} : ∀ x ∈ l.map actY, x.length = 6 := by
 intro x hx
 obtain ⟨q, _, rfl⟩ := List.mem_map.1 hx
 rfl
set_option maxRecDepth 100000 in
theorem open_acts {n : Nat} {v : Value} {y : DataW H × List MemPlace} (h : DataW.trod enc Tryz.prog W base sp held n 47 [v] = some y) (hw : ∀ k ∈ y.1.weights Tryz.prog 47, k <= reachBytes) :
  ∃ (o : Option Addr) (l : List ActB) (c : Nat), v = .slice o l.length c /\ SlW o l.length c /\ ActsB W o l := by
 obtain ⟨o, l, c, e, hs, hr, hok, _⟩ := open_rowsP (X := ActY) (ok := okAct W) (en := actY) Tryz.underlying47 cells_act (by decide) bytes_act (fun _ _ => rfl) (fun n cs y h hw => trod_act h hw) h hw
 refine ⟨o, l.map (·.a), c, by rw [List.length_map]; exact (List.cons.inj e).1, by rw [List.length_map]; exact hs, ?_⟩
 intro i hi
 have hi' : i < l.length := by simpa using hi
 have hl := flat_len (actY_len (l := l))
 rw [List.length_map] at hl
 have hc : ∀ r, r < 6 -> ∃ b off, o = some ⟨b, off, none⟩ /\ W.cell? ⟨b, off + (i * 6 + r), none⟩ = (actY l[i])[r]? := by
  intro r hr4
  obtain ⟨b, off, eo, hcell, _⟩ := hr (i * 6 + r) (by omega)
  refine ⟨b, off, eo, ?_⟩
  have hg := flat_get (actY_len (l := l)) i r hr4
  rw [List.getElem?_map, List.getElem?_eq_getElem hi', Option.map_some, Option.bind_some] at hg
  rw [hcell, <- hg]
  exact (List.getElem?_eq_getElem _).symm
 obtain ⟨b, off, rfl, k0⟩ := hc 0 (by decide)
 obtain ⟨b1, off1, q1, k1⟩ := hc 1 (by decide)
 obtain ⟨b2, off2, q2, k2⟩ := hc 2 (by decide)
 obtain ⟨b3, off3, q3, k3⟩ := hc 3 (by decide)
 obtain ⟨b4, off4, q4, k4⟩ := hc 4 (by decide)
 obtain ⟨b5, off5, q5, k5⟩ := hc 5 (by decide)
 obtain ⟨rfl, rfl⟩ : b = b1 /\ off = off1 := by simpa using q1
 obtain ⟨rfl, rfl⟩ : b = b2 /\ off = off2 := by simpa using q2
 obtain ⟨rfl, rfl⟩ : b = b3 /\ off = off3 := by simpa using q3
 obtain ⟨rfl, rfl⟩ : b = b4 /\ off = off4 := by simpa using q4
 obtain ⟨rfl, rfl⟩ : b = b5 /\ off = off5 := by simpa using q5
 have ok := hok l[i] (List.getElem_mem hi')
 refine ⟨b, off, l[i].co, l[i].po, l[i].eo, l[i].qo, l[i].cc, l[i].pc, l[i].ec, l[i].qc, rfl, ?_, ?_, ?_, ?_, ?_, ?_, ?_⟩
 .
  simpa [actY] using k0
 .
  simpa [actY, Nat.add_assoc] using k1
 .
  simpa [actY, Nat.add_assoc] using k2
 .
  simpa [actY, Nat.add_assoc] using k3
 .
  simpa [actY, Nat.add_assoc] using k4
 .
  simpa [actY, Nat.add_assoc] using k5
 .
  simpa [okAct] using ok
set_option maxRecDepth 100000 in
theorem open_act {r : Reach} {b0 : Nat} {v : Value} {d : DataW H} {p : List MemPlace} (hv : Value.okWide Tryz.prog W r b0 54 v) (h : DataW.Trod enc Tryz.prog W base sp held 54 v d p) (hw : ∀ k ∈ d.weights Tryz.prog 54, k <= reachBytes) :
  ∃ (a : ActB) (co po eo qo : Option Addr) (cc pc ec qc : Nat), v = .agg (actBC a co po eo qo cc pc ec qc) /\ ActBOk W a co po eo qo cc pc ec qc := by
 obtain ⟨cs, rfl, hsz⟩ := okWide_struct struct_act hv
 obtain ⟨fuel, hfu⟩ := h
 obtain ⟨x, ok, e⟩ := trod_act hfu hw
 have e' : cs.toList = (actBC x.a x.co x.po x.eo x.qo x.cc x.pc x.ec x.qc).toList := e
 rw [Array.toList_inj] at e'
 exact ⟨x.a, x.co, x.po, x.eo, x.qo, x.cc, x.pc, x.ec, x.qc, by rw [e'], ok⟩
set_option maxRecDepth 100000 in
theorem open_run {r : Reach} {b0 : Nat} {v : Value} {d : DataW H} {p : List MemPlace} (hv : Value.okWide Tryz.prog W r b0 49 v) (h : DataW.Trod enc Tryz.prog W base sp held 49 v d p) (hw : ∀ k ∈ d.weights Tryz.prog 49, k <= reachBytes) :
  ∃ (p frm til : Int) (acts : List ActB) (o : Option Addr) (c : Nat), v = .agg #[.int .i64 p, .int .i64 frm, .int .i64 til, .slice o acts.length c] /\ ActsB W o acts /\ SlW o acts.length c := by
 obtain ⟨cs, rfl, hsz⟩ := okWide_struct struct_run hv
 obtain ⟨fuel, hfu⟩ := h
 have hcs : (Value.agg cs).cells.toList = cs.toList := rfl
 rw [hcs] at hfu
 obtain ⟨hl, m, hk⟩ := trod_ones struct_run fields_run (by simp [cellsOf_int, cells_acts]) cells_run hfu hw
 obtain ⟨c0, c1, c2, c3, hc⟩ := list4 hl
 rw [hc] at hk
 obtain ⟨z0, t0, w0⟩ := hk 0 (by decide) (by simp)
 obtain ⟨z1, t1, w1⟩ := hk 1 (by decide) (by simp)
 obtain ⟨z2, t2, w2⟩ := hk 2 (by decide) (by simp)
 obtain ⟨z3, t3, w3⟩ := hk 3 (by decide) (by simp)
 obtain ⟨q0, e0, _, _⟩ := DataW.trod_int Tryz.underlying3 t0
 obtain ⟨q1, e1, _, _⟩ := DataW.trod_int Tryz.underlying3 t1
 obtain ⟨q2, e2, _, _⟩ := DataW.trod_int Tryz.underlying3 t2
 obtain ⟨o, acts, c, e3, s3, a3⟩ := open_acts t3 w3
 refine ⟨q0, q1, q2, acts, o, c, ?_, a3, s3⟩
 have hcs' : cs = #[.int .i64 q0, .int .i64 q1, .int .i64 q2, .slice o acts.length c] := by
  rw [<- Array.toList_inj, hc, show c0 = .int .i64 q0 from (List.cons.inj e0).1, show c1 = .int .i64 q1 from (List.cons.inj e1).1, show c2 = .int .i64 q2 from (List.cons.inj e2).1, show c3 = _ from e3]
 rw [hcs']
end
end Go.Proofs.YtlefmmhlpgmbjaaGreat
