/- Arguments of the types api.Log, []string, []quiltlaw41.Act, quiltlaw41.Run: opened. Arguments of the types quiltlaw41.Act, quiltlaw41.Power, [2]int: opened. law 40's 'from': it answers true where each byte is the durable one or that of a write. law DiskLoss: the walk. law PagelogDurable: the walk. -/
import Derived.Test.YtghikgjknhjjgaaDoorQ15
import Derived.Test.YtghikgjknhjjgaaDoorQ18
import Derived.Test.YtghikgjknhjjgaaDoorQ08
import Derived.Test.YtghikgjknhjjgaaDoorQ04
import Derived.Test.YtghikgjknhjjgaaDoorQ05
import Derived.Test.YtghikgjknhjjgaaDoorQ17
namespace Go.Proofs.YtghikgjknhjjgaaDoor
set_option maxRecDepth 100000
open Go.RowKit Go.ChangeShapes Go.WideShapes
section
variable {H : Type} {enc : TypeId × Value → H} {W : World} {base : Nat} {sp : Nat → Bool} {held : Bool}
theorem wts_all {P : Program} {e : TypeId} {d : DataW H} : ∀ {ds : List (DataW H)}, d ∈ ds → ∀ n ∈ d.weights P e, n ∈ DataW.weightsAll P e ds
 | x :: ds, hd, n, hn => by
  simp only [DataW.weightsAll, List.mem_append]
  rcases List.mem_cons.1 hd with rfl | h
  ·
   exact .inl hn
  ·
   exact .inr (wts_all h n hn)
/-- as open_rows; an element's own weights may be used -/
theorem open_rowsP {X : Type} [Inhabited X] {ok : X → Prop} {en : X → List Value} {t e : TypeId} {m bytes : Nat} (ht : Tryd.prog.underlying t = some (.slice e)) (hm : Tryd.prog.cellsOf e = m) (hm0 : 0 < m) (hb : Tryd.prog.bytesOf e = bytes) (hlen : ∀ x, ok x → (en x).length = m)
  (hE : ∀ n cs y, DataW.trod enc Tryd.prog W base sp held n e cs = some y → (∀ k ∈ y.1.weights Tryd.prog e, k ≤ reachBytes) → ∃ x : X, ok x ∧ cs = en x) {n : Nat} {cs : List Value} {y : DataW H × List MemPlace}
  (h : DataW.trod enc Tryd.prog W base sp held n t cs = some y) (hw : ∀ k ∈ y.1.weights Tryd.prog t, k ≤ reachBytes) :
  ∃ (o : Option Addr) (l : List X) (c : Nat), cs = [.slice o l.length c] ∧ SlW o l.length c ∧ RowAt (· < W.heap.size) W o (l.map en).flatten ∧ (∀ x ∈ l, ok x) ∧ l.length * bytes ≤ 140737488351232 := by
 rcases Deep.open_slice ht h with ⟨e0, _⟩ | ⟨a, len, cap, k, n', D, Pl, e0, hba, hl, hcap, hk, hx, hall⟩
 ·
  exact ⟨none, [], 0, e0, .inl ⟨rfl, rfl, rfl⟩, RowAt.nil _ _ _, (fun x hx => by cases hx), by simp⟩
 ·
  rw [hx] at hw
  have hle : len ≤ k := by rw [hk]; split <;> omega
  have hwD : ∀ i, i < len → ∀ q ∈ (D i).weights Tryd.prog e, q ≤ reachBytes := by
   intro i hi q hq
   refine hw q ?_
   rw [DataW.weights, ht]
   exact List.mem_cons_of_mem _ (List.mem_append_left _ (wts_all (List.mem_map.2 ⟨i, List.mem_range.2 hi, rfl⟩) q hq))
  have e1 := hw _ (by rw [DataW.weights, ht]; exact List.mem_cons_self)
  rw [hb] at e1
  simp [reachBytes] at e1
  rw [hm] at hall
  have each : ∀ i, i < len → ∃ x : X, ok x ∧ ∀ j, j < m → W.cell? ((a.add (i * m)).add j) = (en x)[j]? := by
   intro i hi
   obtain ⟨cs', h1, h2⟩ := hall i (by omega)
   obtain ⟨x, hox, rfl⟩ := hE _ _ _ h2 (hwD i hi)
   obtain ⟨_, _, h3⟩ := World.cells?_some h1
   exact ⟨x, hox, h3⟩
  obtain ⟨Q, hQ⟩ := Deep.choose_lt each
  have hok : ∀ x ∈ (List.range len).map Q, ok x := by
   intro x hx
   obtain ⟨i, hi, rfl⟩ := List.mem_map.1 hx
   exact (hQ i (List.mem_range.1 hi)).1
  have hL : ∀ x ∈ ((List.range len).map Q).map en, x.length = m := by
   intro x hx
   obtain ⟨q, hq, rfl⟩ := List.mem_map.1 hx
   exact hlen q (hok q hq)
  refine ⟨some a, (List.range len).map Q, cap, by rw [e0]; simp, .inr ⟨a, rfl, by simpa using hl, hcap⟩, ?_, hok, by rw [List.length_map, List.length_range]; exact Nat.le_trans (Nat.mul_le_mul_right _ (by omega)) e1⟩
  intro j hj
  have hfl := flat_len hL
  rw [List.length_map, List.length_map, List.length_range] at hfl
  obtain ⟨q, r, hr, rfl⟩ : ∃ q r, r < m ∧ j = q * m + r := ⟨j / m, j % m, Nat.mod_lt _ hm0, by rw [Nat.mul_comm]; exact (Nat.div_add_mod j m).symm⟩
  have hq : q < len := by
   rcases Nat.lt_or_ge q len with h | h
   ·
    exact h
   ·
    have := Nat.mul_le_mul_right m h; omega
  have hc := (hQ q hq).2 r hr
  have hg := flat_get hL q r hr
  simp only [List.getElem?_map, List.getElem?_range hq, Option.map_some, Option.bind_some] at hg
  rw [← hg, Deep.add_add, List.getElem?_eq_getElem hj] at hc
  have h00 := (hQ 0 (by omega)).2 0 hm0
  obtain ⟨b, off, rfl⟩ : ∃ b off, a = ⟨b, off, none⟩ := by
   have hz : (en (Q 0))[0]? = some ((en (Q 0))[0]'(by rw [hlen _ (hQ 0 (by omega)).1]; exact hm0)) := List.getElem?_eq_getElem _
   rw [hz] at h00
   exact addr_form (by simpa [Addr.add] using h00)
  rw [Addr.add_lit] at hc
  exact ⟨b, off, rfl, hc, World.block_lt_of_cell? W _ hc⟩
theorem list4 {α : Type} {cs : List α} (h : cs.length = 4) : ∃ c0 c1 c2 c3, cs = [c0, c1, c2, c3] := by
 match cs, h with
 | [c0, c1, c2, c3], _ => exact ⟨c0, c1, c2, c3, rfl⟩
/-- a struct of four one-cell fields, by its cells -/
theorem trod_one4 {P : Program} {t : TypeId} {f0 f1 f2 f3 : Field} {cs : List Value} {n : Nat} {y : DataW H × List MemPlace} (hs : P.underlying t = some (.struct #[f0, f1, f2, f3])) (hone : Deep.oneCellFields P #[f0, f1, f2, f3] = true) (hC : P.cellsOf t = 4)
  (h : DataW.trod enc P W base sp held n t cs = some y) :
  ∃ (v0 v1 v2 v3 : Value) (y0 y1 y2 y3 : DataW H × List MemPlace) (n : Nat), cs = [v0, v1, v2, v3] ∧ y.1 = .agg [y0.1, y1.1, y2.1, y3.1] ∧
   DataW.trod enc P W base sp held n f0.type [v0] = some y0 ∧ DataW.trod enc P W base sp held n f1.type [v1] = some y1 ∧ DataW.trod enc P W base sp held n f2.type [v2] = some y2 ∧ DataW.trod enc P W base sp held n f3.type [v3] = some y3 := by
 obtain ⟨y0, y1, y2, y3, m, hx, hl, h0, h1, h2, h3⟩ := Go.Joins.trod_struct4 hs h
 obtain ⟨c0, c1, c2, c3, rfl⟩ := list4 (hl.trans hC)
 obtain ⟨o0, k0⟩ := Deep.hone_of hone 0 f0 rfl
 obtain ⟨o1, k1⟩ := Deep.hone_of hone 1 f1 rfl
 obtain ⟨o2, k2⟩ := Deep.hone_of hone 2 f2 rfl
 obtain ⟨o3, k3⟩ := Deep.hone_of hone 3 f3 rfl
 exact ⟨c0, c1, c2, c3, y0, y1, y2, y3, m, rfl, by rw [hx], by simpa [o0, k0] using h0, by simpa [o1, k1] using h1, by simpa [o2, k2] using h2, by simpa [o3, k3] using h3⟩
theorem open_recs {r : Reach} {b0 : Nat} {v : Value} {d : DataW H} {p : List MemPlace} (hv : Value.okWide Tryd.prog W r b0 27 v) (h : DataW.Trod enc Tryd.prog W base sp held 27 v d p) (hw : ∀ k ∈ d.weights Tryd.prog 27, k ≤ reachBytes) :
  ∃ (o : Option Addr) (l : List ByteArray) (c : Nat), v = .slice o l.length c ∧ SlW o l.length c ∧ StrsAt (· < W.heap.size) W o l := by
 obtain ⟨a0, len0, cap0, rfl⟩ := okWide_slice Tryd.underlying27 hv
 obtain ⟨fuel, hf⟩ := h
 obtain ⟨o, l, c, e, h1, h2, _, _⟩ := open_strs (v := .slice a0 len0 cap0) hf hw
 exact ⟨o, l, c, e, h1, h2⟩
theorem cellsOf_act : Tryd.prog.cellsOf 38 = 4 := by kernel_rfl
theorem bytes_act : Tryd.prog.bytesOf 38 = 64 := by kernel_rfl
instance : Inhabited ActA := ⟨⟨0, [], 0, []⟩⟩
/-- an act with its two slices -/
structure ActX where
 a : ActA
 ro : Option Addr
 po : Option Addr
 rc : Nat
 pc : Nat
instance : Inhabited ActX := ⟨⟨default, none, none, 0, 0⟩⟩
def actX (x : ActX) : List Value := [.int .i64 x.a.kind, .slice x.ro x.a.recs.length x.rc, .int .u8 x.a.n, .slice x.po x.a.picks.length x.pc]
theorem ints_flat : ∀ l : List Int, (l.map fun x => [Value.int .i64 x]).flatten = l.map (.int .i64)
 | [] => rfl
 | x :: l => by rw [List.map_cons, List.flatten_cons, ints_flat l]; rfl
set_option maxRecDepth 100000 in
theorem open_intsT {n : Nat} {v : Value} {y : DataW H × List MemPlace} (h : DataW.trod enc Tryd.prog W base sp held n 36 [v] = some y) (hw : ∀ k ∈ y.1.weights Tryd.prog 36, k ≤ reachBytes) :
  ∃ (o : Option Addr) (l : List Int) (c : Nat), v = .slice o l.length c ∧ SlW o l.length c ∧ IntsAt (· < W.heap.size) W o l ∧ ∀ x ∈ l, -9223372036854775808 ≤ x ∧ x ≤ 9223372036854775807 := by
 obtain ⟨o, l, c, e, hs, hr, hok, _⟩ := open_rowsP (X := Int) (ok := fun x => -9223372036854775808 ≤ x ∧ x ≤ 9223372036854775807) (en := fun x => [.int .i64 x]) Tryd.underlying36 cellsOf_int (by decide) bytes_int (fun _ _ => rfl)
  (fun n cs y h _ => by
   obtain ⟨q, e0, _, wf⟩ := DataW.trod_int Tryd.underlying3 h
   exact ⟨q, by simpa [Lit.wf, IntKind.min, IntKind.max, IntKind.signed, IntKind.bits] using wf, e0⟩) h hw
 refine ⟨o, l, c, (List.cons.inj e).1, hs, .of_row ?_, hok⟩
 rw [← ints_flat]; exact hr
def okAct (W : World) (x : ActX) : Prop := ActOk W x.a x.ro x.po x.rc x.pc
set_option maxRecDepth 100000 in
theorem trod_act {n : Nat} {cs : List Value} {y : DataW H × List MemPlace} (h : DataW.trod enc Tryd.prog W base sp held n 38 cs = some y) (hw : ∀ k ∈ y.1.weights Tryd.prog 38, k ≤ reachBytes) :
  ∃ x : ActX, okAct W x ∧ cs = actX x := by
 obtain ⟨v0, v1, v2, v3, y0, y1, y2, y3, n, rfl, hd, h0, h1, h2, h3⟩ := trod_one4 Tryd.underlying38 (by kernel_rfl) cellsOf_act h
 rw [hd, DataW.weights, Tryd.underlying38] at hw
 obtain ⟨kd, e0, _, wk⟩ := DataW.trod_int Tryd.underlying3 h0
 obtain ⟨q, e2, _, wq⟩ := DataW.trod_int Tryd.underlying5 h2
 obtain rfl := (List.cons.inj e0).1
 obtain rfl := (List.cons.inj e2).1
 obtain ⟨ro, recs, rc, rfl, s1, a1, _, _⟩ := open_strs h1 (fun k hk => hw k (DataW.weights_mem_each (j := 1) (t := 27) rfl rfl k hk))
 obtain ⟨po, picks, pc, rfl, s2, a2, b2⟩ := open_intsT h3 (fun k hk => hw k (DataW.weights_mem_each (j := 3) (t := 36) rfl rfl k hk))
 have wk' : -9223372036854775808 ≤ kd ∧ kd ≤ 9223372036854775807 := by simpa [Lit.wf, IntKind.min, IntKind.max, IntKind.signed, IntKind.bits] using wk
 have wq' : 0 ≤ q ∧ q ≤ 255 := by simpa [Lit.wf, IntKind.min, IntKind.max, IntKind.signed, IntKind.bits] using wq
 obtain ⟨m, rfl⟩ : ∃ m : Nat, q = m := ⟨q.toNat, by omega⟩
 exact ⟨⟨⟨kd, recs, m, picks⟩, ro, po, rc, pc⟩, ⟨s1, s2, a1, a2, wk', by simp only; omega, b2⟩, rfl⟩
theorem actX_len {l : List ActX} : ∀ x ∈ l.map actX, x.length = 4 := by
 intro x hx
 obtain ⟨q, _, rfl⟩ := List.mem_map.1 hx
 rfl
set_option maxRecDepth 100000 in
theorem open_acts {n : Nat} {v : Value} {y : DataW H × List MemPlace} (h : DataW.trod enc Tryd.prog W base sp held n 22 [v] = some y) (hw : ∀ k ∈ y.1.weights Tryd.prog 22, k ≤ reachBytes) :
  ∃ (o : Option Addr) (l : List ActA) (c : Nat), v = .slice o l.length c ∧ SlW o l.length c ∧ ActsAt W o l := by
 obtain ⟨o, l, c, e, hs, hr, hok, _⟩ := open_rowsP (X := ActX) (ok := okAct W) (en := actX) Tryd.underlying22 cellsOf_act (by decide) bytes_act (fun _ _ => rfl) (fun n cs y h hw => trod_act h hw) h hw
 refine ⟨o, l.map (·.a), c, by rw [List.length_map]; exact (List.cons.inj e).1, by rw [List.length_map]; exact hs, ?_⟩
 intro i hi
 have hi' : i < l.length := by simpa using hi
 have hl := flat_len (actX_len (l := l))
 rw [List.length_map] at hl
 have hc : ∀ r, r < 4 → ∃ b off, o = some ⟨b, off, none⟩ ∧ W.cell? ⟨b, off + (i * 4 + r), none⟩ = (actX l[i])[r]? := by
  intro r hr4
  obtain ⟨b, off, eo, hcell, _⟩ := hr (i * 4 + r) (by omega)
  refine ⟨b, off, eo, ?_⟩
  have hg := flat_get (actX_len (l := l)) i r hr4
  rw [List.getElem?_map, List.getElem?_eq_getElem hi', Option.map_some, Option.bind_some] at hg
  rw [hcell, ← hg]
  exact (List.getElem?_eq_getElem _).symm
 obtain ⟨b, off, rfl, k0⟩ := hc 0 (by decide)
 obtain ⟨b1, off1, q1, k1⟩ := hc 1 (by decide)
 obtain ⟨b2, off2, q2, k2⟩ := hc 2 (by decide)
 obtain ⟨b3, off3, q3, k3⟩ := hc 3 (by decide)
 obtain ⟨rfl, rfl⟩ : b = b1 ∧ off = off1 := by simpa using q1
 obtain ⟨rfl, rfl⟩ : b = b2 ∧ off = off2 := by simpa using q2
 obtain ⟨rfl, rfl⟩ : b = b3 ∧ off = off3 := by simpa using q3
 have ok := hok l[i] (List.getElem_mem hi')
 refine ⟨b, off, l[i].ro, l[i].rc, l[i].po, l[i].pc, rfl, ?_, ?_, ?_, ?_, ?_⟩
 ·
  simpa [actX] using k0
 ·
  simpa [actX, Nat.add_assoc] using k1
 ·
  simpa [actX, Nat.add_assoc] using k2
 ·
  simpa [actX, Nat.add_assoc] using k3
 ·
  simpa [okAct] using ok
theorem cellsOf_acts : Tryd.prog.cellsOf 22 = 1 := by kernel_rfl
theorem cellsOf_run : Tryd.prog.cellsOf 24 = 5 := by kernel_rfl
theorem structRun : Tryd.prog.underlying 24 = some (.struct (Tryd.prog.fieldsOf 24)) := by kernel_rfl
theorem fieldsRun : (Tryd.prog.fieldsOf 24).toList.map (fun f => (f.type, f.offset)) = [(3, 0), (3, 1), (3, 2), (3, 3), (22, 4)] := by kernel_rfl
set_option maxRecDepth 100000 in
theorem open_run {r : Reach} {b0 : Nat} {v : Value} {d : DataW H} {p : List MemPlace} (hv : Value.okWide Tryd.prog W r b0 24 v) (h : DataW.Trod enc Tryd.prog W base sp held 24 v d p) (hw : ∀ k ∈ d.weights Tryd.prog 24, k ≤ reachBytes) :
  ∃ (p s frm til : Int) (acts : List ActA) (o : Option Addr) (c : Nat), v = .agg #[.int .i64 p, .int .i64 s, .int .i64 frm, .int .i64 til, .slice o acts.length c] ∧ ActsAt W o acts ∧ SlW o acts.length c := by
 obtain ⟨cs, rfl, hsz⟩ := okWide_struct structRun hv
 rw [cellsOf_run] at hsz
 obtain ⟨fuel, hfu⟩ := h
 have hf := fieldsRun
 obtain ⟨xs, m, _, hy, hl, hx, hall⟩ := DataW.trod_struct structRun hfu
 have hd : d = .agg (xs.map (·.1)) := congrArg Prod.fst hy
 have hw' : ∀ k ∈ DataW.weightsEach Tryd.prog ((Tryd.prog.fieldsOf 24).toList.map (·.type)) (xs.map (·.1)), k ≤ reachBytes := by
  intro k hk
  refine hw k ?_
  rw [hd, DataW.weights, structRun]
  exact hk
 have hcs : (Value.agg cs).cells.toList = cs.toList := rfl
 rw [hcs] at hall
 have hall' : ∀ (i : Nat) (f : Field), (Tryd.prog.fieldsOf 24).toList[i]? = some f → DataW.trod enc Tryd.prog W base sp held m f.type ((cs.toList.drop f.offset).take (Tryd.prog.cellsOf f.type)) = xs[i]? := fun i f e => hall i f (by rw [← Array.getElem?_toList]; exact e)
 have hx' : xs.length = (Tryd.prog.fieldsOf 24).toList.length := by rw [hx]; rfl
 generalize (Tryd.prog.fieldsOf 24).toList = fs at *
 have hl5 : fs.length = 5 := by simpa using congrArg List.length hf
 match fs, hl5 with
 | [f1, f2, f3, f4, f5], _ =>
  simp only [List.map_cons, List.map_nil, List.cons.injEq, Prod.mk.injEq, and_true] at hf
  obtain ⟨⟨t1, o1⟩, ⟨t2, o2⟩, ⟨t3, o3⟩, ⟨t4, o4⟩, ⟨t5, o5⟩⟩ := hf
  have h1 := hall' 0 f1 rfl
  have h2 := hall' 1 f2 rfl
  have h3 := hall' 2 f3 rfl
  have h4 := hall' 3 f4 rfl
  have h5 := hall' 4 f5 rfl
  simp only [List.length_cons, List.length_nil] at hx'
  rw [t1, o1, cellsOf_int, List.getElem?_eq_getElem (by omega)] at h1
  rw [t2, o2, cellsOf_int, List.getElem?_eq_getElem (by omega)] at h2
  rw [t3, o3, cellsOf_int, List.getElem?_eq_getElem (by omega)] at h3
  rw [t4, o4, cellsOf_int, List.getElem?_eq_getElem (by omega)] at h4
  rw [t5, o5, cellsOf_acts, List.getElem?_eq_getElem (by omega)] at h5
  obtain ⟨q1, e1, _, _⟩ := DataW.trod_int Tryd.underlying3 h1
  obtain ⟨q2, e2, _, _⟩ := DataW.trod_int Tryd.underlying3 h2
  obtain ⟨q3, e3, _, _⟩ := DataW.trod_int Tryd.underlying3 h3
  obtain ⟨q4, e4, _, _⟩ := DataW.trod_int Tryd.underlying3 h4
  have hL : cs.toList.length = 5 := by simpa using hsz
  have g5 : (cs.toList.drop 4).take 1 = cs.toList.drop 4 := List.take_of_length_le (by rw [List.length_drop]; omega)
  obtain ⟨z, hz⟩ : ∃ z, cs.toList.drop 4 = [z] := by
   have : (cs.toList.drop 4).length = 1 := by rw [List.length_drop]; omega
   match cs.toList.drop 4, this with
   | [z], _ => exact ⟨z, rfl⟩
  rw [g5, hz] at h5
  obtain ⟨o, acts, c, e5, s5, a5⟩ := open_acts h5 (fun k hk => hw' k (DataW.weights_mem_each (j := 4) (t := 22) (d := (xs[4]'(by omega)).1) (by simp [t5]) (by rw [List.getElem?_map, List.getElem?_eq_getElem (by omega)]; rfl) k hk))
  have st : ∀ a m, cs.toList.drop a = (cs.toList.drop a).take m ++ cs.toList.drop (a + m) := fun a m => by rw [← List.drop_drop, List.take_append_drop]
  have k0 : cs.toList.drop 0 = (cs.toList.drop 0).take 1 ++ cs.toList.drop 1 := st 0 1
  have k1 : cs.toList.drop 1 = (cs.toList.drop 1).take 1 ++ cs.toList.drop 2 := st 1 1
  have k2 : cs.toList.drop 2 = (cs.toList.drop 2).take 1 ++ cs.toList.drop 3 := st 2 1
  have k3 : cs.toList.drop 3 = (cs.toList.drop 3).take 1 ++ cs.toList.drop 4 := st 3 1
  rw [e4, hz, e5] at k3
  rw [e3, k3] at k2
  rw [e2, k2] at k1
  rw [e1, k1] at k0
  have hcs' : cs = #[.int .i64 q1, .int .i64 q2, .int .i64 q3, .int .i64 q4, .slice o acts.length c] := by
   rw [← Array.toList_inj]
   exact k0
  rw [hcs']
  exact ⟨q1, q2, q3, q4, acts, o, c, rfl, a5, s5⟩
end
end Go.Proofs.YtghikgjknhjjgaaDoor
namespace Go.Proofs.YtghikgjknhjjgaaDoor
set_option maxRecDepth 100000
open Go.RowKit Go.ChangeShapes Go.WideShapes
theorem okWide_arr {P : Program} {w : World} {r : Reach} {b0 : Nat} {t : TypeId} {v : Value} {n : Nat} {e : TypeId} (ht : P.underlying t = some (.array n e)) (h : Value.okWide P w r b0 t v) : ∃ cs, v = .agg cs ∧ cs.size = P.cellsOf t := by
 simp only [Value.okWide, ht] at h
 obtain ⟨cs, h1, h2, _⟩ := h
 exact ⟨cs, h1, h2⟩
theorem list2 {α : Type} {cs : List α} (h : cs.length = 2) : ∃ c0 c1, cs = [c0, c1] := by
 match cs, h with
 | [c0, c1], _ => exact ⟨c0, c1, rfl⟩
section
variable {H : Type} {enc : TypeId × Value → H} {W : World} {base : Nat} {sp : Nat → Bool} {held : Bool}
theorem structAct : Tryd.prog.underlying 38 = some (.struct (Tryd.prog.fieldsOf 38)) := by kernel_rfl
theorem structPower : Tryd.prog.underlying 48 = some (.struct (Tryd.prog.fieldsOf 48)) := by kernel_rfl
theorem cellsOf_power : Tryd.prog.cellsOf 48 = 2 := by kernel_rfl
theorem fieldsPower : (Tryd.prog.fieldsOf 48).toList.map (fun f => (f.type, f.offset)) = [(5, 0), (36, 1)] := by kernel_rfl
theorem cellsOf_u8' : Tryd.prog.cellsOf 5 = 1 := by kernel_rfl
theorem cellsOf_ints' : Tryd.prog.cellsOf 36 = 1 := by kernel_rfl
theorem cellsOf_pair : Tryd.prog.cellsOf 55 = 2 := by kernel_rfl
set_option maxRecDepth 100000 in
theorem open_act {r : Reach} {b0 : Nat} {v : Value} {d : DataW H} {p : List MemPlace} (hv : Value.okWide Tryd.prog W r b0 38 v) (h : DataW.Trod enc Tryd.prog W base sp held 38 v d p) (hw : ∀ k ∈ d.weights Tryd.prog 38, k ≤ reachBytes) :
  ∃ (a : ActA) (ro po : Option Addr) (rc pc : Nat), v = .agg (actC a ro po rc pc) ∧ ActOk W a ro po rc pc := by
 obtain ⟨cs, rfl, hsz⟩ := okWide_struct structAct hv
 obtain ⟨fuel, hfu⟩ := h
 obtain ⟨x, hok, e⟩ := trod_act hfu hw
 have hcs : cs.toList = actX x := e
 have hcs' : cs = actC x.a x.ro x.po x.rc x.pc := by
  rw [← Array.toList_inj]
  exact hcs
 rw [hcs']
 exact ⟨x.a, x.ro, x.po, x.rc, x.pc, rfl, hok⟩
set_option maxRecDepth 100000 in
theorem open_power {r : Reach} {b0 : Nat} {v : Value} {d : DataW H} {p : List MemPlace} (hv : Value.okWide Tryd.prog W r b0 48 v) (h : DataW.Trod enc Tryd.prog W base sp held 48 v d p) (hw : ∀ k ∈ d.weights Tryd.prog 48, k ≤ reachBytes) :
  ∃ (left : Nat) (picks : List Int) (o : Option Addr) (c : Nat), v = .agg #[.int .u8 left, .slice o picks.length c] ∧ left < 256 ∧ SlW o picks.length c ∧ IntsAt (· < W.heap.size) W o picks := by
 obtain ⟨cs, rfl, hsz⟩ := okWide_struct structPower hv
 rw [cellsOf_power] at hsz
 obtain ⟨fuel, hfu⟩ := h
 have hf := fieldsPower
 obtain ⟨xs, m, _, hy, hl, hx, hall⟩ := DataW.trod_struct structPower hfu
 have hd : d = .agg (xs.map (·.1)) := congrArg Prod.fst hy
 have hw' : ∀ k ∈ DataW.weightsEach Tryd.prog ((Tryd.prog.fieldsOf 48).toList.map (·.type)) (xs.map (·.1)), k ≤ reachBytes := by
  intro k hk
  refine hw k ?_
  rw [hd, DataW.weights, structPower]
  exact hk
 have hcs : (Value.agg cs).cells.toList = cs.toList := rfl
 rw [hcs] at hall
 have hall' : ∀ (i : Nat) (f : Field), (Tryd.prog.fieldsOf 48).toList[i]? = some f → DataW.trod enc Tryd.prog W base sp held m f.type ((cs.toList.drop f.offset).take (Tryd.prog.cellsOf f.type)) = xs[i]? := fun i f e => hall i f (by rw [← Array.getElem?_toList]; exact e)
 have hx' : xs.length = (Tryd.prog.fieldsOf 48).toList.length := by rw [hx]; rfl
 generalize (Tryd.prog.fieldsOf 48).toList = fs at *
 have hl5 : fs.length = 2 := by simpa using congrArg List.length hf
 match fs, hl5 with
 | [f1, f2], _ =>
  simp only [List.map_cons, List.map_nil, List.cons.injEq, Prod.mk.injEq, and_true] at hf
  obtain ⟨⟨t1, o1⟩, ⟨t2, o2⟩⟩ := hf
  have h1 := hall' 0 f1 rfl
  have h2 := hall' 1 f2 rfl
  simp only [List.length_cons, List.length_nil] at hx'
  rw [t1, o1, cellsOf_u8', List.getElem?_eq_getElem (by omega)] at h1
  rw [t2, o2, cellsOf_ints', List.getElem?_eq_getElem (by omega)] at h2
  obtain ⟨z1, z2, hz⟩ := list2 (cs := cs.toList) (by simpa using hsz)
  rw [hz] at h1 h2
  simp only [List.drop_zero, List.take_succ_cons, List.take_zero, List.drop_succ_cons] at h1 h2
  obtain ⟨q1, e1, _, w1⟩ := DataW.trod_int Tryd.underlying5 h1
  obtain ⟨o, picks, c, e2, s2, a2, _⟩ := open_intsT h2 (fun k hk => hw' k (DataW.weights_mem_each (j := 1) (t := 36) (d := (xs[1]'(by omega)).1) (by simp [t2]) (by rw [List.getElem?_map, List.getElem?_eq_getElem (by omega)]; rfl) k hk))
  have hb := Go.bounds_u8 w1
  obtain ⟨n, rfl⟩ : ∃ n : Nat, q1 = n := ⟨q1.toNat, by omega⟩
  obtain rfl := (List.cons.inj e1).1
  subst e2
  have hcs' : cs = #[.int .u8 n, .slice o picks.length c] := by
   rw [← Array.toList_inj]
   exact hz
  rw [hcs']
  exact ⟨n, picks, o, c, rfl, by omega, s2, a2⟩
set_option maxRecDepth 100000 in
theorem open_pair {r : Reach} {b0 : Nat} {v : Value} {d : DataW H} {p : List MemPlace} (hv : Value.okWide Tryd.prog W r b0 55 v) (h : DataW.Trod enc Tryd.prog W base sp held 55 v d p) :
  ∃ x y : Int, v = .agg #[.int .i64 x, .int .i64 y] := by
 obtain ⟨cs, rfl, hsz⟩ := okWide_arr Tryd.underlying55 hv
 rw [cellsOf_pair] at hsz
 obtain ⟨fuel, hf⟩ := h
 obtain ⟨xs, m, _, hx, hl, hx3, hall⟩ := DataW.trod_array Tryd.underlying55 hf
 rw [cellsOf_int] at hall
 have hcs : (Value.agg cs).cells.toList = cs.toList := rfl
 rw [hcs] at hall
 obtain ⟨z1, z2, hz⟩ := list2 (cs := cs.toList) (by simpa using hsz)
 have h0 := hall 0 (by decide)
 have h1 := hall 1 (by decide)
 rw [hz] at h0 h1
 rw [List.getElem?_eq_getElem (by omega)] at h0 h1
 simp only [Nat.zero_mul, Nat.one_mul, List.drop_zero, List.take_succ_cons, List.take_zero, List.drop_succ_cons] at h0 h1
 obtain ⟨q0, e0, _, _⟩ := DataW.trod_int Tryd.underlying3 h0
 obtain ⟨q1, e1, _, _⟩ := DataW.trod_int Tryd.underlying3 h1
 obtain rfl := (List.cons.inj e0).1
 obtain rfl := (List.cons.inj e1).1
 exact ⟨q0, q1, by congr 1; rw [← Array.toList_inj]; exact hz⟩
end
end Go.Proofs.YtghikgjknhjjgaaDoor
namespace Go.Proofs.YtghikgjknhjjgaaDoor
set_option maxRecDepth 100000
open Go.RowKit
/-- the answer on byte j, the first m writes of the cache looked at -/
def OkF (d : Dsk) (k : Nat) (page after : ByteArray) (j m : Nat) (b : Bool) : Prop := (byteAt after j = byteAt page j ∨ ∃ x ∈ d.cache.take m, x.page = k ∧ byteAt after j = byteAt x.data j) → b = true
theorem OkF.none {d : Dsk} {k : Nat} {page after : ByteArray} {j : Nat} {b : Bool} (h : b = true ↔ byteAt after j = byteAt page j) : OkF d k page after j 0 b := by
 rintro (h' | ⟨x, hx, _⟩)
 ·
  exact h.2 h'
 ·
  simp at hx
theorem OkF.next {d : Dsk} {k : Nat} {page after : ByteArray} {j m : Nat} {b b' : Bool} (h : OkF d k page after j m b) (hm : m < d.cache.length) (h1 : b = true → b' = true) (h2 : d.cache[m].page = k → byteAt after j = byteAt d.cache[m].data j → b' = true) : OkF d k page after j (m + 1) b' := by
 rintro (h' | ⟨x, hx, e1, e2⟩)
 ·
  exact h1 (h (.inl h'))
 ·
  rw [List.take_succ_eq_append_getElem hm] at hx
  rcases List.mem_append.1 hx with hx | hx
  ·
   exact h1 (h (.inr ⟨x, hx, e1, e2⟩))
  ·
   obtain rfl := List.mem_singleton.1 hx
   exact h2 e1 e2
end Go.Proofs.YtghikgjknhjjgaaDoor
namespace Go.Proofs.YtghikgjknhjjgaaDoor
set_option maxRecDepth 100000
open Go.RowKit
/-- the annotation of a new box -/
def annB (cs : Array Value) (t : TypeId) : Ann := ⟨fun r => .pointer (some ⟨r.lo, 0, none⟩), fun r W => Bx W r.lo cs t ∧ r.hi = r.lo + 1⟩
theorem lz_box {cs : Array Value} {t : TypeId} (w : World) : lzPost (annB cs t) w (.pointer (some ⟨w.heap.size, 0, none⟩)) (w.alloc (.cells cs t)) :=
 ⟨Below.one _ _, fun _ => undef, rfl, fun _ hb => ⟨(Bx.new w cs t).belowAll hb, by simp⟩⟩
end Go.Proofs.YtghikgjknhjjgaaDoor
namespace Go.Proofs.YtghikgjknhjjgaaDoor
set_option maxRecDepth 100000
open Go.RowKit
set_option maxHeartbeats 4000000 in
theorem law41_durable (w : World) (p s frm til : Int) (acts : List ActA) (o : Option Addr) (c : Nat) (hA : ActsAt w o acts) (hsl : SlW o acts.length c) (picks : List Int) (qo : Option Addr) (qc : Nat) (hq : IntsAt (· < w.heap.size) w qo picks) (hT : TabW w) :
  Calls Tryd.prog 4 #[.agg #[.int .i64 p, .int .i64 s, .int .i64 frm, .int .i64 til, .slice o acts.length c], .slice qo picks.length qc] w fun e w' => e = .returned (.bool true) ∧ Below w.heap.size w w' := by
 obtain ⟨W1, hW1⟩ : ∃ W1, w.alloc (.cells #[.int .i64 p, .int .i64 s, .int .i64 frm, .int .i64 til, .slice o acts.length c] 24) = W1 := ⟨_, rfl⟩
 have hB1 : Below w.heap.size w W1 := by subst hW1; exact Below.one w _
 have x1 : Bx W1 w.heap.size #[.int .i64 p, .int .i64 s, .int .i64 frm, .int .i64 til, .slice o acts.length c] 24 := by subst hW1; exact Bx.new w _ _
 have c0 := x1.cell
 have l0 := x1.lt
 have hrc := rn_Reached p s frm til acts o c W1 (hA.below hB1) hsl (hT.below hB1)
 have hso := reach_sound (p := p) (s := s) (frm := frm) (til := til) (acts := acts)
 obtain ⟨l, ok, hR⟩ : ∃ l ok, reachL p s frm til acts = (l, ok) := ⟨_, _, rfl⟩
 rw [hR] at hrc hso
 simp only at hso hrc
 have HS := Lib.hid hso
 clear hso hR
 go_enter Tryd.func4, Tryd.ntmps4
 go_wp2_with fail
 refine hrc.mono ?_
 rintro e w2 ⟨v2, rfl, hv2, hb2⟩
 have hv := hv2
 obtain ⟨po, pc, co, cc, ro, rc, rfl, -, -, -⟩ := hv2
 have hB2 := btr hB1 hb2
 have hBo := Below.one w2 (.cells (lgC l.disk po co pc cc l.frm l.til l.ver ro l.recs.length rc) 32)
 have xl := Bx.new w2 (lgC l.disk po co pc cc l.frm l.til l.ver ro l.recs.length rc) 32
 have hV := hv.below hBo
 have hB := btr hB2 hBo
 clear hrc hv hBo c0 l0 x1
 go_upto_region 2 with fail
 obtain ⟨b, hbe⟩ : ∃ b, w2.heap.size = b := ⟨_, rfl⟩
 have hwb : w.heap.size ≤ b := by have := hB2.size; omega
 obtain ⟨W4, hW4⟩ : ∃ W4, w2.alloc (.cells (lgC l.disk po co pc cc l.frm l.til l.ver ro l.recs.length rc) 32) = W4 := ⟨_, rfl⟩
 simp only [hW4, hbe] at *
 clear hW4 hbe hB2 hb2
 have c0 := xl.cell
 have l0 := xl.lt
 cases ok with
 | false =>
  go_wp2_with fail
  refine (law41_awake _ (hT.below hB)).mono ?_
  rintro e w3 ⟨rfl, hb3⟩
  go_wp2
  go_ret
  exact ⟨rfl, btr hB hb3⟩
 | true =>
  cases g2 : decide ((20 : Int) < (picks.length : Int))
  ·
   have hpl := of_decide_eq_false g2
   cases g3 : (l.disk.left == 0)
   ·
    obtain ⟨hs, hbd, hbr⟩ := HS.out rfl
    have hgood : ∃ U, U ≤ 11 ∧ LogG l frm til U := by
     rcases hs with hs | ⟨_, _, h0, _⟩
     ·
      exact hs
     ·
      rw [h0] at g3; exact absurd g3 (by decide)
    obtain ⟨U, hU, hg⟩ := hgood
    obtain ⟨C, hC⟩ : ∃ C, crashD l.disk picks = C := ⟨_, rfl⟩
    obtain ⟨F, hF⟩ : ∃ F, F = { l with disk := C } := ⟨_, rfl⟩
    have hop0 := hg.crash picks
    rw [hC, ← hF] at hop0
    have hFv : F.ver = l.ver := by rw [hF]
    have hFr : F.recs = l.recs := by rw [hF]
    have hV0 := hV
    obtain ⟨po', pc', co', cc', ro', rc', e, hD, hsl2, hst⟩ := hV
    simp only [Value.agg.injEq, Array.mk.injEq, List.cons.injEq, Value.slice.injEq, and_true, true_and] at e
    obtain ⟨⟨rfl, rfl⟩, ⟨rfl, rfl⟩, rfl, rfl⟩ := e
    have hcr := fun W (hb : Below W4.heap.size W4 W) => v_crash l.disk _ picks qo qc W (hD.below hb) (hq.below (btr hB hb)) (by omega) (by omega) hC
    have hop := fun v W (hv : DskV W v C) => pl_Open C v l.frm l.til W hv
    rw [hop0] at hop
    have Hcr := Lib.hid hcr
    have Hop := Lib.hid hop
    have HFv := Lib.hid hFv
    have HFr := Lib.hid hFr
    clear hcr hop hop0 hC hF hFv hFr hg hs hbd hbr HS hD
    have cQ := Lat.cells W4
    go_upto_region 4 with fail
    refine wp_region_late 13 11 2 #[true, true, true, true, true, true, true, true, true, true, true, false, true, false, false] #[true, true, true, true, true, true, true, true, true, true, true, true, true, false, false] (fun i => if i = 3 then some (annDv C) else if i = 8 then some (annLE F 0) else if i = 12 then some (annB lgZ 32) else none) _ (by kernel_rfl) rfl (by rfl) (by rfl) (by kernel_rfl) (by rfl) rfl (fun _ _ _ _ h => h) (extract_pure _ _ rfl) ?_
    simp only [List.take_succ_cons, List.take_zero]
    refine LW.block 3 3 (by rfl) (by kernel_rfl) (by kernel_rfl) ?_
    simp only [List.take_succ_cons, List.take_zero, List.drop_succ_cons, List.drop_zero]
    repeat (first | go_big_quiet_skip | (go_big_quiet_want; go_big_quiet_op; go_big_quiet_on))
    refine wpQuiet_nil ?_
    refine LW.lzy _ (by rfl) (by rfl) ?_ ?_
    ·
     intro yL _
     unfold lzAt
     go_simp
     exact lz_dv (Hcr.out _ yL.h)
    intro r3
    simp only [Act.put, List.setIfInBounds_toArray, List.set_cons_zero, List.set_cons_succ, annDv]
    refine LW.block 4 8 (by rfl) (by kernel_rfl) (by kernel_rfl) ?_
    simp only [List.take_succ_cons, List.take_zero, List.drop_succ_cons, List.drop_zero]
    repeat (first | go_big_quiet_skip | (go_big_quiet_want; go_big_quiet_op; go_big_quiet_on))
    refine wpQuiet_nil ?_
    refine LW.lzy _ (by rfl) (by rfl) ?_ ?_
    ·
     intro yL hf
     have hd : DskV yL.w (r3.x 0) C := (hf 3 (by kernel_rfl)).get (j := 3) rfl rfl
     unfold lzAt
     go_simp
     exact lz_le (Hop.out _ _ hd)
    intro r8
    simp only [Act.put, List.setIfInBounds_toArray, List.set_cons_zero, List.set_cons_succ, annLE]
    refine LW.block 3 12 (by rfl) (by kernel_rfl) (by kernel_rfl) ?_
    simp only [List.take_succ_cons, List.take_zero, List.drop_succ_cons, List.drop_zero]
    repeat (first | go_big_quiet_skip | (go_big_quiet_want; go_big_quiet_op; go_big_quiet_on))
    refine wpQuiet_nil ?_
    refine LW.lzy _ (by rfl) (by rfl) ?_ ?_
    ·
     intro yL _
     unfold lzAt
     go_simp
     exact lz_box yL.w
    intro r12
    simp only [Act.put, List.setIfInBounds_toArray, List.set_cons_zero, List.set_cons_succ, annB]
    refine LW.done ?_
    intro w5 hG
    have hv5 : LgV w5 (r8.x 0) F := hG.get 8 rfl rfl
    obtain ⟨xb, -⟩ : Bx w5 r12.lo lgZ 32 ∧ r12.hi = r12.lo + 1 := hG.get 12 rfl rfl
    have hb5 := hG.below
    have hrange := hG.range 12 r12 rfl
    obtain ⟨b2, hb2e⟩ : ∃ b2, r12.lo = b2 := ⟨_, rfl⟩
    obtain ⟨v5, hv5e⟩ : ∃ v5, r8.x 0 = v5 := ⟨_, rfl⟩
    rw [hb2e] at hrange
    rw [hv5e] at hv5 ⊢
    rw [hb2e] at xb ⊢
    clear hG hv5e c0 l0 cQ Hcr Hop
    have hv6 := hv5
    obtain ⟨fp, gp, fc, gc, fr, gr, rfl, -, -, -⟩ := hv5
    have hlt4 := xl.lt
    have z5 := xl.belowAll hb5
    have hB5 := btr hB hb5
    have cb := xb.cell
    have lb := xb.lt
    have fb := xb.free
    obtain ⟨Wf, hWf⟩ : ∃ Wf, st8 w5 b2 (.int .i64 F.disk.size) (.slice fp F.disk.pages.length gp) (.slice fc F.disk.cache.length gc) (.int .i64 F.disk.left) (.int .i64 F.frm) (.int .i64 F.til) (.int .i64 F.ver) (.slice fr F.recs.length gr) = Wf := ⟨_, rfl⟩
    have ho : Only b2 w5 Wf := by subst hWf; exact Only.eight
    have hn : b ≠ b2 := by have := hrange.1; omega
    have xf : Bx Wf b2 (lgC F.disk fp fc gp gc F.frm F.til F.ver fr F.recs.length gr) 32 := by subst hWf; exact xb.set8
    have hBf : Below w.heap.size w Wf := by subst hWf; exact below_set8 hB5 (by have := hrange.1; have := hB.size; omega)
    have hVf := hv6.only xb (noS_lg _ _ _ _ _ _ _ _ _ _ _ _ _ _) ho
    have hLf := (hV0.below hb5).only xb (noS_lg _ _ _ _ _ _ _ _ _ _ _ _ _ _) ho
    have zf : Bx Wf b (lgC l.disk po co pc cc l.frm l.til l.ver ro l.recs.length rc) 32 := z5.only ho hn
    clear ho hv6 z5 hB5 hrange hb5 hV0 hst hsl2
    unfold st8 at hWf
    refine wpAny_ready (rs := [13]) (by kernel_rfl) (by simp) ?_
    refine AllReady.cons rfl (fun K hK => ?_) AllReady.nil
    go_simp
    refine hK _ _ ?_
    clear hK K
    refine wpAny_ready (rs := [14]) (by kernel_rfl) (by simp) ?_
    refine AllReady.cons rfl (fun K hK => ?_) AllReady.nil
    go_simp
    refine hK _ _ ?_
    clear hK K
    refine wpAny_done (by kernel_rfl) ?_ _
    clear cb lb fb hWf xb
    obtain ⟨_, _, _, _, _, _, e, -, s1, t1⟩ := hVf
    simp only [Value.agg.injEq, Array.mk.injEq, List.cons.injEq, Value.slice.injEq, and_true, true_and] at e
    obtain ⟨-, -, rfl, rfl⟩ := e
    obtain ⟨_, _, _, _, _, _, e, -, s2, t2⟩ := hLf
    simp only [Value.agg.injEq, Array.mk.injEq, List.cons.injEq, Value.slice.injEq, and_true, true_and] at e
    obtain ⟨-, -, rfl, rfl⟩ := e
    have heq := fun W (hb : Below Wf.heap.size Wf W) => sl_equal F.recs l.recs fr ro gr rc W (t1.below hb) (t2.below hb) (slw_len s1) (slw_len s2)
    rw [show decide (F.recs = l.recs) = true by simp [HFr.out]] at heq
    have Heq := Lib.hid heq
    have e1 : (F.ver == l.ver) = true := by rw [HFv.out]; simp
    have Ha : Hid (∀ W, Below Wf.heap.size Wf W → Calls Tryd.prog 9 #[] W fun e w' => e = .returned (.bool true) ∧ Below W.heap.size W w') := Lib.hid fun W hb => law41_awake W (hT.below (btr hBf hb))
    clear heq s1 t1 s2 t2 HFr
    have c0 := xf.cell
    have l0 := xf.lt
    have c1 := zf.cell
    have l1 := zf.lt
    go_wp2_with fail
    refine (Heq.out _ (Below.refl _ _)).mono ?_
    rintro e w7 ⟨rfl, hb7⟩
    clear c0 l0 c1 l1 zf xf
    go_wp2_with fail
    refine (Ha.out _ hb7).mono ?_
    rintro e w8 ⟨rfl, hb8⟩
    go_wp2
    go_ret
    exact ⟨rfl, btr (btr hBf hb7) hb8⟩
   ·
    go_wp2_with fail
    refine (law41_awake _ (hT.below hB)).mono ?_
    rintro e w3 ⟨rfl, hb3⟩
    go_wp2
    go_ret
    exact ⟨rfl, btr hB hb3⟩
  ·
   go_wp2_with fail
   refine (law41_awake _ (hT.below hB)).mono ?_
   rintro e w3 ⟨rfl, hb3⟩
   go_wp2
   go_ret
   exact ⟨rfl, btr hB hb3⟩
end Go.Proofs.YtghikgjknhjjgaaDoor
