/- Lists of ranges, opened: each range holds a list of digests of its own. -/
import Derived.Test.YtebgopdmeghmhaaIbOpen
import Derived.Test.YtebgopdmeghmhaaRcAcc
namespace Go.Proofs.Ytebgopdmeghmhaa
open Go.RowKit Go.ChangeShapes Go.WideShapes

section
variable {H : Type} {enc : TypeId × Value → H} {W : World} {base : Nat} {sp : Nat → Bool} {held : Bool}
theorem weights_all {P : Program} {e : TypeId} {d : DataW H} : ∀ {ds : List (DataW H)}, d ∈ ds → ∀ n ∈ d.weights P e, n ∈ DataW.weightsAll P e ds
  | x :: ds, hd, n, hn => by
    simp only [DataW.weightsAll, List.mem_append]
    rcases List.mem_cons.1 hd with rfl | h
    · exact .inl hn
    · exact .inr (weights_all h n hn)
/-- as open_rows; an element's own weights may be used -/
theorem open_rowsX {X : Type} [Inhabited X] {ok : X → Prop} {en : X → List Value} {t e : TypeId} {m bytes : Nat} (ht : Try.prog.underlying t = some (.slice e)) (hm : Try.prog.cellsOf e = m) (hm0 : 0 < m) (hb : Try.prog.bytesOf e = bytes) (hlen : ∀ x, ok x → (en x).length = m)
    (hE : ∀ n cs y, DataW.trod enc Try.prog W base sp held n e cs = some y → (∀ k ∈ y.1.weights Try.prog e, k ≤ reachBytes) → ∃ x : X, ok x ∧ cs = en x) {n : Nat} {cs : List Value} {y : DataW H × List MemPlace}
    (h : DataW.trod enc Try.prog W base sp held n t cs = some y) (hw : ∀ k ∈ y.1.weights Try.prog t, k ≤ reachBytes) :
    ∃ (o : Option Addr) (l : List X) (c : Nat), cs = [.slice o l.length c] ∧ SlW o l.length c ∧ RowAt (· < W.heap.size) W o (l.map en).flatten ∧ (∀ x ∈ l, ok x) ∧ l.length * bytes ≤ 140737488351232 := by
  rcases Deep.open_slice ht h with ⟨e0, _⟩ | ⟨a, len, cap, k, n', D, Pl, e0, hba, hl, hcap, hk, hx, hall⟩
  · exact ⟨none, [], 0, e0, .inl ⟨rfl, rfl, rfl⟩, RowAt.nil _ _ _, (fun x hx => by cases hx), by simp⟩
  · rw [hx] at hw
    have hle : len ≤ k := by rw [hk]; split <;> omega
    have hwD : ∀ i, i < len → ∀ q ∈ (D i).weights Try.prog e, q ≤ reachBytes := by
      intro i hi q hq
      refine hw q ?_
      rw [DataW.weights, ht]
      exact List.mem_cons_of_mem _ (List.mem_append_left _ (weights_all (List.mem_map.2 ⟨i, List.mem_range.2 hi, rfl⟩) q hq))
    have e1 := hw _ (by rw [DataW.weights, ht]; exact List.mem_cons_self)
    rw [hb] at e1
    simp [reachBytes] at e1
    rw [hm] at hall
    have each : ∀ i, i < len → ∃ x : X, ok x ∧ ∀ j, j < m → W.cell? ((a.add (i * m)).add j) = (en x)[j]? := by
      intro i hi
      obtain ⟨cs', h1, h2⟩ := hall i (by omega)
      obtain ⟨x, hox, rfl⟩ := hE _ _ _ h2 (hwD i hi)
      obtain ⟨_, _, h3⟩ := World.cells?_some h1
      exact ⟨x, hox, h3⟩
    obtain ⟨Q, hQ⟩ := Deep.choose_lt each
    have hok : ∀ x ∈ (List.range len).map Q, ok x := by
      intro x hx
      obtain ⟨i, hi, rfl⟩ := List.mem_map.1 hx
      exact (hQ i (List.mem_range.1 hi)).1
    have hL : ∀ x ∈ ((List.range len).map Q).map en, x.length = m := by
      intro x hx
      obtain ⟨q, hq, rfl⟩ := List.mem_map.1 hx
      exact hlen q (hok q hq)
    refine ⟨some a, (List.range len).map Q, cap, by rw [e0]; simp, .inr ⟨a, rfl, by simpa using hl, hcap⟩, ?_, hok, by rw [List.length_map, List.length_range]; exact Nat.le_trans (Nat.mul_le_mul_right _ (by omega)) e1⟩
    intro j hj
    have hfl := flat_len hL
    rw [List.length_map, List.length_map, List.length_range] at hfl
    obtain ⟨q, r, hr, rfl⟩ : ∃ q r, r < m ∧ j = q * m + r := ⟨j / m, j % m, Nat.mod_lt _ hm0, by rw [Nat.mul_comm]; exact (Nat.div_add_mod j m).symm⟩
    have hq : q < len := by
      rcases Nat.lt_or_ge q len with h | h
      · exact h
      · have := Nat.mul_le_mul_right m h; omega
    have hc := (hQ q hq).2 r hr
    have hg := flat_get hL q r hr
    simp only [List.getElem?_map, List.getElem?_range hq, Option.map_some, Option.bind_some] at hg
    rw [← hg, Deep.add_add, List.getElem?_eq_getElem hj] at hc
    have h00 := (hQ 0 (by omega)).2 0 hm0
    obtain ⟨b, off, rfl⟩ : ∃ b off, a = ⟨b, off, none⟩ := by
      have hz : (en (Q 0))[0]? = some ((en (Q 0))[0]'(by rw [hlen _ (hQ 0 (by omega)).1]; exact hm0)) := List.getElem?_eq_getElem _
      rw [hz] at h00
      exact addr_form (by simpa [Addr.add] using h00)
    rw [Addr.add_lit] at hc
    exact ⟨b, off, rfl, hc, World.block_lt_of_cell? W _ hc⟩
theorem cellsOf_rg : Try.prog.cellsOf 53 = 99 := by kernel_rfl
theorem cellsOf_bool : Try.prog.cellsOf 4 = 1 := by kernel_rfl
theorem bytes_rg : Try.prog.bytesOf 53 = 136 := by kernel_rfl
theorem fieldsRg : (Try.prog.fieldsOf 53).toList.map (fun f => (f.type, f.offset)) = [(29, 0), (29, 32), (4, 64), (3, 65), (29, 66), (23, 98)] := by kernel_rfl
theorem structRg : Try.prog.underlying 53 = some (.struct (Try.prog.fieldsOf 53)) := by kernel_rfl
instance : Inhabited Rg := ⟨⟨[], [], false, 0, [], []⟩⟩
instance : Inhabited (Rg × Value) := ⟨(default, .nilIface)⟩
def okRg (W : World) (x : Rg × Value) : Prop := x.1.ok ∧ DigR (· < W.heap.size) W x.2 x.1.ids ∧ x.1.ids.length ≤ 4398046511104
set_option maxRecDepth 100000 in
/-- a range's cells -/
theorem trod_rg {n : Nat} {cs : List Value} {y : DataW H × List MemPlace} (h : DataW.trod enc Try.prog W base sp held n 53 cs = some y) (hw : ∀ k ∈ y.1.weights Try.prog 53, k ≤ reachBytes) :
    ∃ x : Rg × Value, okRg W x ∧ cs = x.1.cells x.2 := by
  have hf := fieldsRg
  obtain ⟨xs, m, _, hy, hl, hx, hall⟩ := DataW.trod_struct structRg h
  rw [cellsOf_rg] at hl
  have hw' : ∀ k ∈ DataW.weightsEach Try.prog ((Try.prog.fieldsOf 53).toList.map (·.type)) (xs.map (·.1)), k ≤ reachBytes := by
    intro k hk
    refine hw k ?_
    rw [hy, DataW.weights, structRg]
    exact hk
  have hall' : ∀ (i : Nat) (f : Field), (Try.prog.fieldsOf 53).toList[i]? = some f → DataW.trod enc Try.prog W base sp held m f.type ((cs.drop f.offset).take (Try.prog.cellsOf f.type)) = xs[i]? := fun i f e => hall i f (by rw [← Array.getElem?_toList]; exact e)
  have hx' : xs.length = (Try.prog.fieldsOf 53).toList.length := by rw [hx]; rfl
  generalize (Try.prog.fieldsOf 53).toList = fs at *
  have hl6 : fs.length = 6 := by simpa using congrArg List.length hf
  match fs, hl6 with
  | [f1, f2, f3, f4, f5, f6], _ =>
    simp only [List.map_cons, List.map_nil, List.cons.injEq, Prod.mk.injEq, and_true] at hf
    obtain ⟨⟨t1, o1⟩, ⟨t2, o2⟩, ⟨t3, o3⟩, ⟨t4, o4⟩, ⟨t5, o5⟩, ⟨t6, o6⟩⟩ := hf
    have h1 := hall' 0 f1 rfl
    have h2 := hall' 1 f2 rfl
    have h3 := hall' 2 f3 rfl
    have h4 := hall' 3 f4 rfl
    have h5 := hall' 4 f5 rfl
    have h6 := hall' 5 f6 rfl
    simp only [List.length_cons, List.length_nil] at hx'
    rw [t1, o1, cellsOf_dg, List.getElem?_eq_getElem (by omega)] at h1
    rw [t2, o2, cellsOf_dg, List.getElem?_eq_getElem (by omega)] at h2
    rw [t3, o3, cellsOf_bool, List.getElem?_eq_getElem (by omega)] at h3
    rw [t4, o4, cellsOf_i, List.getElem?_eq_getElem (by omega)] at h4
    rw [t5, o5, cellsOf_dg, List.getElem?_eq_getElem (by omega)] at h5
    rw [t6, o6, cellsOf_ds, List.getElem?_eq_getElem (by omega)] at h6
    obtain ⟨low, hlow, e1⟩ := trod_dg h1
    obtain ⟨high, hhigh, e2⟩ := trod_dg h2
    obtain ⟨lst, e3, _⟩ := DataW.trod_bool Try.underlying4 h3
    obtain ⟨q, e4, _, wf⟩ := DataW.trod_int Try.underlying3 h4
    obtain ⟨pr, hpr, e5⟩ := trod_dg h5
    have hw6 : ∀ k ∈ (xs[5]'(by omega)).1.weights Try.prog 23, k ≤ reachBytes := by
      intro k hk
      refine hw' k (DataW.weights_mem_each (j := 5) (t := 23) (d := (xs[5]'(by omega)).1) (by simp [t6]) (by rw [List.getElem?_map, List.getElem?_eq_getElem (by omega)]; rfl) k hk)
    obtain ⟨o, l, c, e6, hs, hr, hok, hl6⟩ := open_rows (X := List UInt8) (ok := fun d => d.length = 32) (en := bytesV) Try.underlying23 cellsOf_dg (by decide) bytes_dg (fun x hx => by rw [bytesV_len]; exact hx) (fun n cs y h => trod_dg h) h6 hw6
    refine ⟨(⟨low, high, lst, q, pr, l⟩, .slice o l.length c), ⟨⟨hlow, hhigh, hpr, hok⟩, ⟨⟨o, c, by rw [digC_size], by rw [digC_size]; exact hs, hr⟩, hok⟩, by show l.length ≤ _; omega⟩, ?_⟩
    have st : ∀ a m, cs.drop a = (cs.drop a).take m ++ cs.drop (a + m) := fun a m => by rw [← List.drop_drop, List.take_append_drop]
    have g0 : cs.drop 0 = (cs.drop 0).take 32 ++ cs.drop 32 := st 0 32
    have g1 : cs.drop 32 = (cs.drop 32).take 32 ++ cs.drop 64 := st 32 32
    have g2 : cs.drop 64 = (cs.drop 64).take 1 ++ cs.drop 65 := st 64 1
    have g3 : cs.drop 65 = (cs.drop 65).take 1 ++ cs.drop 66 := st 65 1
    have g4 : cs.drop 66 = (cs.drop 66).take 32 ++ cs.drop 98 := st 66 32
    have g5 : cs.drop 98 = (cs.drop 98).take 1 := (List.take_of_length_le (by rw [List.length_drop]; omega)).symm
    rw [e6] at g5
    rw [e5, g5] at g4
    rw [e4, g4] at g3
    rw [e3, g3] at g2
    rw [e2, g2] at g1
    rw [e1, g1] at g0
    exact g0
theorem rgsC_pairs : ∀ (L : List (Rg × Value)), rgsC (L.map (·.1)) (L.map (·.2)) = L.map fun x => x.1.cells x.2
  | [] => rfl
  | x :: L => by
    have ih := rgsC_pairs L
    unfold rgsC at ih ⊢
    simp only [List.map_cons, List.zipWith_cons_cons, ih]
set_option maxRecDepth 100000 in
/-- a list of ranges -/
theorem open_rgs {r : Reach} {b0 : Nat} {v : Value} {d : DataW H} {p : List MemPlace} (hv : Value.okWide Try.prog W r b0 22 v) (h : DataW.Trod enc Try.prog W base sp held 22 v d p) (hw : ∀ k ∈ d.weights Try.prog 22, k ≤ reachBytes) :
    ∃ l : List Rg, RgsR (· < W.heap.size) W v l ∧ l.length ≤ 4611686018427387904 ∧ ∀ r ∈ l, r.ids.length ≤ 4398046511104 := by
  obtain ⟨a0, len0, cap0, rfl⟩ := okWide_slice Try.underlying22 hv
  obtain ⟨fuel, hf⟩ := h
  obtain ⟨o, L, c, e, hs, hr, hok, hl⟩ := open_rowsX (X := Rg × Value) (ok := okRg W) (en := fun x => x.1.cells x.2) Try.underlying22 cellsOf_rg (by decide) bytes_rg (fun x hx => Rg.len hx.1 x.2) (fun n cs y h hw => trod_rg h hw) hf hw
  have e' : Value.slice a0 len0 cap0 = .slice o L.length c := by simpa [Value.cells] using e
  rw [e']
  refine ⟨L.map (·.1), ⟨o, c, L.map (·.2), by rw [List.length_map], by rw [List.length_map]; exact hs, by simp, by rw [rgsC_pairs]; exact hr, fun i hi => ?_, fun r hr => ?_⟩, by rw [List.length_map]; omega, fun r hr => ?_⟩
  · rw [List.length_map] at hi
    rw [List.getD_eq_getElem?_getD, List.getElem?_map, List.getElem?_eq_getElem hi, List.getElem_map]
    exact (hok _ (List.getElem_mem hi)).2.1
  · obtain ⟨x, hx, rfl⟩ := List.mem_map.1 hr
    exact (hok x hx).1
  · obtain ⟨x, hx, rfl⟩ := List.mem_map.1 hr
    exact (hok x hx).2.2
end
end Go.Proofs.Ytebgopdmeghmhaa
