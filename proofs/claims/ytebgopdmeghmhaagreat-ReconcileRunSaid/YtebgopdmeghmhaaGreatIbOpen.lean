/- Arguments of the laws of layer 47, opened: digests, lists of digests, tables. -/
import Derived.Test.YtebgopdmeghmhaaGreatIbSing
import Derived.SizedLaws
import Derived.Lib.SmallJoins
import Derived.Deep.SlicePairs
import Derived.SliceStrings
import Derived.OpenShut
import Derived.Test.YtebgopdmeghmhaaGreatProg
namespace Go.Proofs.YtebgopdmeghmhaaGreat
open Go.RowKit Go.ChangeShapes Go.WideShapes

section
variable {H : Type} {enc : TypeId × Value → H} {W : World} {base : Nat} {sp : Nat → Bool} {held : Bool}
theorem cellsOf_u8 : Tryz.prog.cellsOf 5 = 1 := by kernel_rfl
theorem cellsOf_i : Tryz.prog.cellsOf 3 = 1 := by kernel_rfl
theorem cellsOf_dg : Tryz.prog.cellsOf 39 = 32 := by kernel_rfl
theorem cellsOf_cl : Tryz.prog.cellsOf 67 = 65 := by kernel_rfl
theorem cellsOf_ds : Tryz.prog.cellsOf 22 = 1 := by kernel_rfl
theorem bytes_dg : Tryz.prog.bytesOf 39 = 32 := by kernel_rfl
theorem bytes_cl : Tryz.prog.bytesOf 67 = 72 := by kernel_rfl
theorem addr_form {w : World} {a : Addr} {v : Value} (h : w.cell? a = some v) : ∃ b off, a = ⟨b, off, none⟩ := by
  have := World.cell?_spot h
  cases a; cases this; exact ⟨_, _, rfl⟩
theorem okWide_array {P : Program} {w : World} {r : Reach} {b0 : Nat} {t : TypeId} {v : Value} {n : Nat} {e : TypeId} (ht : P.underlying t = some (.array n e)) (h : Value.okWide P w r b0 t v) : ∃ cs, v = .agg cs ∧ cs.size = P.cellsOf t := by
  simp only [Value.okWide, ht] at h
  obtain ⟨cs, h1, h2, _⟩ := h
  exact ⟨cs, h1, h2⟩
/-- a digest's cells -/
theorem trod_dg {n : Nat} {cs : List Value} {y : DataW H × List MemPlace} (h : DataW.trod enc Tryz.prog W base sp held n 39 cs = some y) : ∃ d : List UInt8, d.length = 32 ∧ cs = bytesV d := by
  obtain ⟨xs, m, _, _, hl, hx, hall⟩ := DataW.trod_array Tryz.underlying39 h
  rw [cellsOf_dg] at hl
  rw [cellsOf_u8] at hall
  have each : ∀ i, i < 32 → ∃ u : UInt8, cs[i]? = some (.int .u8 (u.toNat : Int)) := by
    intro i hi
    have h1 := hall i hi
    rw [List.getElem?_eq_getElem (by omega)] at h1
    obtain ⟨q, e, _, wf⟩ := DataW.trod_int Tryz.underlying5 h1
    have hb := Go.bounds_u8 wf
    have h2 : cs[i]? = some (.int .u8 q) := by
      have := congrArg (·[0]?) e
      simpa [List.getElem?_take, List.getElem?_drop] using this
    refine ⟨UInt8.ofNat q.toNat, ?_⟩
    rw [h2]
    congr 2
    rw [UInt8.toNat_ofNat']
    omega
  obtain ⟨U, hU⟩ := Deep.choose_lt each
  refine ⟨(List.range 32).map U, by simp, ?_⟩
  apply List.ext_getElem?
  intro i
  by_cases hi : i < 32
  · rw [hU i hi]; simp [bytesV, hi]
  · rw [List.getElem?_eq_none (by omega), List.getElem?_eq_none (by simp [bytesV]; omega)]
/-- a cell's cells -/
theorem trod_cl {n : Nat} {cs : List Value} {y : DataW H × List MemPlace} (h : DataW.trod enc Tryz.prog W base sp held n 67 cs = some y) : ∃ c : Cl, c.nok ∧ cs = c.cells := by
  have hf := fieldsCl
  obtain ⟨xs, m, _, _, hl, hx, hall⟩ := DataW.trod_struct structCl h
  rw [cellsOf_cl] at hl
  have hall' : ∀ (i : Nat) (f : Field), (Tryz.prog.fieldsOf 67).toList[i]? = some f → DataW.trod enc Tryz.prog W base sp held m f.type ((cs.drop f.offset).take (Tryz.prog.cellsOf f.type)) = xs[i]? := fun i f e => hall i f (by rw [← Array.getElem?_toList]; exact e)
  have hx' : xs.length = (Tryz.prog.fieldsOf 67).toList.length := by rw [hx]; rfl
  generalize (Tryz.prog.fieldsOf 67).toList = fs at *
  have hl3 : fs.length = 3 := by simpa using congrArg List.length hf
  match fs, hl3 with
  | [f, g, k], _ =>
    simp only [List.map_cons, List.map_nil, List.cons.injEq, Prod.mk.injEq, and_true] at hf
    obtain ⟨⟨_, t1, o1⟩, ⟨_, t2, o2⟩, ⟨_, t3, o3⟩⟩ := hf
    have h1 := hall' 0 f rfl
    have h2 := hall' 1 g rfl
    have h3 := hall' 2 k rfl
    simp only [List.length_cons, List.length_nil] at hx'
    rw [t1, o1, cellsOf_i, List.getElem?_eq_getElem (by omega)] at h1
    rw [t2, o2, cellsOf_dg, List.getElem?_eq_getElem (by omega)] at h2
    rw [t3, o3, cellsOf_dg, List.getElem?_eq_getElem (by omega)] at h3
    obtain ⟨q, e1, _, wf⟩ := DataW.trod_int Tryz.underlying3 h1
    obtain ⟨d, hd, e2⟩ := trod_dg h2
    obtain ⟨s, hs, e3⟩ := trod_dg h3
    have hb := Go.bounds_i64 wf
    refine ⟨⟨q, d, s⟩, ⟨⟨hd, hs⟩, by show wrap64 q = q; unfold wrap64; omega⟩, ?_⟩
    unfold Cl.cells
    rw [← e2, ← e3]
    have e4 : cs = (cs.drop 0).take 1 ++ ((cs.drop 1).take 32 ++ (cs.drop 33).take 32) := by
      rw [List.drop_zero, show (cs.drop 33).take 32 = cs.drop 33 from List.take_of_length_le (by simp; omega), show cs.drop 33 = (cs.drop 1).drop 32 by rw [List.drop_drop], List.take_append_drop, List.take_append_drop]
    rw [e1] at e4
    exact e4
/-- a slice of elements of m cells -/
theorem open_rows {X : Type} [Inhabited X] {ok : X → Prop} {en : X → List Value} {t e : TypeId} {m bytes : Nat} (ht : Tryz.prog.underlying t = some (.slice e)) (hm : Tryz.prog.cellsOf e = m) (hm0 : 0 < m) (hb : Tryz.prog.bytesOf e = bytes) (hlen : ∀ x, ok x → (en x).length = m)
    (hE : ∀ n cs y, DataW.trod enc Tryz.prog W base sp held n e cs = some y → ∃ x : X, ok x ∧ cs = en x) {n : Nat} {cs : List Value} {y : DataW H × List MemPlace}
    (h : DataW.trod enc Tryz.prog W base sp held n t cs = some y) (hw : ∀ k ∈ y.1.weights Tryz.prog t, k ≤ reachBytes) :
    ∃ (o : Option Addr) (l : List X) (c : Nat), cs = [.slice o l.length c] ∧ SlW o l.length c ∧ RowAt (· < W.heap.size) W o (l.map en).flatten ∧ (∀ x ∈ l, ok x) ∧ l.length * bytes ≤ 140737488351232 := by
  rcases Deep.open_slice ht h with ⟨e0, _⟩ | ⟨a, len, cap, k, n', D, Pl, e0, hba, hl, hcap, hk, hx, hall⟩
  · exact ⟨none, [], 0, e0, .inl ⟨rfl, rfl, rfl⟩, RowAt.nil _ _ _, (fun x hx => by cases hx), by simp⟩
  · rw [hx] at hw
    have hle : len ≤ k := by rw [hk]; split <;> omega
    have e1 := hw _ (by rw [DataW.weights, ht]; exact List.mem_cons_self)
    rw [hb] at e1
    simp [reachBytes] at e1
    rw [hm] at hall
    have each : ∀ i, i < len → ∃ x : X, ok x ∧ ∀ j, j < m → W.cell? ((a.add (i * m)).add j) = (en x)[j]? := by
      intro i hi
      obtain ⟨cs', h1, h2⟩ := hall i (by omega)
      obtain ⟨x, hox, rfl⟩ := hE _ _ _ h2
      obtain ⟨_, _, h3⟩ := World.cells?_some h1
      exact ⟨x, hox, h3⟩
    obtain ⟨Q, hQ⟩ := Deep.choose_lt each
    have hok : ∀ x ∈ (List.range len).map Q, ok x := by
      intro x hx
      obtain ⟨i, hi, rfl⟩ := List.mem_map.1 hx
      exact (hQ i (List.mem_range.1 hi)).1
    have hL : ∀ x ∈ ((List.range len).map Q).map en, x.length = m := by
      intro x hx
      obtain ⟨q, hq, rfl⟩ := List.mem_map.1 hx
      exact hlen q (hok q hq)
    refine ⟨some a, (List.range len).map Q, cap, by rw [e0]; simp, .inr ⟨a, rfl, by simpa using hl, hcap⟩, ?_, hok, by rw [List.length_map, List.length_range]; exact Nat.le_trans (Nat.mul_le_mul_right _ (by omega)) e1⟩
    intro j hj
    have hfl := flat_len hL
    rw [List.length_map, List.length_map, List.length_range] at hfl
    obtain ⟨q, r, hr, rfl⟩ : ∃ q r, r < m ∧ j = q * m + r := ⟨j / m, j % m, Nat.mod_lt _ hm0, by rw [Nat.mul_comm]; exact (Nat.div_add_mod j m).symm⟩
    have hq : q < len := by
      rcases Nat.lt_or_ge q len with h | h
      · exact h
      · have := Nat.mul_le_mul_right m h; omega
    have hc := (hQ q hq).2 r hr
    have hg := flat_get hL q r hr
    simp only [List.getElem?_map, List.getElem?_range hq, Option.map_some, Option.bind_some] at hg
    rw [← hg, Deep.add_add, List.getElem?_eq_getElem hj] at hc
    have h00 := (hQ 0 (by omega)).2 0 hm0
    obtain ⟨b, off, rfl⟩ : ∃ b off, a = ⟨b, off, none⟩ := by
      have hz : (en (Q 0))[0]? = some ((en (Q 0))[0]'(by rw [hlen _ (hQ 0 (by omega)).1]; exact hm0)) := List.getElem?_eq_getElem _
      rw [hz] at h00
      exact addr_form (by simpa [Addr.add] using h00)
    rw [Addr.add_lit] at hc
    exact ⟨b, off, rfl, hc, World.block_lt_of_cell? W _ hc⟩
instance : Inhabited Cl := ⟨Cl.zero⟩
set_option maxRecDepth 100000 in
/-- a table -/
theorem open_tab {r : Reach} {b0 : Nat} {v : Value} {d : DataW H} {p : List MemPlace} (hv : Value.okWide Tryz.prog W r b0 24 v) (h : DataW.Trod enc Tryz.prog W base sp held 24 v d p) (hw : ∀ k ∈ d.weights Tryz.prog 24, k ≤ reachBytes) :
    ∃ t : List Cl, TabR (· < W.heap.size) W v t ∧ Tnok t ∧ t.length ≤ 4611686018427387904 := by
  obtain ⟨a0, len0, cap0, rfl⟩ := okWide_slice Tryz.underlying24 hv
  obtain ⟨fuel, hf⟩ := h
  obtain ⟨o, l, c, e, hs, hr, hok, hl⟩ := open_rows (ok := Cl.nok) (en := Cl.cells) Tryz.underlying24 cellsOf_cl (by decide) bytes_cl (fun x hx => Cl.len hx.1) (fun n cs y h => trod_cl h) hf hw
  have e' : Value.slice a0 len0 cap0 = .slice o l.length c := by simpa [Value.cells] using e
  rw [e']
  exact ⟨l, ⟨⟨o, c, by rw [tabC_size], by rw [tabC_size]; exact hs, hr⟩, fun x hx => (hok x hx).1⟩, hok, by omega⟩
set_option maxRecDepth 100000 in
/-- a list of digests -/
theorem open_digs {r : Reach} {b0 : Nat} {v : Value} {d : DataW H} {p : List MemPlace} (hv : Value.okWide Tryz.prog W r b0 22 v) (h : DataW.Trod enc Tryz.prog W base sp held 22 v d p) (hw : ∀ k ∈ d.weights Tryz.prog 22, k ≤ reachBytes) :
    ∃ l : List (List UInt8), DigR (· < W.heap.size) W v l ∧ l.length ≤ 4611686018427387904 := by
  obtain ⟨a0, len0, cap0, rfl⟩ := okWide_slice Tryz.underlying22 hv
  obtain ⟨fuel, hf⟩ := h
  obtain ⟨o, l, c, e, hs, hr, hok, hl⟩ := open_rows (X := List UInt8) (ok := fun d => d.length = 32) (en := bytesV) Tryz.underlying22 cellsOf_dg (by decide) bytes_dg (fun x hx => by rw [bytesV_len]; exact hx) (fun n cs y h => trod_dg h) hf hw
  have e' : Value.slice a0 len0 cap0 = .slice o l.length c := by simpa [Value.cells] using e
  rw [e']
  exact ⟨l, ⟨⟨o, c, by rw [digC_size], by rw [digC_size]; exact hs, hr⟩, hok⟩, by omega⟩
set_option maxRecDepth 100000 in
/-- a digest -/
theorem open_dg {r : Reach} {b0 : Nat} {v : Value} {d : DataW H} {p : List MemPlace} (hv : Value.okWide Tryz.prog W r b0 39 v) (h : DataW.Trod enc Tryz.prog W base sp held 39 v d p) :
    ∃ x : List UInt8, v = dgV x ∧ x.length = 32 := by
  obtain ⟨cs, rfl, _⟩ := okWide_array Tryz.underlying39 hv
  obtain ⟨fuel, hf⟩ := h
  obtain ⟨x, hx, e⟩ := trod_dg hf
  refine ⟨x, ?_, hx⟩
  unfold dgV
  rw [← e]; simp [Value.cells]
end
end Go.Proofs.YtebgopdmeghmhaaGreat
