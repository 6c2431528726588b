/- An argument of type api.Disk (layer 40), a slice of ints, a string: opened: what it is in plain Lean. -/
import Derived.Test.YtjbcagijfodfgaaDSmall
import Derived.SizedLaws
import Derived.Lib.SmallJoins
import Derived.Deep.SlicePairs
import Derived.SliceStrings
import Derived.Test.YtjbcagijfodfgaaProg
namespace Go.Proofs.Ytjbcagijfodfgaa
open Go.RowKit Go.ChangeShapes Go.WideShapes

section
variable {H : Type} {enc : TypeId × Value → H} {W : World} {base : Nat} {sp : Nat → Bool} {held : Bool}

theorem weights_of_all {P : Program} {e : TypeId} : ∀ {l : List (DataW H)} {d : DataW H}, d ∈ l → ∀ n ∈ d.weights P e, n ∈ DataW.weightsAll P e l
  | x :: l, d, h, n, hn => by
    rw [DataW.weightsAll, List.mem_append]
    rcases List.mem_cons.1 h with rfl | h
    · exact .inl hn
    · exact .inr (weights_of_all h n hn)
theorem weights_str {P : Program} {e : TypeId} (bs : List UInt8) : (DataW.lit (.string bs) : DataW H).weights P e = [bs.length] := by rw [DataW.weights]
theorem cellsOf_one9 : Try.prog.cellsOf 9 = 1 := by kernel_rfl
theorem cellsOf_int : Try.prog.cellsOf 3 = 1 := by kernel_rfl
theorem cellsOf_pw : Try.prog.cellsOf 45 = 2 := by kernel_rfl
theorem cellsOf_disk : Try.prog.cellsOf 25 = 4 := by kernel_rfl
theorem bytes_str : Try.prog.bytesOf 9 = 16 := by kernel_rfl
theorem bytes_pw : Try.prog.bytesOf 45 = 24 := by kernel_rfl
theorem bytes_int : Try.prog.bytesOf 3 = 8 := by kernel_rfl

theorem addr_form {w : World} {a : Addr} {v : Value} (h : w.cell? a = some v) : ∃ b off, a = ⟨b, off, none⟩ := by
  have := World.cell?_spot h
  cases a; cases this; exact ⟨_, _, rfl⟩

/-- []string -/
theorem open_strs {n : Nat} {v : Value} {y : DataW H × List MemPlace} (h : DataW.trod enc Try.prog W base sp held n 22 [v] = some y) (hw : ∀ k ∈ y.1.weights Try.prog 22, k ≤ reachBytes) :
    ∃ (o : Option Addr) (l : List ByteArray) (c : Nat), v = .slice o l.length c ∧ SlW o l.length c ∧ StrsAt (· < W.heap.size) W o l ∧ l.length * 16 ≤ 140737488351232 ∧ ∀ s ∈ l, s.size ≤ 140737488351232 := by
  rcases open_strings Try.underlying22 Try.underlying9 cellsOf_one9 h with ⟨e, _⟩ | ⟨a, len, cap, ss, e, hb, hl, hm, hss, hx, hcell, _⟩
  · cases e
    exact ⟨none, [], 0, rfl, .inl ⟨rfl, rfl, rfl⟩, by intro i hi; simp at hi, by simp, by simp⟩
  · cases e
    have hle : len ≤ ss.length := by rw [hss]; split <;> omega
    have hlen : (ss.take len).length = len := by simp; omega
    rw [hx] at hw
    have e1 := hw _ (by rw [DataW.weights, Try.underlying22]; exact List.mem_cons_self)
    rw [bytes_str] at e1
    simp [strs, reachBytes] at e1
    refine ⟨some a, ss.take len, cap, by rw [hlen], .inr ⟨a, rfl, by rw [hlen]; exact hl, hm⟩, ?_, by rw [hlen]; omega, ?_⟩
    · intro i hi
      rw [hlen] at hi
      have h0 := hcell 0 (by omega)
      obtain ⟨b, off, rfl⟩ := addr_form (a := a) (by simpa [Addr.add] using h0)
      have hc := hcell i (by omega)
      rw [Addr.add_lit] at hc
      refine ⟨b, off, rfl, ?_, World.block_lt_of_cell? W _ hc⟩
      rw [hc]
      simp [List.getD, List.getElem?_eq_getElem (show i < ss.length by omega)]
    · intro s hs
      have := hw s.size (by
        rw [DataW.weights, Try.underlying22]
        refine List.mem_cons_of_mem _ (List.mem_append.2 (.inl (weights_of_all (d := .lit (.string s.data.toList)) ?_ _ ?_)))
        · exact List.mem_map.2 ⟨s, hs, rfl⟩
        · rw [weights_str]; exact List.mem_singleton.2 (by simp))
      exact this

theorem open_pws {n : Nat} {v : Value} {y : DataW H × List MemPlace} (h : DataW.trod enc Try.prog W base sp held n 23 [v] = some y) (hw : ∀ k ∈ y.1.weights Try.prog 23, k ≤ reachBytes) :
    ∃ (o : Option Addr) (l : List PW) (c : Nat), v = .slice o l.length c ∧ SlW o l.length c ∧ PWsAt (· < W.heap.size) W o l ∧ l.length * 24 ≤ 140737488351232 ∧ ∀ x ∈ l, x.data.size ≤ 140737488351232 := by
  rcases Deep.open_slice_pairs Try.underlying23 Try.underlying45 cellsOf_pw rfl rfl cellsOf_int cellsOf_one9 h with ⟨e, _⟩ | ⟨a, len, cap, m, n, V0, V1, D0, D1, P0, P1, e, hb, hl, hm, hmm, hx, hall⟩
  · cases e
    exact ⟨none, [], 0, rfl, .inl ⟨rfl, rfl, rfl⟩, by intro i hi; simp at hi, by simp, by simp⟩
  · cases e
    have hle : len ≤ m := by rw [hmm]; split <;> omega
    rw [hx] at hw
    have e1 := hw _ (by rw [DataW.weights, Try.underlying23]; exact List.mem_cons_self)
    rw [bytes_pw] at e1
    simp [reachBytes] at e1
    have each : ∀ i, i < len → ∃ x : Int × ByteArray, W.cell? (a.add (i * 2)) = some (.int .i64 x.1) ∧ W.cell? (a.add (i * 2 + 1)) = some (.string x.2) ∧ D1 i = .lit (.string x.2.data.toList) := by
      intro i hi
      obtain ⟨c0, c1, t0, t1⟩ := hall i (by omega)
      obtain ⟨q, e0, _, _⟩ := DataW.trod_int Try.underlying3 t0
      obtain ⟨s, e1, e2, _⟩ := DataW.trod_string Try.underlying9 t1
      exact ⟨(q, s), by rw [c0, (List.cons.inj e0).1], by rw [c1, (List.cons.inj e1).1], congrArg Prod.fst e2⟩
    obtain ⟨X, hX⟩ := Deep.choose_lt each
    refine ⟨some a, (List.range len).map (fun i => ⟨(X i).1, (X i).2⟩), cap, by simp, .inr ⟨a, rfl, by simpa using hl, hm⟩, ?_, by simp; omega, ?_⟩
    · intro i hi
      have hi' : i < len := by simpa using hi
      obtain ⟨c0, c1, _⟩ := hX i hi'
      have hz := (hX 0 (by omega)).1
      obtain ⟨b, off, rfl⟩ := addr_form (a := a) (by simpa [Addr.add] using hz)
      rw [Addr.add_lit] at c0 c1
      exact ⟨b, off, rfl, by simpa using c0, by simpa [Nat.add_assoc] using c1, World.block_lt_of_cell? W _ c0⟩
    · intro x hx'
      obtain ⟨i, hi, rfl⟩ := List.mem_map.1 hx'
      have hi' : i < len := by simpa using hi
      have := hw (X i).2.size (by
        rw [DataW.weights, Try.underlying23]
        refine List.mem_cons_of_mem _ (List.mem_append.2 (.inl (weights_of_all (d := .agg [D0 i, D1 i]) (List.mem_map.2 ⟨i, hi, rfl⟩) _ ?_)))
        rw [DataW.weights, Try.underlying45, (hX i hi').2.2]
        refine DataW.weights_mem_each (j := 1) (t := 9) (d := .lit (.string (X i).2.data.toList)) rfl rfl _ ?_
        rw [weights_str]; exact List.mem_singleton.2 (by simp))
      exact this

theorem open_disk {r : Reach} {b0 : Nat} {v : Value} {d : DataW H} {p : List MemPlace} (hv : Value.okWide Try.prog W r b0 25 v) (h : DataW.Trod enc Try.prog W base sp held 25 v d p) (hw : ∀ k ∈ d.weights Try.prog 25, k ≤ reachBytes) :
    ∃ x : Dsk, DskR (· < W.heap.size) W v x := by
  obtain ⟨v0, v1, v2, v3, y0, y1, y2, y3, n, rfl, rfl, _, h0, h1, h2, h3⟩ := Go.Joins.open_agg4 Try.underlying25 (by kernel_rfl) cellsOf_disk hv h
  rw [DataW.weights, Try.underlying25] at hw
  obtain ⟨size, e0, _, _⟩ := DataW.trod_int Try.underlying3 h0
  obtain ⟨left, e3, _, wl⟩ := DataW.trod_int Try.underlying3 h3
  obtain rfl := (List.cons.inj e0).1
  obtain rfl := (List.cons.inj e3).1
  obtain ⟨po, pages, pc, rfl, s1, a1, l1, z1⟩ := open_strs h1 (fun k hk => hw k (DataW.weights_mem_each (j := 1) (t := 22) rfl rfl k hk))
  obtain ⟨co, cache, cc, rfl, s2, a2, l2, z2⟩ := open_pws h2 (fun k hk => hw k (DataW.weights_mem_each (j := 2) (t := 23) rfl rfl k hk))
  refine ⟨⟨size, pages, cache, left⟩, po, pc, co, cc, rfl, a1, a2, ⟨s1, s2, by simp only; omega, by simp only; omega, z1, z2, ?_⟩⟩
  simpa [Lit.wf, IntKind.min, IntKind.max, IntKind.signed, IntKind.bits] using wl

theorem open_ints {r : Reach} {b0 : Nat} {v : Value} {d : DataW H} {p : List MemPlace} (hv : Value.okWide Try.prog W r b0 34 v) (h : DataW.Trod enc Try.prog W base sp held 34 v d p) (hw : ∀ k ∈ d.weights Try.prog 34, k ≤ reachBytes) :
    ∃ (o : Option Addr) (l : List Int) (c : Nat), v = .slice o l.length c ∧ SlW o l.length c ∧ IntsAt (· < W.heap.size) W o l ∧ l.length * 8 ≤ 140737488351232 ∧ ∀ x ∈ l, -9223372036854775808 ≤ x ∧ x ≤ 9223372036854775807 := by
  obtain ⟨a0, len0, cap0, rfl⟩ := okWide_slice Try.underlying34 hv
  obtain ⟨fuel, hf⟩ := h
  rcases Deep.open_slice1 Try.underlying34 cellsOf_int hf with ⟨e, _⟩ | ⟨a, len, cap, m, n, V, D, Pl, e, hb, hl, hm, hmm, hx, hall⟩
  · simp [Value.cells] at e
    obtain ⟨rfl, rfl, rfl⟩ := e
    exact ⟨none, [], 0, rfl, .inl ⟨rfl, rfl, rfl⟩, by intro i hi; simp at hi, by simp, by simp⟩
  · simp [Value.cells] at e
    obtain ⟨rfl, rfl, rfl⟩ := e
    have hle : len0 ≤ m := by rw [hmm]; split <;> omega
    have hd : d = .slice ((List.range len0).map D) ((List.range (m - len0)).map fun j => D (len0 + j)) := congrArg Prod.fst hx
    subst hd
    have e1 := hw _ (by rw [DataW.weights, Try.underlying34]; exact List.mem_cons_self)
    rw [bytes_int] at e1
    simp [reachBytes] at e1
    have each : ∀ i, i < len0 → ∃ x : Int, W.cell? (a.add i) = some (.int .i64 x) ∧ -9223372036854775808 ≤ x ∧ x ≤ 9223372036854775807 := by
      intro i hi
      obtain ⟨c0, t0⟩ := hall i (by omega)
      obtain ⟨q, e0, _, wq⟩ := DataW.trod_int Try.underlying3 t0
      exact ⟨q, by rw [c0, (List.cons.inj e0).1], by simpa [Lit.wf, IntKind.min, IntKind.max, IntKind.signed, IntKind.bits] using wq⟩
    obtain ⟨X, hX⟩ := Deep.choose_lt each
    refine ⟨some a, (List.range len0).map X, cap0, by simp, .inr ⟨a, rfl, by simpa using hl, hm⟩, ?_, by simp; omega, ?_⟩
    · intro i hi
      have hi' : i < len0 := by simpa using hi
      have c0 := (hX i hi').1
      have hz := (hX 0 (by omega)).1
      obtain ⟨b, off, rfl⟩ := addr_form (a := a) (by simpa [Addr.add] using hz)
      rw [Addr.add_lit] at c0
      exact ⟨b, off, rfl, by simpa using c0, World.block_lt_of_cell? W _ c0⟩
    · intro x hx'
      obtain ⟨i, hi, rfl⟩ := List.mem_map.1 hx'
      exact (hX i (by simpa using hi)).2

end
end Go.Proofs.Ytjbcagijfodfgaa
