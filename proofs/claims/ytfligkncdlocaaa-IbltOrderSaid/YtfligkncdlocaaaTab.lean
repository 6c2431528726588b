/- Cells and tables of layer 47, and lists of digests: values, in memory, built, compared. -/
import Derived.Test.YtfligkncdlocaaaRowsL
namespace Go.Proofs.Ytfligkncdlocaaa
open Go.RowKit

structure Cl where
  n : Int
  k : List UInt8
  s : List UInt8
def Cl.ok (c : Cl) : Prop := c.k.length = 32 ∧ c.s.length = 32
def Cl.cells (c : Cl) : List Value := .int .i64 c.n :: (bytesV c.k ++ bytesV c.s)
def Cl.V (c : Cl) : Value := .agg c.cells.toArray
def zeroD : List UInt8 := List.replicate 32 0
def Cl.zero : Cl := ⟨0, zeroD, zeroD⟩
theorem Cl.len {c : Cl} (h : c.ok) : c.cells.length = 65 := by simp [Cl.cells, bytesV, h.1, h.2]
theorem Cl.zero_ok : Cl.zero.ok := ⟨rfl, rfl⟩
theorem Cl.one (c : Cl) : c.cells.toArray.all (·.oneCell') = true := all_oneCell_toArray (fun v hv => by
  rcases List.mem_cons.1 hv with rfl | hv
  · rfl
  · rcases List.mem_append.1 hv with hv | hv <;> exact bytesV_one _ v hv)
def tabC (t : List Cl) : List (List Value) := t.map Cl.cells
def digC (l : List (List UInt8)) : List (List Value) := l.map bytesV
def Tok (t : List Cl) : Prop := ∀ c ∈ t, c.ok
def Dok (l : List (List UInt8)) : Prop := ∀ d ∈ l, d.length = 32
theorem tabC_len {t : List Cl} (h : Tok t) : ∀ x ∈ tabC t, x.length = 65 := by
  intro x hx
  obtain ⟨c, hc, rfl⟩ := List.mem_map.1 hx
  exact Cl.len (h c hc)
theorem digC_len {l : List (List UInt8)} (h : Dok l) : ∀ x ∈ digC l, x.length = 32 := by
  intro x hx
  obtain ⟨c, hc, rfl⟩ := List.mem_map.1 hx
  simp [bytesV, h c hc]
theorem tabC_size (t : List Cl) : (tabC t).length = t.length := by simp [tabC]
theorem digC_size (l : List (List UInt8)) : (digC l).length = l.length := by simp [digC]
/-- a table in blocks of S -/
def TabR (S : Nat → Prop) (w : World) (v : Value) (t : List Cl) : Prop := RowsR S w v (tabC t) ∧ Tok t
def DigR (S : Nat → Prop) (w : World) (v : Value) (l : List (List UInt8)) : Prop := RowsR S w v (digC l) ∧ Dok l
theorem TabR.below {S : Nat → Prop} {w w' : World} {v : Value} {t : List Cl} (h : TabR S w v t) (hb : Below w.heap.size w w') : TabR S w' v t := ⟨h.1.below hb, h.2⟩
theorem DigR.below {S : Nat → Prop} {w w' : World} {v : Value} {t : List (List UInt8)} (h : DigR S w v t) (hb : Below w.heap.size w w') : DigR S w' v t := ⟨h.1.below hb, h.2⟩
theorem TabR.mono {S T : Nat → Prop} {w : World} {v : Value} {t : List Cl} (h : TabR S w v t) (hT : ∀ b, S b → T b) : TabR T w v t := ⟨h.1.mono hT, h.2⟩
theorem DigR.mono {S T : Nat → Prop} {w : World} {v : Value} {t : List (List UInt8)} (h : DigR S w v t) (hT : ∀ b, S b → T b) : DigR T w v t := ⟨h.1.mono hT, h.2⟩
theorem TabR.same {S : Nat → Prop} {w w' : World} {v : Value} {t : List Cl} (h : TabR S w v t) (hb : Same S w w') : TabR S w' v t := ⟨h.1.same hb, h.2⟩
theorem DigR.same {S : Nat → Prop} {w w' : World} {v : Value} {t : List (List UInt8)} (h : DigR S w v t) (hb : Same S w w') : DigR S w' v t := ⟨h.1.same hb, h.2⟩
/-- what an index into a table meets -/
theorem TabR.at {S : Nat → Prop} {w : World} {v : Value} {t : List Cl} (h : TabR S w v t) {i : Nat} (hi : i < t.length) :
    ∃ b off c, v = .slice (some ⟨b, off, none⟩) t.length c ∧ t.length ≤ c ∧ c ≤ maxLen ∧ S b ∧ b < w.heap.size ∧ w.rangeAt b (off + i * 65) t[i].cells := by
  obtain ⟨⟨o, c, e, hs, hr⟩, hok⟩ := h
  rw [tabC_size] at e hs
  have hl : 0 < (tabC t).flatten.length := by rw [flat_len (tabC_len hok), tabC_size]; omega
  obtain ⟨b, off, rfl, hS, hb⟩ := hr.blk hl
  have hseg := hr.seg (tabC_len hok) (i := i) (by rw [tabC_size]; exact hi)
  refine ⟨b, off, c, e, ?_, ?_, hS, hb, by simpa [tabC] using hseg⟩
  · rcases hs with ⟨h, _⟩ | ⟨_, _, h1, _⟩
    · cases h
    · exact h1
  · rcases hs with ⟨h, _⟩ | ⟨_, _, _, h2⟩
    · cases h
    · exact h2
theorem DigR.at {S : Nat → Prop} {w : World} {v : Value} {t : List (List UInt8)} (h : DigR S w v t) {i : Nat} (hi : i < t.length) :
    ∃ b off c, v = .slice (some ⟨b, off, none⟩) t.length c ∧ t.length ≤ c ∧ c ≤ maxLen ∧ S b ∧ b < w.heap.size ∧ w.rangeAt b (off + i * 32) (bytesV t[i]) := by
  obtain ⟨⟨o, c, e, hs, hr⟩, hok⟩ := h
  rw [digC_size] at e hs
  have hl : 0 < (digC t).flatten.length := by rw [flat_len (digC_len hok), digC_size]; omega
  obtain ⟨b, off, rfl, hS, hb⟩ := hr.blk hl
  have hseg := hr.seg (digC_len hok) (i := i) (by rw [digC_size]; exact hi)
  refine ⟨b, off, c, e, ?_, ?_, hS, hb, by simpa [digC] using hseg⟩
  · rcases hs with ⟨h, _⟩ | ⟨_, _, h1, _⟩
    · cases h
    · exact h1
  · rcases hs with ⟨h, _⟩ | ⟨_, _, _, h2⟩
    · cases h
    · exact h2
theorem Cl.count_at {w : World} {b o : Nat} {c : Cl} (h : w.rangeAt b o c.cells) : w.cell? ⟨b, o, none⟩ = some (.int .i64 c.n) := by
  have := h 0 (.int .i64 c.n) rfl
  simpa using this
theorem Cl.keys_at {w : World} {b o : Nat} {c : Cl} (hc : c.ok) (h : w.rangeAt b o c.cells) : w.rangeAt b (o + 1) (bytesV c.k) := by
  have := rangeAt_sub h 1 32
  have e : (c.cells.drop 1).take 32 = bytesV c.k := by
    show ((bytesV c.k ++ bytesV c.s)).take 32 = _
    rw [List.take_append_of_le_length (by simp [bytesV, hc.1]), List.take_of_length_le (by simp [bytesV, hc.1])]
  rwa [e] at this
theorem Cl.sums_at {w : World} {b o : Nat} {c : Cl} (hc : c.ok) (h : w.rangeAt b o c.cells) : w.rangeAt b (o + 33) (bytesV c.s) := by
  have := rangeAt_sub h 33 32
  have e : (c.cells.drop 33).take 32 = bytesV c.s := by
    show ((bytesV c.k ++ bytesV c.s).drop 32).take 32 = _
    rw [List.drop_append_of_le_length (by simp [bytesV, hc.1]), List.drop_eq_nil_of_le (by simp [bytesV, hc.1]), List.nil_append, List.take_of_length_le (by simp [bytesV, hc.2])]
  rwa [e] at this

/-! the types -/
theorem sizeCl : (Try.prog.info? 50).map (·.size) = some 65 := by kernel_rfl
theorem zeroCl : (Try.prog.info? 50).map (·.zero) = some (some (.agg (#[.int .i64 0] ++ Array.replicate 64 (.int .u8 0)))) := by kernel_rfl
theorem zeroCl' : (#[Value.int .i64 0] ++ Array.replicate 64 (.int .u8 0)) = Cl.zero.cells.toArray := by kernel_rfl
theorem infoCl : (Try.prog.info? 50).map (fun i => (i.zero, i.size, i.bytes)) = some (some (.agg (#[.int .i64 0] ++ Array.replicate 64 (.int .u8 0))), 65, 72) := by kernel_rfl
theorem infoDg : (Try.prog.info? 31).map (fun i => (i.zero, i.size, i.bytes)) = some (some (.agg (Array.replicate 32 (.int .u8 0))), 32, 32) := by kernel_rfl
theorem placesCl : ∃ fs, Try.prog.underlying 50 = some (.struct fs) ∧ (fs.toList.mapM fun f => (Try.prog.info? f.type).map fun i => (f.offset, i.size)) = some [(0, 1), (1, 32), (33, 32)] := ⟨_, Try.underlying50, by kernel_rfl⟩
theorem cl_fill (n : Int) (k s : List UInt8) (hk : k.length = 32) (hs : s.length = 32) :
    Instr.fill (([(0, 1), (1, 32), (33, 32)] : List (Nat × Nat)).toArray[·]?) (Cl.zero.cells.toArray) [(0, .int .i64 n), (1, dgV k), (2, dgV s)] = some (Cl.cells ⟨n, k, s⟩).toArray := by
  have hkv : (bytesV k).length = 32 := by rw [bytesV_len, hk]
  have hsv : (bytesV s).length = 32 := by rw [bytesV_len, hs]
  have hz : (bytesV zeroD).length = 32 := by rw [bytesV_len]; rfl
  have e0 : Cl.zero.cells = [] ++ [Value.int .i64 0] ++ (bytesV zeroD ++ bytesV zeroD) := rfl
  have e1 : ([] ++ [Value.int .i64 n] ++ (bytesV zeroD ++ bytesV zeroD)) = [Value.int .i64 n] ++ bytesV zeroD ++ bytesV zeroD := by simp
  have e2 : [Value.int .i64 n] ++ bytesV k ++ bytesV zeroD = ([Value.int .i64 n] ++ bytesV k) ++ bytesV zeroD ++ [] := by simp
  rw [e0, fill_step [] [Value.int .i64 0] [Value.int .i64 n] (bytesV zeroD ++ bytesV zeroD) rfl rfl rfl, e1,
    fill_step [Value.int .i64 n] (bytesV zeroD) (bytesV k) (bytesV zeroD) (by rw [hz]; rfl) rfl (by rw [hz, hkv]), e2,
    fill_step ([Value.int .i64 n] ++ bytesV k) (bytesV zeroD) (bytesV s) [] (by rw [hz, List.length_append, hkv]; rfl) rfl (by rw [hz, hsv])]
  rw [Instr.fill]
  simp [Cl.cells]
theorem run_buildCl (n : Int) (k s : List UInt8) (hk : k.length = 32) (hs : s.length = 32) (w : World) :
    (Instr.build 50 #[(0, .int .i64 n), (1, dgV k), (2, dgV s)]).run Try.prog w = .ok (Cl.V ⟨n, k, s⟩) w := by
  refine run_build w _ _ _ ?_
  have hz := zeroCl
  rw [zeroCl'] at hz
  unfold Program.built
  cases hi : Try.prog.info? 50 with
  | none => rw [hi] at hz; cases hz
  | some it =>
    rw [hi] at hz
    have hz' : it.zero = some (.agg Cl.zero.cells.toArray) := by simpa using hz
    obtain ⟨fs, hu, hp⟩ := placesCl
    simp only [hu, hz', hp]
    exact cl_fill n k s hk hs
end Go.Proofs.Ytfligkncdlocaaa
