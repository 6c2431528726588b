/- An argument of type string, opened. -/
import Derived.Test.YtjbcagijfodfgaaDOpen
import Derived.ChangeMaps5
namespace Go.Proofs.Ytjbcagijfodfgaa
open Go.RowKit Go.ChangeShapes Go.WideShapes
section
variable {H : Type} {enc : TypeId × Value → H} {W : World} {base : Nat} {sp : Nat → Bool} {held : Bool}
theorem open_str {r : Reach} {b0 : Nat} {v : Value} {d : DataW H} {p : List MemPlace} (hv : Value.okWide Try.prog W r b0 9 v) (h : DataW.Trod enc Try.prog W base sp held 9 v d p) (hw : ∀ k ∈ d.weights Try.prog 9, k ≤ reachBytes) :
    ∃ x : ByteArray, v = .string x ∧ x.size ≤ 140737488351232 := by
  obtain ⟨s, rfl, rfl, _, _⟩ := Go.ChangeMaps.open_string Try.underlying9 hv h
  exact ⟨s, rfl, hw s.size (by rw [weights_str]; exact List.mem_singleton.2 (by simp))⟩
end
end Go.Proofs.Ytjbcagijfodfgaa
