/- An argument of type string, opened. -/
import Derived.Test.YtlefmmhlpgmbjaaGreatQ30
import Derived.ChangeMaps5
import Derived.Test.YtlefmmhlpgmbjaaGreatQ01
namespace Go.Proofs.YtlefmmhlpgmbjaaGreat
set_option maxRecDepth 100000
open Go.RowKit Go.ChangeShapes Go.WideShapes
section
variable {H : Type} {enc : TypeId × Value -> H} {W : World} {base : Nat} {sp : Nat -> Bool} {held : Bool}
theorem open_str {r : Reach} {b0 : Nat} {v : Value} {d : DataW H} {p : List MemPlace} (hv : Value.okWide Tryz.prog W r b0 9 v) (h : DataW.Trod enc Tryz.prog W base sp held 9 v d p) (hw : ∀ k ∈ d.weights Tryz.prog 9, k <= reachBytes) :
  ∃ x : ByteArray, v = .string x /\ x.size <= 140737488351232 := by
 obtain ⟨s, rfl, rfl, _, _⟩ := Go.ChangeMaps.open_string Tryz.underlying9 hv h
 exact ⟨s, rfl, hw s.size (by rw [weights_str]; exact zmS.2 (by simp))⟩
end
end Go.Proofs.YtlefmmhlpgmbjaaGreat
