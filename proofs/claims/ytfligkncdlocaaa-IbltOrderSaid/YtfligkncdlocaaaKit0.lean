/- Two words on worlds that grow. -/
import Derived.Test.YtfligkncdlocaaaMem
namespace Go.Proofs.Ytfligkncdlocaaa
open Go.RowKit

theorem Below.one (w : World) (o : Obj) : Below w.heap.size w (w.alloc o) := (Below.refl _ _).alloc (Nat.le_refl _) _
theorem Below.then {w w1 w2 : World} {B : Nat} (h : Below B w w1) (k : Below w1.heap.size w1 w2) (hB : B ≤ w1.heap.size) : Below B w w2 := h.trans (k.mono hB)

end Go.Proofs.Ytfligkncdlocaaa
