/- quiltref47.Insert, Of. -/
import Derived.Test.YtebgopdmeghmhaaGreatIbIns
import Derived.Test.YtebgopdmeghmhaaGreatRfPure
namespace Go.Proofs.YtebgopdmeghmhaaGreat
open Go.RowKit

def insTR (t : List Cl) (d : List UInt8) : List Cl × Int := if checkT t = 0 then (if checkT (putT t d 1) = 0 then (putT t d 1, 0) else ([], 4)) else ([], checkT t)
theorem TabR.empty {w : World} {base : Nat} (hb : base ≤ w.heap.size) : TabR (fun b => base ≤ b ∧ b < (w.alloc (.cells #[] 67)).heap.size) (w.alloc (.cells #[] 67)) (.slice (some ⟨w.heap.size, 0, none⟩) 0 0) [] :=
  TabR.owns (ownsRow_empty w base w.heap.size 67 65 rfl hb) (fun _ h => by cases h)










































































end Go.Proofs.YtebgopdmeghmhaaGreat
