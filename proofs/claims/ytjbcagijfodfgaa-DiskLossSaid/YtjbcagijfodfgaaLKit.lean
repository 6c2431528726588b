/- Small lemmas that the walks of layer 40's laws share. -/
import Derived.Test.YtjbcagijfodfgaaDAw
import Derived.Test.YtjbcagijfodfgaaDPlain
import Derived.Deep.RegionWith
import Derived.BigQuiet
import Derived.Deep.QuietTactic
namespace Go.Proofs.Ytjbcagijfodfgaa
open Go.RowKit

theorem eqP_refl : ∀ l, eqP l l = true
  | [] => rfl
  | x :: l => by rw [eqP, eqP_refl l, beq_toListBytes]; simp
theorem eqC_refl : ∀ l, eqC l l = true
  | [] => rfl
  | x :: l => by rw [eqC, eqC_refl l, beq_toListBytes]; simp
theorem sameW_refl (d : Dsk) : sameW d d = true := by simp [sameW, eqP_refl, eqC_refl]
theorem same_refl (a : Dsk) (va vb : Value) (w : World) {S S' : Nat → Prop} (hD : DskR S w va a) (hE : DskR S' w vb a) :
    Calls Try.prog 15 #[va, vb] w fun e w' => e = .returned (.bool true) ∧ Below w.heap.size w w' := by
  rw [← sameW_refl a]; exact ref40_same0 a a va vb w hD hE
theorem great_b {b : Bool} (d : Dsk) (v : Value) (w : World) {S : Nat → Prop} (hD : DskR S w v d) (hg : greatW d.pages d.cache = b) :
    Calls Try.prog 11 #[v] w fun e w' => e = .returned (.bool b) ∧ Below w.heap.size w w' := hg ▸ ref40_great0 d v w hD
theorem Bx.at {w w' : World} {b : Nat} {cs : Array Value} {t : TypeId} (h : Bx w b cs t) (hb : Below w.heap.size w w') : Bx w' b cs t := h.belowAll hb

theorem great_false {p : List ByteArray} {c : List PW} (h : greatW p c = false) : p.length ≤ 12 ∧ c.length ≤ 20 := by
  unfold greatW at h; simp at h; omega
theorem Below.one (w : World) (o : Obj) : Below w.heap.size w (w.alloc o) := (Below.refl _ _).alloc (Nat.le_refl _) _
theorem Below.then {w w1 w2 : World} {B : Nat} (h : Below B w w1) (k : Below w1.heap.size w1 w2) (hB : B ≤ w1.heap.size) : Below B w w2 := h.trans (k.mono hB)

end Go.Proofs.Ytjbcagijfodfgaa
