/- iblt.Insert. -/
import Derived.Test.YtebgopdmeghmhaaGreatIbPure
namespace Go.Proofs.YtebgopdmeghmhaaGreat
open Go.RowKit Go.Shelf

/-- the three cells of a digest hold counts -/
def fitB (t : List Cl) (d : List UInt8) : Bool := (List.range 3).all fun p => countsB (t.getD (posN d t.length p) Cl.zero).n
def insT (t : List Cl) (d : List UInt8) : List Cl × Int := if checkT t = 0 then (if fitB (putT t d 1) d then (putT t d 1, 0) else ([], 4)) else ([], checkT t)
theorem checkT_cases (t : List Cl) : checkT t = 0 ∨ checkT t = 2 := by
  unfold checkT
  split
  · split <;> simp
  · simp
theorem checkT_len {t : List Cl} (h : checkT t = 0) : allowedB t.length = true ∧ t.any (fun c => !countsB c.n) = false := by
  unfold checkT at h
  cases ha : allowedB (t.length : Int)
  · rw [ha] at h; simp at h
  · rw [ha] at h
    cases hk : t.any (fun c => !countsB c.n)
    · exact ⟨rfl, rfl⟩
    · rw [hk] at h; simp at h
/-- what a call hands back: a table of its own, an error -/
def TabE (w : World) (x : List Cl × Int) (e : Ending) (w' : World) : Prop := ∃ v, e = .returned (.tuple #[v, .int .i64 x.2]) ∧ TabR (fun b => w.heap.size ≤ b ∧ b < w'.heap.size) w' v x.1 ∧ Below w.heap.size w w'
theorem TabR.nil0 (S : Nat → Prop) (w : World) : TabR S w (.slice none 0 0) [] := ⟨RowsR.nil S w, fun _ h => by cases h⟩
theorem TabR.owns {w : World} {base : Nat} {v : Value} {t : List Cl} (h : w.ownsRow base 67 65 v t.length (tabC t).flatten) (hok : Tok t) : TabR (fun b => base ≤ b ∧ b < w.heap.size) w v t := ⟨RowsR.owns (by rw [tabC_size]; exact h), hok⟩
section
attribute [local go_sem] Oper.semAt_some





































































































































































































































end
end Go.Proofs.YtebgopdmeghmhaaGreat
