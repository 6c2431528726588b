/- law IbltPeel: the walk. -/
import Derived.Test.YtebgopdmeghmhaaGreatLAw
import Derived.Test.YtebgopdmeghmhaaGreatRfPeel
namespace Go.Proofs.YtebgopdmeghmhaaGreat
open Go.RowKit

theorem peelN_small (t : List Cl) : ∀ k, (peelN k ⟨t, [], []⟩).p.length ≤ k ∧ (peelN k ⟨t, [], []⟩).m.length ≤ k
  | 0 => ⟨Nat.le_refl _, Nat.le_refl _⟩
  | k + 1 => by
    have ih := peelN_small t k
    show (peel1 (peelN k ⟨t, [], []⟩)).p.length ≤ _ ∧ (peel1 (peelN k ⟨t, [], []⟩)).m.length ≤ _
    generalize peelN k ⟨t, [], []⟩ = s at ih
    unfold peel1
    split
    · omega
    · unfold peelAt
      dsimp only
      constructor <;> split <;> (try rw [List.length_append, List.length_singleton]) <;> omega
theorem peelT_small (t : List Cl) : (peelT t).1.length ≤ t.length ∧ (peelT t).2.1.length ≤ t.length := by
  have h := peelN_small t t.length
  unfold peelT
  repeat' split
  · simp
  · rw [sortD_len, sortD_len]; exact h
  · simp























































































end Go.Proofs.YtebgopdmeghmhaaGreat
