/- What the answer to valid ranges is, plain. -/
import Derived.Test.YtebgopdmeghmhaaRcMany
namespace Go.Proofs.Ytebgopdmeghmhaa
open Go.RowKit

theorem ans_zero {ids : List (List UInt8)} {l : List Rg} (h : (ansD ids l).e = 0) : Asc ids ∧ checkR l = 0 := by
  unfold ansD at h
  split at h
  · rename_i ha
    split at h
    · rename_i hc; exact ⟨of_decide_eq_true ha, hc⟩
    · rename_i hc; exact absurd h hc
  · exact absurd h (by decide)
theorem ans_bad {ids : List (List UInt8)} {l : List Rg} (h : (ansD ids l).e ≠ 0) : (ansD ids l).r = [] ∧ (ansD ids l).w = [] ∧ (ansD ids l).g = [] ∧ (ascB ids = true → (ansD ids l).e = checkR l) := by
  unfold ansD at h ⊢
  split at h
  · rename_i ha
    rw [if_pos ha]
    split at h
    · exact absurd rfl h
    · rename_i hc
      rw [if_neg hc]
      exact ⟨rfl, rfl, rfl, fun _ => rfl⟩
  · rename_i ha
    rw [if_neg ha]
    exact ⟨rfl, rfl, rfl, fun h => absurd h ha⟩
theorem ans_valid {ids : List (List UInt8)} {l : List Rg} (ha : Asc ids) (hd : Dok ids) (hm : ids.length ≤ 60) (hok : ∀ r ∈ l, r.ok) (hl : l.length ≤ 100) (hc : checkR l = 0) : checkR (ansD ids l).r = 0 := by
  rw [ansD_ok ha hc]
  obtain ⟨h1, h2, h3⟩ := of_checkR hc
  obtain ⟨a1, a2, a3⟩ := ans_fine ha hd (l := l) (fun r hr => ⟨hok r hr, (of_oneE (h1 r hr)).1⟩) h2
  exact checkR_ok (fun r hr => (a1 r hr).1.one ha (by omega)) a2 (Nat.le_trans a3 (by omega))
theorem ans_wants {ids : List (List UInt8)} {l : List Rg} (ha : Asc ids) (hc : checkR l = 0) : ∀ d ∈ (ansD ids l).w, d ∉ ids := by
  rw [ansD_ok ha hc]
  intro d hw hi
  obtain ⟨r, hr, _, h1, h2⟩ := wants_mem.1 hw
  exact h2 (own_insR.2 ⟨hi, (of_oneE ((of_checkR hc).1 r hr)).2.2.1 d h1⟩)
theorem ans_gives {ids : List (List UInt8)} {l : List Rg} (ha : Asc ids) (hc : checkR l = 0) : ∀ d ∈ (ansD ids l).g, d ∈ ids := by
  rw [ansD_ok ha hc]
  intro d hw
  obtain ⟨r, hr, _, h1, h2⟩ := gives_mem.1 hw
  exact (own_insR.1 h1).1
theorem start_valid {ids : List (List UInt8)} (ha : Asc ids) (hd : Dok ids) (hm : ids.length ≤ 60) : checkR (startR ids) = 0 := by
  refine checkR_ok (fun r hr => (start_fine ha hd r hr).one ha (by omega)) ?_ (Nat.le_trans (start_small hm).1 (by decide))
  unfold startR
  split
  · exact List.pairwise_singleton _ _
  · exact List.Pairwise.nil
theorem without_self (l : List (List UInt8)) : withoutD l l = [] := by
  unfold withoutD
  rw [List.filter_eq_nil_iff]
  intro d hd
  simp [hd]
theorem ans_start {ids : List (List UInt8)} (ha : Asc ids) (hd : Dok ids) (hm : ids.length ≤ 60) : ansD ids (startR ids) = ⟨[], [], [], 0⟩ := by
  rw [ansD_ok ha (start_valid ha hd hm)]
  have e : startR ids = [descR zeroD zeroD ids] := by
    unfold startR ascB
    rw [if_pos (decide_eq_true ha)]
  rw [e]
  simp only [List.flatMap_cons, List.flatMap_nil, List.append_nil]
  have ho : ownR ids (descR zeroD zeroD ids) = ids := by
    unfold ownR descR
    split
    · exact own_all hd
    · exact own_all hd
  rw [ho]
  unfold descR
  split
  · have hs : sameP (summR zeroD zeroD ids) ids = true := by
      unfold sameP summR
      simp
    unfold partR partW partG
    rw [hs]
    simp [summR]
  · unfold partR partW partG
    simp [listR, without_self]
end Go.Proofs.Ytebgopdmeghmhaa
