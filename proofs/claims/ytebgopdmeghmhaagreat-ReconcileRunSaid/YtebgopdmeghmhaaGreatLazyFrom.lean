/- Lazy, from the operation k on: what stands ahead of it has yielded already. -/
import Derived.Test.YtebgopdmeghmhaaGreatLazy
namespace Go.Proofs.YtebgopdmeghmhaaGreat
open Go.RowKit
section
variable {P : Program} {ops : Array Oper} {md : Region.Mode} {W0 : World} {an : Anns}
theorem AO_firstF {n i : Nat} {oi : Oper} {S : Option Rec → Value → Prop} {L : Array Bool → Recs → Act → Prop} (hi : ops[i]? = some oi) (hsel : ∀ (j : Nat) (o : Oper) cs b, ops[j]? = some o → o.op ≠ .select cs b)
    (hs : ∀ t, t < ops.size → n ≤ t → (pastB md ops 8 [t]).contains i = true) (hin : i < n) (hdone : ∀ listed ξ a, L listed ξ a → ∀ j ∈ Region.ready md ops listed, n ≤ j) :
    ∀ (f : Nat) (listed : Array Bool) (ξ : Recs) (a : Act), Closed md ops n listed →
      (∀ j oj, ops[j]? = some oj → j ≠ i → listed.getD j true = false → (∀ e ∈ oj.after, Region.binds md e = true → e.on ≠ i) → oi.apart ops oj = true) →
      i ∈ Region.ready md ops listed → Outs P ops md an W0 i oi ξ a S →
      (∀ ρ v, S ρ v → AO P ops md an W0 n L f (listed.setIfInBounds i true) (upr ξ i ρ) (a.put oi.dst v)) → AO P ops md an W0 n L (f + 1) listed ξ a := by
  intro f
  have head : ∀ (listed : Array Bool), Closed md ops n listed → i ∈ Region.ready md ops listed → ∀ j ∈ Region.ready md ops listed, j < n := by
    intro listed inv hr j hj
    rcases Nat.lt_or_ge j n with h | h
    · exact h
    · exfalso
      have hlt : j < ops.size := by obtain ⟨_, oj, hoj, _⟩ := mem_ready.1 hj; exact (Array.getElem?_eq_some_iff.1 hoj).1
      rcases reach_listed hj inv.closed (hs j hlt h) with h2 | h2
      · omega
      · rw [getD_both (mem_ready.1 hr).1] at h2; cases h2
  induction f with
  | zero =>
    intro listed ξ a inv _ hr hy H
    refine ⟨fun h => (by rw [h] at hr; cases hr), fun j hj => ⟨head listed inv hr j hj, fun oj hoj => ?_⟩⟩
    by_cases hji : j = i
    · subst hji
      obtain rfl : oj = oi := Option.some.inj (hoj.symm.trans hi)
      exact ⟨S, hy, H⟩
    · obtain ⟨ρ, v, hs⟩ := hy.some
      have := hdone _ _ _ (H ρ v hs) j (ready_mono hj hji)
      have := head listed inv hr j hj
      omega
  | succ f ih =>
    intro listed ξ a inv hfree hr hy H
    refine ⟨fun h => (by rw [h] at hr; cases hr), fun j hj => ⟨head listed inv hr j hj, fun oj hoj => ?_⟩⟩
    by_cases hji : j = i
    · subst hji
      obtain rfl : oj = oi := Option.some.inj (hoj.symm.trans hi)
      exact ⟨S, hy, H⟩
    · obtain ⟨hjun, oj', hoj', hall⟩ := mem_ready.1 hj
      obtain rfl : oj' = oj := Option.some.inj (hoj'.symm.trans hoj)
      have hun := (mem_ready.1 hr).1
      have hnot : ∀ e ∈ oj'.after, Region.binds md e = true → e.on ≠ i := fun e he hb heq => by
        have h1 := hall e he hb
        rw [heq, getD_both hun] at h1
        cases h1
      have hri : reachB md ops i j = false := by
        cases h : reachB md ops i j with
        | false => rfl
        | true =>
          rcases reach_listed hr inv.closed h with h2 | h2
          · exact absurd h2 hji
          · rw [getD_both hjun] at h2; cases h2
      have hrj : reachB md ops j i = false := by
        cases h : reachB md ops j i with
        | false => rfl
        | true =>
          rcases reach_listed hj inv.closed h with h2 | h2
          · exact absurd h2.symm hji
          · rw [getD_both hun] at h2; cases h2
      have hfree' : ∀ k ok, ops[k]? = some ok → k ≠ i → (listed.setIfInBounds j true).getD k true = false →
          (∀ e ∈ ok.after, Region.binds md e = true → e.on ≠ i) → oi.apart ops ok = true := fun k ok hk hki hun hno => by
        refine hfree k ok hk hki ?_ hno
        by_cases hjk : j = k
        · subst hjk; exact hjun
        · rw [getD_set_ne true hjk] at hun; exact hun
      refine (StepK.swap (Ne.symm hji) (hfree j oj' hoj hji hjun hnot) (fun cs b => hsel i oi cs b hi) (fun cs b => hsel j oj' cs b hoj) hri hrj hy fun ρ v hs => ((H ρ v hs).2 j (ready_mono hj hji)).2 oj' hoj).mono ?_
      rintro ξ' a' ⟨h1, h2⟩
      refine ih (listed.setIfInBounds j true) ξ' a' (inv.set hj) hfree' (ready_mono hr (Ne.symm hji)) h1 fun ρ v hs => ?_
      rw [Array.setIfInBounds_comm _ _ hji]
      exact h2 ρ v hs

theorem AO_lexF {n : Nat} {Lq : Recs → Act → Prop} (hsel : Region.noSelect ops = true) (k0 : Nat) (hs : ∀ i, k0 ≤ i → i < n → ∀ t, t < ops.size → n ≤ t → (pastB md ops 8 [t]).contains i = true) (done : Array Bool) (hdn : (Region.ready md ops done).all (fun j => decide (n ≤ j)) = true) :
    ∀ (l : List Oper) (k : Nat) (listed : Array Bool) (ξ : Recs) (a : Act), (∀ j, j < l.length → l[j]? = ops[k + j]?) → k0 ≤ k → k + l.length = n → Closed md ops n listed → setTo listed l.length k = done →
    lazyHead md ops n l.length k listed = true → LW P ops md an W0 Lq l k ξ a → AO P ops md an W0 n (fun listed' ξ' a' => listed' = done ∧ Lq ξ' a') l.length listed ξ a
  | [], k, listed, ξ, a, _, _, _, _, hd, _, h => ⟨hd, h⟩
  | o :: l, k, listed, ξ, a, hl, hk0, hk, inv, hd, hB, h => by
    have h0 : ops[k]? = some o := by simpa using (hl 0 (by simp)).symm
    simp only [List.length_cons, lazyHead, Bool.and_eq_true] at hB
    obtain ⟨⟨hr, hf⟩, hB'⟩ := hB
    have hkn : k < n := by simp only [List.length_cons] at hk; omega
    have hr' : k ∈ Region.ready md ops listed := by simpa using hr
    obtain ⟨S, hS, hK⟩ := h
    refine AO_firstF h0 (Region.noSelect_spec hsel) (hs k hk0 hkn) hkn (fun listed' _ a' hL j hj => ?_) l.length listed ξ a inv (Region.free_spec h0 hf) hr' hS fun ρ v hs' => ?_
    · rw [hL.1] at hj; exact of_decide_eq_true (List.all_eq_true.1 hdn j hj)
    · exact AO_lexF hsel k0 hs done hdn l (k + 1) _ _ _ (fun j hj => by have := hl (j + 1) (by simp; omega); simpa [Nat.add_assoc, Nat.add_comm 1 j] using this) (by omega) (by simp only [List.length_cons] at hk; omega) (inv.set hr') (by simpa [setTo] using hd) hB' (hK ρ v hs')


def sinkFromB (md : Region.Mode) (ops : Array Oper) (k n : Nat) : Bool := (List.range ops.size).all fun t => decide (t < n) || (List.range n).all fun i => decide (i < k) || (pastB md ops 8 [t]).contains i
def closedB (md : Region.Mode) (ops : Array Oper) (listed : Array Bool) : Bool := decide (listed.size = ops.size) && (List.range ops.size).all fun j => !listed.getD j false || (ops.getD j default).after.all fun e => !Region.binds md e || listed.getD e.on false
theorem closedB_spec {n : Nat} {listed : Array Bool} (h : closedB md ops listed = true) : Closed md ops n listed := by
  simp only [closedB, Bool.and_eq_true, decide_eq_true_eq] at h
  refine ⟨h.1, fun j oj hj hl e he hb => ?_⟩
  have hlt : j < ops.size := (Array.getElem?_eq_some_iff.1 hj).1
  have h1 := List.all_eq_true.1 h.2 j (List.mem_range.2 hlt)
  have e1 : ops.getD j default = oj := by rw [Array.getD_eq_getD_getElem?, hj]; rfl
  rw [hl, e1] at h1
  simp only [Bool.not_true, Bool.false_or] at h1
  have h2 := Array.all_eq_true_iff_forall_mem.1 h1 e he
  rw [hb] at h2
  simpa only [Bool.not_true, Bool.false_or] using h2
def lazyFromB (md : Region.Mode) (ops : Array Oper) (k n : Nat) (listed : Array Bool) : Bool := Region.noSelect ops && sinkFromB md ops k n && closedB md ops listed && lazyHead md ops n (n - k) k listed
theorem wpAny_lz {Q : Exit → Act → World → Prop} {a : Act} {w : World} {l : List Oper} {listed : Array Bool} {fuel : Nat} (k n g : Nat) (done : Array Bool) (an : Anns) (hn : l.length = n + g) (hk : k ≤ n) (hf : fuel = n - k + g) (hd : setTo listed (n - k) k = done) (hB : lazyFromB md l.toArray k n listed = true) (hw : Below W0.heap.size W0 w)
    (h : LW P l.toArray md an W0 (fun ξ a' => ∀ w', Good an W0 ξ w' → wpAny P md l.toArray Q g done a' w') ((l.drop k).take (n - k)) k (fun _ => none) a) : wpAny P md l.toArray Q fuel listed a w := by
  simp only [lazyFromB, Bool.and_eq_true] at hB
  obtain ⟨⟨⟨hsel, hs⟩, hc⟩, hlex⟩ := hB
  have htl : ((l.drop k).take (n - k)).length = n - k := by simp; omega
  have hdn := lazyHead_done _ _ _ hlex
  have H := AO_lexF (md := md) hsel k (fun i hi hin t ht hnt => by
      have h1 := List.all_eq_true.1 hs t (List.mem_range.2 ht)
      simp only [Bool.or_eq_true, decide_eq_true_eq] at h1
      rcases h1 with h1 | h1
      · omega
      · have h2 := List.all_eq_true.1 h1 i (List.mem_range.2 hin)
        simp only [Bool.or_eq_true, decide_eq_true_eq] at h2
        rcases h2 with h2 | h2
        · omega
        · exact h2) _ hdn ((l.drop k).take (n - k)) k listed _ a (fun j hj => by
    have hj' : j < n - k := by rw [htl] at hj; exact hj
    simp [hj']) (Nat.le_refl _) (by rw [htl]; omega) (closedB_spec hc) (by rw [htl]) (by rw [htl]; exact hlex) h
  have := wpAny_of_AO (g := g) (Q' := Q) (w := w) (fun listed ξ a' w' hL hg => ?_) _ _ _ _ H (Good.start an hw)
  · rw [htl] at this
    rw [hf]
    exact this
  · rw [hL.1, hd]
    exact hL.2 w' hg
/-- the first operation, a move that stands apart: taken ahead -/
theorem wp_region_move0 {id : Nat} {Q : Exit → Act → World → Prop} {a : Act} {w : World} {o : Oper} {rest : List Oper} (hm : P.follows .mixedOrders = true) (x : Operand) (v : Value) (hop : o.op = .move x) (hgd : o.guard = none) (hv : a.eval x = v)
    (hs : Region.noSelect (o :: rest).toArray = true) (hf : Region.free .any (o :: rest).toArray (Array.replicate (rest.length + 1) false) 0 = true) (hr : (Region.ready .any (o :: rest).toArray (Array.replicate (rest.length + 1) false)).contains 0 = true) (hQ : ∀ c b w, Q (.panic c) (b.put o.dst v) w → Q (.panic c) b w)
    (h : wpAny P .any (o :: rest).toArray Q rest.length ((Array.replicate (rest.length + 1) false).setIfInBounds 0 true) (a.put o.dst v) w.drew) : (Code.region id (o :: rest).toArray true).wp P Q a w := by
  refine wp_region_any hm ?_
  have e : (o :: rest).toArray.size = rest.length + 1 := by simp
  rw [e]
  refine wpAny_take (i := 0) (oi := o) (v := v) rfl hs hf hr hQ (Or.inl ⟨by simp [Region.wanted, hgd], fun w' => by simp [execOp, hop, hv]⟩) h
end
end Go.Proofs.YtebgopdmeghmhaaGreat
