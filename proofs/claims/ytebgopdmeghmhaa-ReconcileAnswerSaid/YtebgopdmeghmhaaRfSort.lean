/- quiltref47.Sorted: a digest put into a sorted list. Sorted digests: the sorted list is told by its members; putting a digest in keeps it sorted. -/
import Derived.Test.YtebgopdmeghmhaaLAw
import Derived.Test.YtebgopdmeghmhaaIbSort
namespace Go.Proofs.Ytebgopdmeghmhaa
open Go.RowKit

def leD (d x : List UInt8) : Bool := decide (cmpD x d ≤ 0)
def insD (l : List (List UInt8)) (d : List UInt8) : List (List UInt8) := l.takeWhile (leD d) ++ d :: l.dropWhile (leD d)
theorem insD_at {l : List (List UInt8)} {d : List UInt8} {k : Nat} (hk : k ≤ l.length) (hle : ∀ j (h : j < l.length), j < k → leD d l[j] = true) (hgt : ∀ h : k < l.length, leD d l[k] = false) : insD l d = l.take k ++ d :: l.drop k := by
  have h1 : l.takeWhile (leD d) = l.take k ∧ l.dropWhile (leD d) = l.drop k := by
    have e : l = l.take k ++ l.drop k := (List.take_append_drop k l).symm
    have hall : ∀ x ∈ l.take k, leD d x = true := by
      intro x hx
      obtain ⟨i, hi, rfl⟩ := List.mem_iff_getElem.1 hx
      rw [List.getElem_take]
      simp only [List.length_take] at hi
      exact hle i (by omega) (by omega)
    have hd : (l.drop k).takeWhile (leD d) = [] ∧ (l.drop k).dropWhile (leD d) = l.drop k := by
      rcases Nat.lt_or_ge k l.length with h | h
      · rw [List.drop_eq_getElem_cons h, List.takeWhile_cons, List.dropWhile_cons, hgt h]
        exact ⟨rfl, rfl⟩
      · rw [List.drop_eq_nil_of_le h]; exact ⟨rfl, rfl⟩
    constructor
    · conv => lhs; rw [e]
      rw [List.takeWhile_append_of_pos hall, hd.1, List.append_nil]
    · conv => lhs; rw [e]
      rw [List.dropWhile_append_of_pos hall, hd.2]
  unfold insD
  rw [h1.1, h1.2]
theorem insD_len (l : List (List UInt8)) (d : List UInt8) : (insD l d).length = l.length + 1 := by
  unfold insD
  rw [List.length_append, List.length_cons]
  have := congrArg List.length (List.takeWhile_append_dropWhile (p := leD d) (l := l))
  rw [List.length_append] at this
  omega
theorem insD_ok {l : List (List UInt8)} (h : Dok l) {d : List UInt8} (hd : d.length = 32) : Dok (insD l d) := by
  intro x hx
  rcases List.mem_append.1 hx with h1 | h1
  · exact h x ((List.takeWhile_subset _) h1)
  · rcases List.mem_cons.1 h1 with rfl | h1
    · exact hd
    · exact h x ((List.dropWhile_subset _) h1)
/-- an append to an empty slice -/
theorem run_append_empty {P : Program} (w : World) (t ty e : TypeId) (i : TypeInfo) (z : Value) (ht : P.underlying t = some (.slice e)) (hi : P.info? e = some i) (hz : i.zero = some z) (hzs : z.cells.size = i.size)
    (g : Nat) {base : Nat} (hb : base ≤ g) (hgl : g < w.heap.size) (hg : w.heap[g]? = some (.cells #[] e (0, 0))) (a : Addr) (m c : Nat) (news : List Value) (hl : news.length = m * i.size) (hnews : ∀ j u, news[j]? = some u → w.cell? (a.add j) = some u)
    (h63 : m ≤ maxLen) (hbytes : m * i.bytes ≤ 140737488355328) :
    ∃ v' w', (Builtin.append_ #[t, t] ty #[.slice (some ⟨g, 0, none⟩) 0 0, .slice (some a) m c]).run P w = .ok v' w' ∧ w'.ownsRow base e i.size v' m news ∧ Below w.heap.size w w' := by
  rcases Nat.eq_zero_or_pos m with rfl | hm
  · have hn : news = [] := List.eq_nil_of_length_eq_zero (by simpa using hl)
    subst hn
    have hr := run_append_room (P := P) w t ty e i ht hi g 0 0 #[] hg a 0 c [] (by simp) (by simp) (by simp) (Nat.le_refl _) (by simp)
    have e0 : ((#[] : Array Value).toList.take (0 * i.size) ++ [] ++ (#[] : Array Value).toList.drop (0 * i.size + ([] : List Value).length)).toArray = #[] := by simp
    rw [Nat.add_zero, e0] at hr
    refine ⟨_, _, hr, ?_, ?_⟩
    · refine ⟨by simp, .inr ⟨g, 0, #[], rfl, hb, ?_, Nat.le_refl _, Nat.zero_le _, by simp, by simp⟩⟩
      exact setRow_heap w g #[] _ e _ hg
    · refine ⟨rfl, rfl, rfl, by simp, fun k hk => ?_⟩
      rcases Nat.decEq k g with h | h
      · exact setRow_other w g k _ h
      · subst h
        rw [hg]
        exact setRow_heap w k #[] _ e _ hg
  · have hsmall : m ≤ 9223372036854775807 := by simp only [maxLen] at h63; omega
    have hr := run_append_grow (P := P) w t ty e i z ht hi hz ⟨g, 0, none⟩ 0 0 [] (by simp) (by simp) a m c news hl hnews (by omega) (by omega) (growslice_fits (by omega) (by rw [Nat.zero_add]; exact hbytes))
    simp only [Nat.zero_add] at hr
    have hge := grownCap_ge w m 0 e
    have hcm : grownCap w m 0 e ≤ maxLen := grownCap_le_maxLen w m 0 e h63
    refine ⟨_, _, hr, ⟨hl, .inr ⟨w.heap.size, _, _, rfl, by omega, heap_alloc_new w.drew _, hge, hcm, ?_, ?_⟩⟩, ⟨rfl, rfl, rfl, by simp, fun k hk => Below.heap_alloc w.drew _ k hk⟩⟩
    · simp only [Array.size_append, List.size_toArray, size_zeroCells, hzs, hl, List.length_nil, Nat.zero_add, ← Nat.add_mul]
      congr 1
      omega
    · simp only [Array.toList_append, List.nil_append]
      rw [← hl]
      exact List.take_left
theorem lz_app {P : Program} {o : Oper} {a : Act} {W : World} (s x : Operand) (t : TypeId) (hop : o.op = .call { callee := .builtin .append, args := #[s, x], argTypes := #[t, t] }) {vs vx : Value} (hs : a.eval s = vs) (hx : a.eval x = vx) {v' : Value} {w' : World} (hr : (Builtin.append_ #[t, t] o.type #[vs, vx]).run P W = .ok v' w')
    {Post : Value → World → Prop} (h : Post v' w') : lzAt P o a W Post := by
  unfold lzAt execOp
  simp only [hop, resolve, invoke, builtin, Sem.run_bind, Sem.run_pure, Result.andThen_ok, List.map_toArray, List.map_cons, List.map_nil, hs, hx, hr]
  exact h
theorem ownsRow_lower {w : World} {base base' : Nat} {e : TypeId} {size : Nat} {v : Value} {n : Nat} {xs : List Value} (h : w.ownsRow base e size v n xs) (hb : base' ≤ base) : w.ownsRow base' e size v n xs := by
  refine ⟨h.1, ?_⟩
  rcases h.2 with h1 | ⟨g, cap, cur, e1, hg, r⟩
  · exact .inl h1
  · exact .inr ⟨g, cap, cur, e1, Nat.le_trans hb hg, r⟩
theorem RowAt.lt {S : Nat → Prop} {w : World} {o : Option Addr} {l : List Value} (h : RowAt S w o l) : RowAt (· < w.heap.size) w o l := by
  intro i hi
  obtain ⟨b, off, ho, hc, _⟩ := h i hi
  exact ⟨b, off, ho, hc, World.block_lt_of_cell? w _ hc⟩
theorem cmp_le_bool (a d : List UInt8) : leD d a = decide (cmpD a d ≤ 0) := rfl
























































































































































































































































































































end Go.Proofs.Ytebgopdmeghmhaa
namespace Go.Proofs.Ytebgopdmeghmhaa
open Go.RowKit

theorem leq_iff (x y : List UInt8) : (!decide (cmpD y x < 0)) = true ↔ cmpD x y ≤ 0 := by
  rw [Bool.not_eq_true', decide_eq_false_iff_not]
  have := cmpB_neg x y
  unfold cmpD at *
  omega
theorem leq_trans {a b c : List UInt8} (h1 : cmpD a b ≤ 0) (h2 : cmpD b c ≤ 0) : cmpD a c ≤ 0 := by
  unfold cmpD at *
  rcases Int.lt_or_eq_of_le h1 with h | h
  · rcases Int.lt_or_eq_of_le h2 with k | k
    · exact Int.le_of_lt (cmpB_trans a b c h k)
    · rw [← cmpB_eq k]; exact h1
  · rw [cmpB_eq h]; exact h2
theorem leq_total (a b : List UInt8) : cmpD a b ≤ 0 ∨ cmpD b a ≤ 0 := by
  have := cmpB_neg a b
  unfold cmpD
  omega
theorem leq_antisymm {a b : List UInt8} (h1 : cmpD a b ≤ 0) (h2 : cmpD b a ≤ 0) : a = b := by
  have := cmpB_neg a b
  unfold cmpD at *
  exact cmpB_eq (by omega)
def SortedD (l : List (List UInt8)) : Prop := l.Pairwise fun x y => cmpD x y ≤ 0
theorem sortD_sorted (l : List (List UInt8)) : SortedD (sortD l) := by
  have h := List.pairwise_mergeSort (le := fun x y => !decide (cmpD y x < 0)) (fun a b c h1 h2 => (leq_iff a c).2 (leq_trans ((leq_iff a b).1 h1) ((leq_iff b c).1 h2))) (fun a b => by
    rw [Bool.or_eq_true, leq_iff, leq_iff]; exact leq_total a b) l
  exact h.imp (fun h => (leq_iff _ _).1 h)
theorem sortD_perm (l : List (List UInt8)) : (sortD l).Perm l := List.mergeSort_perm l _
theorem sorted_uniq {l m : List (List UInt8)} (hl : SortedD l) (hm : SortedD m) (h : l.Perm m) : l = m :=
  List.Perm.eq_of_pairwise (fun _a _b _ _ h1 h2 => leq_antisymm h1 h2) hl hm h
theorem sortD_eq {l m : List (List UInt8)} (h : l.Perm m) : sortD l = sortD m :=
  sorted_uniq (sortD_sorted l) (sortD_sorted m) (((sortD_perm l).trans h).trans (sortD_perm m).symm)
theorem insD_perm (l : List (List UInt8)) (d : List UInt8) : (insD l d).Perm (l ++ [d]) := by
  unfold insD
  refine List.perm_middle.trans ?_
  rw [List.takeWhile_append_dropWhile]
  exact List.perm_append_comm (l₁ := [d])
theorem dropW_gt {l : List (List UInt8)} (h : SortedD l) (d : List UInt8) : ∀ x ∈ l.dropWhile (leD d), cmpD d x ≤ 0 := by
  induction l with
  | nil => intro x hx; cases hx
  | cons a l ih =>
    rw [List.dropWhile_cons]
    have hp := List.pairwise_cons.1 h
    split
    · exact ih hp.2
    · rename_i hn
      have hda : cmpD d a ≤ 0 := by
        rcases leq_total d a with h1 | h1
        · exact h1
        · exact absurd (decide_eq_true h1) hn
      intro x hx
      rcases List.mem_cons.1 hx with rfl | hx
      · exact hda
      · exact leq_trans hda (hp.1 x hx)
theorem insD_sorted {l : List (List UInt8)} (h : SortedD l) (d : List UInt8) : SortedD (insD l d) := by
  unfold insD SortedD
  have hl := h
  unfold SortedD at hl
  rw [← List.takeWhile_append_dropWhile (p := leD d) (l := l), List.pairwise_append] at hl
  have htk : ∀ x ∈ l.takeWhile (leD d), cmpD x d ≤ 0 := fun x hx => of_decide_eq_true (List.all_eq_true.1 (List.all_takeWhile (p := leD d) (l := l)) x hx)
  rw [List.pairwise_append]
  refine ⟨hl.1, List.pairwise_cons.2 ⟨dropW_gt h d, hl.2.1⟩, fun x hx y hy => ?_⟩
  rcases List.mem_cons.1 hy with rfl | hy
  · exact htk x hx
  · exact hl.2.2 x hx y hy
theorem insD_sort (l : List (List UInt8)) (d : List UInt8) : insD (sortD l) d = sortD (l ++ [d]) :=
  sorted_uniq (insD_sorted (sortD_sorted l) d) (sortD_sorted _) ((insD_perm _ d).trans (((sortD_perm l).append_right [d]).trans (sortD_perm _).symm))
end Go.Proofs.Ytebgopdmeghmhaa
