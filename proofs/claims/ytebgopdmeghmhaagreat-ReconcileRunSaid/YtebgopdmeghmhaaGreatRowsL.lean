/- Rows of elements of more than one cell: reading, writing, growing; structs and arrays built and compared. No function of the program is named here. -/
import Derived.Test.YtebgopdmeghmhaaGreatIbChk
import Derived.DeepKeys
namespace Go.Proofs.YtebgopdmeghmhaaGreat
open Go.RowKit

/-! elements of one length, side by side -/
theorem flat_len {α : Type} {m : Nat} : ∀ {L : List (List α)}, (∀ x ∈ L, x.length = m) → L.flatten.length = L.length * m
  | [], _ => by simp
  | x :: L, h => by
    rw [List.flatten_cons, List.length_append, h x (by simp), flat_len (L := L) (fun y hy => h y (by simp [hy])), List.length_cons, Nat.add_mul]; omega
theorem flat_get {α : Type} {m : Nat} : ∀ {L : List (List α)}, (∀ x ∈ L, x.length = m) → ∀ (i r : Nat), r < m → L.flatten[i * m + r]? = L[i]?.bind (·[r]?)
  | [], _, i, r, _ => by simp
  | x :: L, h, 0, r, hr => by
    rw [List.flatten_cons, Nat.zero_mul, Nat.zero_add, List.getElem?_append_left (by rw [h x (by simp)]; exact hr)]; rfl
  | x :: L, h, i + 1, r, hr => by
    rw [List.flatten_cons, List.getElem?_append_right (by rw [h x (by simp), Nat.add_mul]; omega), h x (by simp), show (i + 1) * m + r - m = i * m + r by rw [Nat.add_mul]; omega, flat_get (L := L) (fun y hy => h y (by simp [hy])) i r hr]
    rfl
theorem set_len {α : Type} {m : Nat} {L : List (List α)} (h : ∀ x ∈ L, x.length = m) {i : Nat} {x : List α} (hx : x.length = m) : ∀ y ∈ L.set i x, y.length = m := by
  intro y hy
  rcases List.mem_or_eq_of_mem_set hy with h1 | rfl
  · exact h y h1
  · exact hx
/-- an element's cells -/
theorem RowAt.seg {S : Nat → Prop} {w : World} {b off m : Nat} {L : List (List Value)} (hL : ∀ x ∈ L, x.length = m) (h : RowAt S w (some ⟨b, off, none⟩) L.flatten) {i : Nat} (hi : i < L.length) : w.rangeAt b (off + i * m) L[i] := by
  intro r v hr
  obtain ⟨hr', rfl⟩ := List.getElem?_eq_some_iff.1 hr
  have hm : L[i].length = m := hL _ (List.getElem_mem hi)
  have hg := flat_get hL i r (by omega)
  rw [List.getElem?_eq_getElem hi] at hg
  simp only [Option.bind_some, List.getElem?_eq_getElem hr'] at hg
  obtain ⟨hj, hv⟩ := List.getElem?_eq_some_iff.1 hg
  obtain ⟨b', off', e, hc, _⟩ := h _ hj
  obtain ⟨rfl, rfl⟩ : b = b' ∧ off = off' := by simpa using e
  rw [Nat.add_assoc, hc, hv]
theorem RowAt.blk {S : Nat → Prop} {w : World} {o : Option Addr} {L : List Value} (h : RowAt S w o L) (hl : 0 < L.length) : ∃ b off, o = some ⟨b, off, none⟩ ∧ S b ∧ b < w.heap.size := by
  obtain ⟨b, off, e, hc, hs⟩ := h 0 hl
  obtain ⟨o', ho, _⟩ := cells_of_cell hc
  exact ⟨b, off, e, hs, (Array.getElem?_eq_some_iff.1 ho).1⟩
theorem rangeAt_sub {w : World} {b o : Nat} {l : List Value} (h : w.rangeAt b o l) (k m : Nat) : w.rangeAt b (o + k) ((l.drop k).take m) := by
  intro j v hv
  rw [Nat.add_assoc]
  refine h (k + j) v ?_
  rw [List.getElem?_take] at hv
  split at hv
  · rw [List.getElem?_drop] at hv; exact hv
  · cases hv
theorem rangeAt_same {w w' : World} {b o : Nat} {l : List Value} (h : w.rangeAt b o l) (hw : w'.heap[b]? = w.heap[b]?) : w'.rangeAt b o l := fun j v hv => (World.cell?_of_block hw).trans (h j v hv)
theorem rangeAt_below {w w' : World} {b o B : Nat} {l : List Value} (h : w.rangeAt b o l) (hw : Below B w w') (hb : b < B) : w'.rangeAt b o l := rangeAt_same h (hw.block b hb)

/-- a slice value over elements L, in blocks of S -/
def RowsR (S : Nat → Prop) (w : World) (v : Value) (L : List (List Value)) : Prop := ∃ o c, v = .slice o L.length c ∧ SlW o L.length c ∧ RowAt S w o L.flatten
theorem RowsR.below {S : Nat → Prop} {w w' : World} {v : Value} {L : List (List Value)} (h : RowsR S w v L) (hb : Below w.heap.size w w') : RowsR S w' v L := by
  obtain ⟨o, c, e, hs, hr⟩ := h
  exact ⟨o, c, e, hs, hr.below hb⟩
theorem RowsR.same {S : Nat → Prop} {w w' : World} {v : Value} {L : List (List Value)} (h : RowsR S w v L) (hb : Same S w w') : RowsR S w' v L := by
  obtain ⟨o, c, e, hs, hr⟩ := h
  exact ⟨o, c, e, hs, hr.same hb⟩
theorem RowsR.mono {S T : Nat → Prop} {w : World} {v : Value} {L : List (List Value)} (h : RowsR S w v L) (hT : ∀ b, S b → T b) : RowsR T w v L := by
  obtain ⟨o, c, e, hs, hr⟩ := h
  exact ⟨o, c, e, hs, hr.mono hT⟩
theorem RowsR.nil (S : Nat → Prop) (w : World) : RowsR S w (.slice none 0 0) [] := ⟨none, 0, rfl, .inl ⟨rfl, rfl, rfl⟩, RowAt.nil _ _ _⟩
theorem RowsR.owns {w : World} {base : Nat} {e : TypeId} {m : Nat} {v : Value} {L : List (List Value)} (h : w.ownsRow base e m v L.length L.flatten) : RowsR (fun b => base ≤ b ∧ b < w.heap.size) w v L := by
  obtain ⟨o, c, e', hs, hr, _⟩ := ownsRow_at h
  exact ⟨o, c, e', hs, hr⟩

/-- one element written in a row of the call's own -/
theorem ownsRow_seg {w : World} {base g cap : Nat} {e : TypeId} {m : Nat} {L : List (List Value)} (hL : ∀ x ∈ L, x.length = m) (h : w.ownsRow base e m (.slice (some ⟨g, 0, none⟩) L.length cap) L.length L.flatten) {i : Nat} (hi : i < L.length) {x : List Value} (hx : x.length = m) (hm : 0 < m) :
    (w.setCells g (i * m) x).ownsRow base e m (.slice (some ⟨g, 0, none⟩) L.length cap) L.length (L.set i x).flatten ∧ w.there g (i * m) m := by
  rcases h.2 with ⟨h1, _⟩ | ⟨g', cap', cur, e', hb, hg, hn, hc, hs, ht⟩
  · cases h1
  obtain ⟨rfl, rfl⟩ : g = g' ∧ cap = cap' := by simpa using e'
  have hle : i * m + m ≤ cap * m := by rw [← Nat.succ_mul]; exact Nat.mul_le_mul_right _ (by omega)
  have hB : Bx w g cur e := hg
  obtain ⟨cs', b1, b2, b3⟩ := hB.setCells x (i * m)
  have hlS : ((L.set i x).flatten).length = L.length * m := by rw [flat_len (set_len hL hx), List.length_set]
  refine ⟨⟨hlS, .inr ⟨g, cap, cs', rfl, hb, b1, hn, hc, by rw [b2]; exact hs, ?_⟩⟩, there_of hB (by omega)⟩
  apply List.ext_getElem?
  intro j
  rw [List.getElem?_take]
  by_cases hj : j < L.length * m
  · rw [if_pos hj]
    have hold : cur.toList[j]? = L.flatten[j]? := by
      rw [← ht, List.getElem?_take, if_pos hj]
    obtain ⟨q, r, hr, rfl⟩ : ∃ q r, r < m ∧ j = q * m + r := ⟨j / m, j % m, Nat.mod_lt _ hm, by rw [Nat.mul_comm]; exact (Nat.div_add_mod j m).symm⟩
    have hq : q < L.length := by
      rcases Nat.lt_or_ge q L.length with h | h
      · exact h
      · have := Nat.mul_le_mul_right m h; omega
    rw [flat_get (set_len hL hx) _ _ hr, Array.getElem?_toList, b3]
    by_cases hij : q = i
    · subst hij
      rw [if_pos ⟨by omega, by omega, by rw [hs]; omega⟩, show q * m + r - q * m = r by omega, List.getElem?_set_self hq]
      rfl
    · have hnot : ¬ (i * m ≤ q * m + r ∧ q * m + r < i * m + x.length ∧ q * m + r < cur.size) := by
        rintro ⟨h1, h2, _⟩
        rw [hx] at h2
        rcases Nat.lt_or_gt_of_ne hij with h3 | h3
        · have := Nat.mul_le_mul_right m h3
          rw [Nat.succ_mul] at this; omega
        · have := Nat.mul_le_mul_right m h3
          rw [Nat.succ_mul] at this; omega
      rw [if_neg hnot, ← Array.getElem?_toList, hold, flat_get hL _ _ hr, List.getElem?_set_ne (fun e => hij e.symm)]
  · rw [if_neg hj, List.getElem?_eq_none (by rw [hlS]; omega)]
where
  there_of {w : World} {g : Nat} {cur : Array Value} {e : TypeId} {o n : Nat} (hB : Bx w g cur e) (h : o + n ≤ cur.size) : w.there g o n := by
    intro j hj
    rw [hB.cell, hB.free]
    exact ⟨by simp; omega, rfl⟩
theorem ownsRow_setCells {w : World} {base : Nat} {e : TypeId} {m : Nat} {v : Value} {n : Nat} {xs : List Value} (h : w.ownsRow base e m v n xs) {b : Nat} (hb : v.ownBlock ≠ some b) : ∀ (l : List Value) (o : Nat), (w.setCells b o l).ownsRow base e m v n xs := by
  intro l
  induction l generalizing w with
  | nil => intro o; exact h
  | cons u l ih => intro o; exact ih (ownsRow_set h (a := ⟨b, o, none⟩) hb u) (o + 1)

/-! structs and arrays built -/
theorem blit_get : ∀ (l : List Value) (o : Nat) (cs : Array Value) (k : Nat), ((l.zipIdx k).foldl (fun cs (c, j) => cs.setIfInBounds (o + j) c) cs).size = cs.size ∧
    ∀ j, ((l.zipIdx k).foldl (fun cs (c, j) => cs.setIfInBounds (o + j) c) cs)[j]? = if o + k ≤ j ∧ j < o + k + l.length ∧ j < cs.size then l[j - (o + k)]? else cs[j]?
  | [], o, cs, k => ⟨rfl, fun j => by rw [if_neg (by simp; omega)]; rfl⟩
  | v :: l, o, cs, k => by
    obtain ⟨h1, h2⟩ := blit_get l o (cs.setIfInBounds (o + k) v) (k + 1)
    simp only [List.zipIdx_cons, List.foldl_cons]
    refine ⟨by rw [h1]; simp, fun j => ?_⟩
    rw [h2]
    simp only [Array.size_setIfInBounds, List.length_cons]
    by_cases e : j = o + k
    · subst e
      rw [if_neg (by omega)]
      by_cases hj : o + k < cs.size
      · rw [if_pos (by omega)]; simp [hj]
      · rw [if_neg (by omega), Array.getElem?_eq_none (by simp; omega), Array.getElem?_eq_none (by omega)]
    · by_cases hj : o + (k + 1) ≤ j ∧ j < o + (k + 1) + l.length ∧ j < cs.size
      · rw [if_pos hj, if_pos (by omega), show j - (o + k) = (j - (o + (k + 1))) + 1 by omega]; rfl
      · rw [if_neg hj, if_neg (by omega), Array.getElem?_setIfInBounds_ne (fun h => e h.symm)]
/-- a field, or an element, laid into cells -/
theorem blit_eq (a : List Value) (x y : List Value) (b : List Value) (h : x.length = y.length) :
    (y.toArray.zipIdx.foldl (fun cs (c, j) => cs.setIfInBounds (a.length + j) c) (a ++ x ++ b).toArray) = (a ++ y ++ b).toArray := by
  have e : y.toArray.zipIdx.foldl (fun cs (c, j) => cs.setIfInBounds (a.length + j) c) (a ++ x ++ b).toArray = (y.zipIdx 0).foldl (fun cs (c, j) => cs.setIfInBounds (a.length + j) c) (a ++ x ++ b).toArray := by
    rw [← Array.foldl_toList, Array.toList_zipIdx]
  rw [e]
  obtain ⟨h1, h2⟩ := blit_get y a.length (a ++ x ++ b).toArray 0
  apply Array.ext_getElem?
  intro j
  rw [h2]
  simp only [List.size_toArray, List.length_append, Nat.add_zero, List.getElem?_toArray]
  by_cases hj : a.length ≤ j ∧ j < a.length + y.length ∧ j < a.length + x.length + b.length
  · rw [if_pos hj, List.append_assoc, List.getElem?_append_right hj.1, List.getElem?_append_left (by omega)]
  · rw [if_neg hj]
    by_cases h3 : j < a.length
    · rw [List.append_assoc, List.append_assoc, List.getElem?_append_left h3, List.getElem?_append_left h3]
    · have h4 : a.length + y.length ≤ j ∨ a.length + x.length + b.length ≤ j := by omega
      by_cases h5 : j < a.length + x.length + b.length
      · rw [List.getElem?_append_right (by simp; omega), List.getElem?_append_right (by simp; omega)]
        simp only [List.length_append, h]
      · rw [List.getElem?_eq_none (by simp; omega), List.getElem?_eq_none (by simp; omega)]
theorem fill_step {place : Nat → Option (Nat × Nat)} {i : Nat} {v : Value} {rest : List (Nat × Value)} (a x y b : List Value) (hp : place i = some (a.length, x.length)) (hv : v.cells = y.toArray) (hl : x.length = y.length) :
    Instr.fill place (a ++ x ++ b).toArray ((i, v) :: rest) = Instr.fill place (a ++ y ++ b).toArray rest := by
  rw [Instr.fill, hp]
  simp only [hv, List.size_toArray]
  rw [if_neg (by simp [hl]), blit_eq a x y b hl]
end Go.Proofs.YtebgopdmeghmhaaGreat
