/- The data of layer 40 as plain Lean, how they lie in memory, and what the functions of the layer compute. No function of the program is named here. -/
import Derived.Test.YtjbcagijfodfgaaMem
namespace Go.Proofs.Ytjbcagijfodfgaa
open Go.RowKit

structure PW where
  page : Int
  data : ByteArray
structure Dsk where
  size : Int
  pages : List ByteArray
  cache : List PW
  left : Int

def StrsAt (S : Nat → Prop) (w : World) (o : Option Addr) (l : List ByteArray) : Prop :=
  ∀ i (h : i < l.length), ∃ b off, o = some ⟨b, off, none⟩ ∧ w.cell? ⟨b, off + i, none⟩ = some (.string l[i]) ∧ S b
def PWsAt (S : Nat → Prop) (w : World) (o : Option Addr) (l : List PW) : Prop :=
  ∀ i (h : i < l.length), ∃ b off, o = some ⟨b, off, none⟩ ∧ w.cell? ⟨b, off + i * 2, none⟩ = some (.int .i64 l[i].page) ∧ w.cell? ⟨b, off + i * 2 + 1, none⟩ = some (.string l[i].data) ∧ S b

def cellsPW (l : List PW) : List Value := l.flatMap fun x => [.int .i64 x.page, .string x.data]
theorem cellsPW_len (l : List PW) : (cellsPW l).length = l.length * 2 := by
  induction l with
  | nil => rfl
  | cons x l ih => simp only [cellsPW, List.flatMap_cons, List.length_append, List.length_cons, List.length_nil] at *; omega
theorem cellsPW_app (l m : List PW) : cellsPW (l ++ m) = cellsPW l ++ cellsPW m := by simp [cellsPW]
theorem cellsPW_get (l : List PW) : ∀ i (h : i < l.length), (cellsPW l)[i * 2]? = some (.int .i64 l[i].page) ∧ (cellsPW l)[i * 2 + 1]? = some (.string l[i].data) := by
  induction l with
  | nil => intro i h; simp at h
  | cons x l ih =>
    intro i h
    cases i with
    | zero => simp [cellsPW]
    | succ i =>
      have := ih i (by simpa using h)
      have e : (i + 1) * 2 = i * 2 + 2 := by omega
      rw [e]
      simpa [cellsPW] using this
theorem cellsPW_one (l : List PW) : ∀ u ∈ cellsPW l, u.oneCell' = true := by
  intro u hu
  obtain ⟨x, _, hx⟩ := List.mem_flatMap.1 hu
  simp at hx
  rcases hx with rfl | rfl <;> rfl
theorem PWsAt.of_row {S : Nat → Prop} {w : World} {o : Option Addr} {l : List PW} (h : RowAt S w o (cellsPW l)) : PWsAt S w o l := by
  intro i hi
  have hlen := cellsPW_len l
  obtain ⟨g1, g2⟩ := cellsPW_get l i hi
  obtain ⟨b, off, e, hc, hs⟩ := h (i * 2) (by omega)
  obtain ⟨b', off', e', hc', _⟩ := h (i * 2 + 1) (by omega)
  rw [e] at e'
  obtain ⟨rfl, rfl⟩ : b = b' ∧ off = off' := by simpa using e'
  refine ⟨b, off, e, by rw [hc]; rw [List.getElem?_eq_getElem (by omega)] at g1; exact g1, ?_, hs⟩
  rw [Nat.add_assoc, hc']
  rw [List.getElem?_eq_getElem (by omega)] at g2; exact g2
theorem PWsAt.row {S : Nat → Prop} {w : World} {o : Option Addr} {l : List PW} (h : PWsAt S w o l) : RowAt S w o (cellsPW l) := by
  intro j hj
  have hlen := cellsPW_len l
  have hi : j / 2 < l.length := by omega
  obtain ⟨g1, g2⟩ := cellsPW_get l (j / 2) hi
  obtain ⟨b, off, e, hc, hc', hs⟩ := h (j / 2) hi
  refine ⟨b, off, e, ?_, hs⟩
  rcases Nat.mod_two_eq_zero_or_one j with hm | hm
  · have ej : j / 2 * 2 = j := by omega
    rw [ej] at hc g1
    rw [hc, ← g1, List.getElem?_eq_getElem hj]
  · have ej : j / 2 * 2 + 1 = j := by omega
    rw [ej] at g2
    rw [show off + j = off + j / 2 * 2 + 1 by omega, hc', ← g2, List.getElem?_eq_getElem hj]
theorem StrsAt.of_row {S : Nat → Prop} {w : World} {o : Option Addr} {l : List ByteArray} (h : RowAt S w o (l.map .string)) : StrsAt S w o l := by
  intro i hi
  obtain ⟨b, off, e, hc, hs⟩ := h i (by simpa using hi)
  exact ⟨b, off, e, by simpa using hc, hs⟩
theorem StrsAt.row {S : Nat → Prop} {w : World} {o : Option Addr} {l : List ByteArray} (h : StrsAt S w o l) : RowAt S w o (l.map .string) := by
  intro i hi
  obtain ⟨b, off, e, hc, hs⟩ := h i (by simpa using hi)
  exact ⟨b, off, e, by simpa using hc, hs⟩
section
variable {S T : Nat → Prop} {w w' : World} {o : Option Addr}
theorem StrsAt.below {l : List ByteArray} (h : StrsAt S w o l) (hb : Below w.heap.size w w') : StrsAt S w' o l := .of_row (h.row.below hb)
theorem StrsAt.same {l : List ByteArray} (h : StrsAt S w o l) (hb : Same S w w') : StrsAt S w' o l := .of_row (h.row.same hb)
theorem StrsAt.mono {l : List ByteArray} (h : StrsAt S w o l) (hT : ∀ b, S b → T b) : StrsAt T w o l := .of_row (h.row.mono hT)
theorem PWsAt.below {l : List PW} (h : PWsAt S w o l) (hb : Below w.heap.size w w') : PWsAt S w' o l := .of_row (h.row.below hb)
theorem PWsAt.same {l : List PW} (h : PWsAt S w o l) (hb : Same S w w') : PWsAt S w' o l := .of_row (h.row.same hb)
theorem PWsAt.mono {l : List PW} (h : PWsAt S w o l) (hT : ∀ b, S b → T b) : PWsAt T w o l := .of_row (h.row.mono hT)
end
theorem strs_one (l : List ByteArray) : ∀ u ∈ l.map Value.string, u.oneCell' = true := by
  intro u hu
  obtain ⟨x, _, rfl⟩ := List.mem_map.1 hu
  rfl

/-- sizes that a form's reach or a walk's own results have; the headers of the two slices -/
structure DskOk (d : Dsk) (po co : Option Addr) (pc cc : Nat) : Prop where
  slp : SlW po d.pages.length pc
  slc : SlW co d.cache.length cc
  pages : d.pages.length ≤ 140737488351232
  cache : d.cache.length ≤ 140737488351232
  strs : ∀ s ∈ d.pages, s.size ≤ 140737488351232
  datas : ∀ x ∈ d.cache, x.data.size ≤ 140737488351232
  left : -9223372036854775808 ≤ d.left ∧ d.left ≤ 9223372036854775807

/-- the value v is the disk d in the world w, its slices in blocks of S -/
def DskR (S : Nat → Prop) (w : World) (v : Value) (d : Dsk) : Prop :=
  ∃ po pc co cc, v = .agg #[.int .i64 d.size, .slice po d.pages.length pc, .slice co d.cache.length cc, .int .i64 d.left] ∧ StrsAt S w po d.pages ∧ PWsAt S w co d.cache ∧ DskOk d po co pc cc
section
variable {S T : Nat → Prop} {w w' : World} {v : Value} {d : Dsk}
theorem DskR.below (h : DskR S w v d) (hb : Below w.heap.size w w') : DskR S w' v d := by
  obtain ⟨po, pc, co, cc, e, hp, hc, ok⟩ := h
  exact ⟨po, pc, co, cc, e, hp.below hb, hc.below hb, ok⟩
theorem DskR.same (h : DskR S w v d) (hb : Same S w w') : DskR S w' v d := by
  obtain ⟨po, pc, co, cc, e, hp, hc, ok⟩ := h
  exact ⟨po, pc, co, cc, e, hp.same hb, hc.same hb, ok⟩
theorem DskR.mono (h : DskR S w v d) (hT : ∀ b, S b → T b) : DskR T w v d := by
  obtain ⟨po, pc, co, cc, e, hp, hc, ok⟩ := h
  exact ⟨po, pc, co, cc, e, hp.mono hT, hc.mono hT, ok⟩
end

/-- the box of a disk -/
def BoxD (w : World) (b : Nat) (size left : Int) (po co : Option Addr) (pn pc cn cc : Nat) : Prop :=
  w.cell? ⟨b, 0, none⟩ = some (.int .i64 size) ∧ w.cell? ⟨b, 1, none⟩ = some (.slice po pn pc) ∧ w.cell? ⟨b, 2, none⟩ = some (.slice co cn cc) ∧ w.cell? ⟨b, 3, none⟩ = some (.int .i64 left)
theorem BoxD.below {w w' : World} {B b : Nat} {size left : Int} {po co : Option Addr} {pn pc cn cc : Nat} (h : BoxD w b size left po co pn pc cn cc) (hb : Below B w w') (h' : b < B) : BoxD w' b size left po co pn pc cn cc := by
  obtain ⟨h0, h1, h2, h3⟩ := h
  exact ⟨by rw [hb.cell h']; exact h0, by rw [hb.cell h']; exact h1, by rw [hb.cell h']; exact h2, by rw [hb.cell h']; exact h3⟩

/-! ## what the functions compute -/
def rangedB (p s : Int) : Bool := decide (1 ≤ p) && decide (p ≤ 2000) && decide (1 ≤ s) && decide (s ≤ 512)
def chkP (size : Int) : List ByteArray → Bool
  | [] => true
  | s :: r => decide ((s.size : Int) = size) && chkP size r
def chkC (n : Nat) (size : Int) : List PW → Int
  | [] => 0
  | x :: r => if x.page < 0 ∨ n ≤ x.page then 2 else if (x.data.size : Int) ≠ size then 10 else chkC n size r
def chk (d : Dsk) : Int :=
  if rangedB d.pages.length d.size = false then 2
  else if chkP d.size d.pages = false then 10
  else if chkC d.pages.length d.size d.cache ≠ 0 then chkC d.pages.length d.size d.cache
  else if d.left < -1 then 2 else 0

theorem chkP_bad {size : Int} {l : List ByteArray} {k : Nat} (h : k < l.length) (hs : ((l[k].size : Int) != size) = true) : chkP size (l.drop k) = false := by
  rw [List.drop_eq_getElem_cons h]; simp [chkP]; intro e; simp [e] at hs
theorem chkP_step {size : Int} {l : List ByteArray} {k : Nat} (h : k < l.length) (hs : ((l[k].size : Int) != size) = false) : chkP size (l.drop k) = chkP size (l.drop (k+1)) := by
  rw [List.drop_eq_getElem_cons h]; simp [chkP]; intro _; simpa using hs
theorem chkC_bad1 {n : Nat} {size : Int} {l : List PW} {k : Nat} (h : k < l.length) (hs : decide (l[k].page < 0) = true) : chkC n size (l.drop k) = 2 := by
  rw [List.drop_eq_getElem_cons h]; have := of_decide_eq_true hs; rw [chkC, if_pos (Or.inl this)]
theorem chkC_bad2 {n : Nat} {size : Int} {l : List PW} {k : Nat} (h : k < l.length) (hs : decide ((n : Int) ≤ l[k].page) = true) : chkC n size (l.drop k) = 2 := by
  rw [List.drop_eq_getElem_cons h]; have := of_decide_eq_true hs; rw [chkC, if_pos (Or.inr this)]
theorem chkC_bad3 {n : Nat} {size : Int} {l : List PW} {k : Nat} (h : k < l.length) (h1 : decide (l[k].page < 0) = false) (h2 : decide ((n : Int) ≤ l[k].page) = false) (hs : ((l[k].data.size : Int) != size) = true) : chkC n size (l.drop k) = 10 := by
  rw [List.drop_eq_getElem_cons h]; have h1 := of_decide_eq_false h1; have h2 := of_decide_eq_false h2; rw [chkC, if_neg (fun h => h.elim h1 h2), if_pos (by simpa using hs)]
theorem chkC_step {n : Nat} {size : Int} {l : List PW} {k : Nat} (h : k < l.length) (h1 : decide (l[k].page < 0) = false) (h2 : decide ((n : Int) ≤ l[k].page) = false) (hs : ((l[k].data.size : Int) != size) = false) : chkC n size (l.drop k) = chkC n size (l.drop (k+1)) := by
  rw [List.drop_eq_getElem_cons h]; have h1 := of_decide_eq_false h1; have h2 := of_decide_eq_false h2; rw [chkC, if_neg (fun h => h.elim h1 h2), if_neg (by simpa using hs)]

end Go.Proofs.Ytjbcagijfodfgaa
