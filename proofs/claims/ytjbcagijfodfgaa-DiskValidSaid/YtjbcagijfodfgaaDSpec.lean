/- What the other functions of layer 40 compute, as plain Lean; the shapes of their posts. -/
import Derived.Test.YtjbcagijfodfgaaDsk
namespace Go.Proofs.Ytjbcagijfodfgaa
open Go.RowKit

def shareI (p s : Int) : Int := if p.tmod (s + 1) < 0 then - (p.tmod (s + 1)) else p.tmod (s + 1)
/-- how many bytes of write k take effect -/
def takenI (picks : List Int) (k : Nat) (s : Int) : Int := if h : k < picks.length then shareI picks[k] s else 0
theorem shareI_bd (p s : Int) (hs : 0 ≤ s) : 0 ≤ shareI p s ∧ shareI p s ≤ s := by
  unfold shareI
  have h1 := Int.tmod_lt_of_pos p (b := s + 1) (by omega)
  have h2 : -(s + 1) < p.tmod (s + 1) := by
    have := Int.tmod_lt_of_pos (-p) (b := s + 1) (by omega)
    rw [Int.neg_tmod] at this
    omega
  split <;> omega
theorem takenI_bd (picks : List Int) (k : Nat) (s : Int) (hs : 0 ≤ s) : 0 ≤ takenI picks k s ∧ takenI picks k s ≤ s := by
  unfold takenI
  split
  · exact shareI_bd _ _ hs
  · omega

/-- the content of page i: s is the durable page -/
def lastW (i : Int) : List PW → ByteArray → ByteArray
  | [], s => s
  | x :: r, s => lastW i r (if x.page = i then x.data else s)
theorem lastW_hit {i : Int} {l : List PW} {k : Nat} (h : k < l.length) (s : ByteArray) (e : (l[k].page == i) = true) : lastW i (l.drop k) s = lastW i (l.drop (k+1)) l[k].data := by
  rw [List.drop_eq_getElem_cons h, lastW, if_pos (by simpa using e)]
theorem lastW_miss {i : Int} {l : List PW} {k : Nat} (h : k < l.length) (s : ByteArray) (e : (l[k].page == i) = false) : lastW i (l.drop k) s = lastW i (l.drop (k+1)) s := by
  rw [List.drop_eq_getElem_cons h, lastW, if_neg (by simpa using e)]
def contentD (d : Dsk) (i : Nat) (h : i < d.pages.length) : ByteArray := lastW i d.cache d.pages[i]
def contentsD (d : Dsk) : List ByteArray := (List.range d.pages.length).attach.map fun i => contentD d i.1 (List.mem_range.1 i.2)
def readD (d : Dsk) (i : Int) : ByteArray × Int :=
  if chk d ≠ 0 then (ByteArray.empty, 1) else if i < 0 then (ByteArray.empty, 2)
  else if h : i.toNat < d.pages.length then (contentD d i.toNat h, 0) else (ByteArray.empty, 2)
def opD (d : Dsk) : Dsk := { d with left := if 0 < d.left then d.left - 1 else d.left }
def zeroD : Dsk := ⟨0, [], [], 0⟩
def newD (p s : Int) : Dsk × Int := if rangedB p s then (⟨s, List.replicate p.toNat ⟨(List.replicate s.toNat 0).toArray⟩, [], -1⟩, 0) else (zeroD, 2)
def writeD (d : Dsk) (i : Int) (data : ByteArray) : Dsk × Int :=
  if chk d ≠ 0 then (zeroD, 1) else if i < 0 ∨ (d.pages.length : Int) ≤ i then (zeroD, 2) else if (data.size : Int) ≠ d.size then (zeroD, 10)
  else if d.left = 0 then (d, 18) else ({ opD d with cache := d.cache ++ [⟨i, data⟩] }, 0)
def flushD (d : Dsk) : Dsk × Int :=
  if chk d ≠ 0 then (zeroD, 1) else if d.left = 0 then (d, 18) else (⟨d.size, contentsD d, [], (opD d).left⟩, 0)
/-- one write of the cache survives in part -/
def tear (n : Nat) (data page : ByteArray) : ByteArray := data.extract 0 n ++ page.extract n page.size
def crashP (picks : List Int) (size : Int) : Nat → List PW → List ByteArray → List ByteArray
  | _, [], ps => ps
  | k, x :: r, ps => crashP picks size (k + 1) r (ps.set x.page.toNat (tear (takenI picks k size).toNat x.data (ps.getD x.page.toNat ByteArray.empty)))
def crashD (d : Dsk) (picks : List Int) : Dsk :=
  if chk d ≠ 0 then zeroD else ⟨d.size, crashP picks d.size 0 d.cache d.pages, [], -1⟩
def sameD (a b : Dsk) : Bool := decide (a.size = b.size) && decide (a.left = b.left) && decide (a.pages = b.pages) && decide (a.cache.map (fun x => (x.page, x.data)) = b.cache.map (fun x => (x.page, x.data)))
def sumS (l : List ByteArray) : Int := (l.map (fun s => (s.size : Int))).sum
def greatD (d : Dsk) : Bool := decide (12 < d.pages.length) || decide (20 < d.cache.length) || decide (4000 < sumS d.pages + sumS (d.cache.map (·.data)))

theorem chkP_true {size : Int} {l : List ByteArray} (h : chkP size l = true) : ∀ s ∈ l, (s.size : Int) = size := by
  induction l with
  | nil => intro s hs; cases hs
  | cons x l ih =>
    simp [chkP] at h
    intro s hs
    rcases List.mem_cons.1 hs with rfl | hs
    · exact h.1
    · exact ih h.2 s hs
theorem chkC_zero {n : Nat} {size : Int} {l : List PW} (h : chkC n size l = 0) : ∀ x ∈ l, 0 ≤ x.page ∧ x.page < n ∧ (x.data.size : Int) = size := by
  induction l with
  | nil => intro s hs; cases hs
  | cons y l ih =>
    rw [chkC] at h
    split at h
    · cases h
    · split at h
      · cases h
      · intro x hx
        rcases List.mem_cons.1 hx with rfl | hx
        · omega
        · exact ih h x hx
/-- what a valid disk is -/
theorem chk_zero {d : Dsk} (h : chk d = 0) : rangedB d.pages.length d.size = true ∧ (∀ s ∈ d.pages, (s.size : Int) = d.size) ∧ (∀ x ∈ d.cache, 0 ≤ x.page ∧ x.page < d.pages.length ∧ (x.data.size : Int) = d.size) ∧ -1 ≤ d.left := by
  unfold chk at h
  split at h
  · cases h
  · rename_i h1
    split at h
    · cases h
    · rename_i h2
      split at h
      · rename_i h3; exact absurd h h3
      · rename_i h3
        split at h
        · cases h
        · exact ⟨by simpa using h1, chkP_true (by simpa using h2), chkC_zero (by simpa using h3), by omega⟩
theorem rangedB_true {p s : Int} (h : rangedB p s = true) : 1 ≤ p ∧ p ≤ 2000 ∧ 1 ≤ s ∧ s ≤ 512 := by simp [rangedB] at h; omega

/-! ## posts -/
def RetDB (S : Nat → Prop) (w : World) (d : Dsk) (b : Bool) (e : Ending) (w' : World) : Prop := ∃ v, e = .returned (.tuple #[v, .bool b]) ∧ DskR (Gr S w w') w' v d ∧ Below w.heap.size w w'
def RetDE (S : Nat → Prop) (w : World) (d : Dsk) (er : Int) (e : Ending) (w' : World) : Prop := ∃ v, e = .returned (.tuple #[v, .int .i64 er]) ∧ DskR (Gr S w w') w' v d ∧ Below w.heap.size w w'
def RetD (S : Nat → Prop) (w : World) (d : Dsk) (e : Ending) (w' : World) : Prop := ∃ v, e = .returned v ∧ DskR (Gr S w w') w' v d ∧ Below w.heap.size w w'
end Go.Proofs.Ytjbcagijfodfgaa
