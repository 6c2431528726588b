/- Tables as lists of cells that can be added: the plain laws of layer 47. No program in sight. Peeling: the plain laws. quiltref47.first. -/
import Derived.Test.YtebgopdmeghmhaaGreatIbPeel
import Derived.Test.YtebgopdmeghmhaaGreatRfPure
import Derived.Test.YtebgopdmeghmhaaGreatIbSub
namespace Go.Proofs.YtebgopdmeghmhaaGreat
open Go.RowKit

/-! xor -/
theorem xorD_comm (a b : List UInt8) : xorD a b = xorD b a := by
  unfold xorD
  rw [List.zipWith_comm]
  congr 1
  funext x y
  exact UInt8.xor_comm y x
theorem xorD_assoc : ∀ a b c : List UInt8, xorD (xorD a b) c = xorD a (xorD b c)
  | [], _, _ => by simp [xorD]
  | _ :: _, [], _ => by simp [xorD]
  | _ :: _, _ :: _, [] => by simp [xorD]
  | x :: a, y :: b, z :: c => by
    have ih := xorD_assoc a b c
    simp only [xorD, List.zipWith_cons_cons] at ih ⊢
    rw [ih, UInt8.xor_assoc]
theorem xorD_self {a : List UInt8} (h : a.length = 32) : xorD a a = zeroD := by
  unfold xorD zeroD
  apply List.ext_getElem
  · simp [h]
  · intro i h1 h2
    rw [List.getElem_zipWith, List.getElem_replicate, UInt8.xor_self]
theorem xorD_zero {a : List UInt8} (h : a.length = 32) : xorD a zeroD = a := by
  unfold xorD zeroD
  apply List.ext_getElem
  · simp [h]
  · intro i h1 h2
    rw [List.getElem_zipWith, List.getElem_replicate, UInt8.xor_zero]
theorem zeroD_len : zeroD.length = 32 := rfl

/-! cells -/
theorem wrap64_0 : wrap64 0 = 0 := by unfold wrap64; omega
theorem wrap64_1 : wrap64 1 = 1 := by unfold wrap64; omega
theorem wrap64_m1 : wrap64 (-1) = -1 := by unfold wrap64; omega
theorem wrap64_idem (a : Int) : wrap64 (wrap64 a) = wrap64 a := by unfold wrap64; omega
theorem wrap64_addL (a b : Int) : wrap64 (wrap64 a + b) = wrap64 (a + b) := by unfold wrap64; omega
theorem wrap64_addR (a b : Int) : wrap64 (a + wrap64 b) = wrap64 (a + b) := by unfold wrap64; omega
def Cl.add (x y : Cl) : Cl := ⟨wrap64 (x.n + y.n), xorD x.k y.k, xorD x.s y.s⟩
def Cl.neg (x : Cl) : Cl := ⟨wrap64 (-x.n), x.k, x.s⟩
/-- a cell that the program can hold -/
def Cl.nok (c : Cl) : Prop := c.ok ∧ wrap64 c.n = c.n
theorem Cl.add_comm (x y : Cl) : x.add y = y.add x := by unfold Cl.add; rw [Int.add_comm, xorD_comm x.k, xorD_comm x.s]
theorem Cl.add_assoc (x y z : Cl) : (x.add y).add z = x.add (y.add z) := by
  unfold Cl.add
  simp only [wrap64_addL, wrap64_addR, Int.add_assoc, xorD_assoc]
theorem Cl.add_zero {x : Cl} (h : x.nok) : x.add Cl.zero = x := by
  unfold Cl.add Cl.zero
  simp only [Int.add_zero, h.2, xorD_zero h.1.1, xorD_zero h.1.2]
theorem Cl.zero_add {x : Cl} (h : x.nok) : Cl.zero.add x = x := by rw [Cl.add_comm, Cl.add_zero h]
theorem Cl.add_neg {x : Cl} (h : x.ok) : x.add x.neg = Cl.zero := by
  unfold Cl.add Cl.neg Cl.zero
  simp only [wrap64_addR, xorD_self h.1, xorD_self h.2]
  congr 1
  rw [show x.n + -x.n = 0 by omega]; exact wrap64_0
theorem Cl.neg_neg {x : Cl} (h : x.nok) : x.neg.neg = x := by
  have h2 : wrap64 (-wrap64 (-x.n)) = wrap64 x.n := by unfold wrap64; omega
  unfold Cl.neg
  simp only [h2, h.2]
theorem Cl.neg_add (x y : Cl) : (x.add y).neg = x.neg.add y.neg := by
  unfold Cl.add Cl.neg
  simp only
  congr 1
  unfold wrap64; omega
theorem Cl.neg_zero : Cl.zero.neg = Cl.zero := by
  unfold Cl.neg Cl.zero
  simp only [Int.neg_zero, wrap64_0]
theorem Cl.add_nok {x y : Cl} (hx : x.ok) (hy : y.ok) : (x.add y).nok := ⟨⟨xorD_len hx.1 hy.1, xorD_len hx.2 hy.2⟩, wrap64_idem _⟩
theorem Cl.neg_nok {x : Cl} (hx : x.ok) : x.neg.nok := ⟨hx, wrap64_idem _⟩
theorem Cl.zero_nok : Cl.zero.nok := ⟨Cl.zero_ok, wrap64_0⟩
theorem subC_eq (x y : Cl) : subC x y = x.add y.neg := by
  unfold subC Cl.add Cl.neg
  simp only [wrap64_addR]
  rfl
theorem subC_neg (x y : Cl) : subC y x = (subC x y).neg := by
  unfold subC Cl.neg
  simp only [xorD_comm y.k, xorD_comm y.s]
  congr 1
  unfold wrap64; omega
theorem addC_eq (c : Cl) (d : List UInt8) (q : Int) : addC c d q = c.add ⟨q, d, sumL d⟩ := rfl

/-! where a digest lies -/
def incB (d : List UInt8) (n i : Nat) : Bool := (List.range 3).any fun p => posN d n p == i
theorem incB_iff {d : List UInt8} {n i : Nat} : incB d n i = true ↔ posN d n 0 = i ∨ posN d n 1 = i ∨ posN d n 2 = i := by
  unfold incB
  simp [List.range_succ]
theorem posN_div (d : List UInt8) {n : Nat} (hn : 3 ≤ n) (p : Nat) : posN d n p / (n / 3) = p := by
  unfold posN
  have h1 : 0 < n / 3 := by omega
  have h2 := Nat.mod_lt (keyP d p 8).toNat h1
  rw [Nat.mul_comm, Nat.mul_add_div h1, Nat.div_eq_of_lt h2, Nat.add_zero]
theorem posN_ne (d : List UInt8) {n : Nat} (hn : 3 ≤ n) {p q : Nat} (h : p ≠ q) : posN d n p ≠ posN d n q := fun e => h (by rw [← posN_div d hn p, e, posN_div d hn q])
def ctr (d : List UInt8) (q : Int) (n i : Nat) : Cl := if incB d n i then ⟨q, d, sumL d⟩ else Cl.zero
theorem ctr_ok {d : List UInt8} (hd : d.length = 32) (q : Int) (n i : Nat) : (ctr d q n i).ok := by
  unfold ctr
  split
  · exact ⟨hd, sumL_len d⟩
  · exact Cl.zero_ok
theorem ctr_neg (d : List UInt8) (n i : Nat) : ctr d (-1) n i = (ctr d 1 n i).neg := by
  unfold ctr
  split
  · unfold Cl.neg; simp only [wrap64_m1]
  · exact Cl.neg_zero.symm
theorem ctr_nok {d : List UInt8} (hd : d.length = 32) {q : Int} (hq : wrap64 q = q) (n i : Nat) : (ctr d q n i).nok := by
  refine ⟨ctr_ok hd q n i, ?_⟩
  unfold ctr
  split
  · exact hq
  · exact wrap64_0
def Tnok (t : List Cl) : Prop := ∀ c ∈ t, c.nok
theorem Tnok.ok {t : List Cl} (h : Tnok t) : Tok t := fun c hc => (h c hc).1
theorem Tnok.get {t : List Cl} (h : Tnok t) (i : Nat) : (t.getD i Cl.zero).nok := by
  rw [List.getD_eq_getElem?_getD]
  cases e : t[i]? with
  | none => exact Cl.zero_nok
  | some c => exact h c (List.mem_of_getElem? e)
theorem getD_set (t : List Cl) (a : Nat) (x : Cl) (i : Nat) : (t.set a x).getD i Cl.zero = if a = i ∧ a < t.length then x else t.getD i Cl.zero := by
  rw [List.getD_eq_getElem?_getD, List.getD_eq_getElem?_getD, List.getElem?_set]
  by_cases h : a = i
  · subst h
    by_cases h2 : a < t.length
    · simp [h2]
    · simp [h2]
  · simp [h]
theorem tab_ext {a b : List Cl} (hl : a.length = b.length) (h : ∀ i, i < a.length → a.getD i Cl.zero = b.getD i Cl.zero) : a = b := by
  apply List.ext_getElem hl
  intro i h1 h2
  have := h i h1
  rwa [List.getD_eq_getElem?_getD, List.getD_eq_getElem?_getD, List.getElem?_eq_getElem h1, List.getElem?_eq_getElem h2] at this
theorem putT_get {t : List Cl} (ht : Tnok t) (h3 : 3 ≤ t.length) {d : List UInt8} (q : Int) (i : Nat) : (putT t d q).getD i Cl.zero = (t.getD i Cl.zero).add (ctr d q t.length i) := by
  have p0 := posN_lt (d := d) (n := t.length) (part := 0) (by omega) h3
  have p1 := posN_lt (d := d) (n := t.length) (part := 1) (by omega) h3
  have p2 := posN_lt (d := d) (n := t.length) (part := 2) (by omega) h3
  have n01 := posN_ne d h3 (p := 0) (q := 1) (by omega)
  have n02 := posN_ne d h3 (p := 0) (q := 2) (by omega)
  have n12 := posN_ne d h3 (p := 1) (q := 2) (by omega)
  have hc := incB_iff (d := d) (n := t.length) (i := i)
  have e : putT t d q = putAt d q (putAt d q (putAt d q t 0) 1) 2 := rfl
  have hz := Cl.add_zero (ht.get i)
  rw [e]
  unfold putAt ctr
  simp only [List.length_set]
  generalize posN d t.length 0 = a at *
  generalize posN d t.length 1 = b at *
  generalize posN d t.length 2 = c at *
  simp only [getD_set, List.length_set]
  by_cases h0 : a = i
  · subst h0
    rw [if_neg (by omega), if_neg (by omega), if_pos ⟨rfl, p0⟩, if_pos (hc.2 (.inl rfl)), addC_eq]
  · by_cases h1 : b = i
    · subst h1
      rw [if_neg (by omega), if_pos ⟨rfl, p1⟩, if_neg (by omega), if_pos (hc.2 (.inr (.inl rfl))), addC_eq]
    · by_cases h2 : c = i
      · subst h2
        rw [if_pos ⟨rfl, p2⟩, if_neg (by omega), if_neg (by omega), if_pos (hc.2 (.inr (.inr rfl))), addC_eq]
      · rw [if_neg (by omega), if_neg (by omega), if_neg (by omega), if_neg (by rw [hc]; omega), hz]
theorem putT_nok {t : List Cl} (ht : Tnok t) (h3 : 3 ≤ t.length) {d : List UInt8} (hd : d.length = 32) (q : Int) : Tnok (putT t d q) := by
  intro c hc
  obtain ⟨i, hi, rfl⟩ := List.mem_iff_getElem.1 hc
  have := putT_get ht h3 (d := d) q i
  rw [List.getD_eq_getElem?_getD, List.getElem?_eq_getElem hi] at this
  simp only [Option.getD_some] at this
  rw [this]
  exact Cl.add_nok (ht.get i).1 (ctr_ok hd q _ i)
/-- what a list of digests adds to a cell -/
def csum (n i : Nat) (l : List (List UInt8)) : Cl := l.foldr (fun d a => (ctr d 1 n i).add a) Cl.zero
theorem csum_ok {l : List (List UInt8)} (h : Dok l) (n i : Nat) : (csum n i l).nok := by
  induction l with
  | nil => exact Cl.zero_nok
  | cons d l ih => exact Cl.add_nok (ctr_ok (h d (by simp)) 1 n i) (ih (fun x hx => h x (by simp [hx]))).1
theorem csum_append {a b : List (List UInt8)} (hb : Dok b) (n i : Nat) : csum n i (a ++ b) = (csum n i a).add (csum n i b) := by
  induction a with
  | nil => exact (Cl.zero_add (csum_ok hb n i)).symm
  | cons d a ih =>
    show (ctr d 1 n i).add (csum n i (a ++ b)) = ((ctr d 1 n i).add (csum n i a)).add (csum n i b)
    rw [ih, Cl.add_assoc]
theorem csum_perm {a b : List (List UInt8)} (h : a.Perm b) (n i : Nat) : csum n i a = csum n i b := by
  induction h with
  | nil => rfl
  | cons x _ ih => show (ctr x 1 n i).add _ = (ctr x 1 n i).add _; rw [show List.foldr _ _ _ = csum n i _ from rfl, ih]; rfl
  | swap x y l =>
    show (ctr y 1 n i).add ((ctr x 1 n i).add (csum n i l)) = (ctr x 1 n i).add ((ctr y 1 n i).add (csum n i l))
    rw [← Cl.add_assoc, ← Cl.add_assoc, Cl.add_comm (ctr y 1 n i)]
  | trans _ _ h1 h2 => exact h1.trans h2
theorem csum_n {l : List (List UInt8)} (hl : l.length ≤ 1000000) (n i : Nat) : 0 ≤ (csum n i l).n ∧ (csum n i l).n ≤ l.length := by
  induction l with
  | nil => exact ⟨Int.le_refl _, Int.le_refl _⟩
  | cons d l ih =>
    simp only [List.length_cons] at hl ⊢
    obtain ⟨h1, h2⟩ := ih (by omega)
    show 0 ≤ wrap64 ((ctr d 1 n i).n + (csum n i l).n) ∧ wrap64 ((ctr d 1 n i).n + (csum n i l).n) ≤ _
    have hc : (ctr d 1 n i).n = 1 ∨ (ctr d 1 n i).n = 0 := by
      unfold ctr
      split
      · exact .inl rfl
      · exact .inr rfl
    generalize (csum n i l).n = x at *
    generalize (ctr d 1 n i).n = y at *
    have e : wrap64 (y + x) = y + x := by unfold wrap64; omega
    rw [e]
    push_cast
    omega
theorem ofFold_get {l : List (List UInt8)} (hl : Dok l) : ∀ {t : List Cl} (_ : Tnok t) (_ : 3 ≤ t.length) (i : Nat), (ofFold t l).getD i Cl.zero = (t.getD i Cl.zero).add (csum t.length i l) := by
  induction l with
  | nil => intro t ht h3 i; exact (Cl.add_zero (ht.get i)).symm
  | cons d l ih =>
    intro t ht h3 i
    have hd := hl d (by simp)
    have h := ih (fun x hx => hl x (by simp [hx])) (putT_nok ht h3 hd 1) (by rw [putT_len]; exact h3) i
    rw [putT_len, putT_get ht h3] at h
    show (ofFold (putT t d 1) l).getD i Cl.zero = _
    rw [h, Cl.add_assoc]; rfl
theorem ofFold_nok {l : List (List UInt8)} (hl : Dok l) : ∀ {t : List Cl}, Tnok t → 3 ≤ t.length → Tnok (ofFold t l) := by
  induction l with
  | nil => intro t ht _; exact ht
  | cons d l ih =>
    intro t ht h3
    exact ih (fun x hx => hl x (by simp [hx])) (putT_nok ht h3 (hl d (by simp)) 1) (by rw [putT_len]; exact h3)
theorem zeros_nok (n : Nat) : Tnok (List.replicate n Cl.zero) := by
  intro c hc
  rw [(List.mem_replicate.1 hc).2]; exact Cl.zero_nok
theorem zeros_get (n i : Nat) : (List.replicate n Cl.zero).getD i Cl.zero = Cl.zero := by
  rw [List.getD_eq_getElem?_getD, List.getElem?_replicate]
  split <;> rfl
theorem subL_len {a b : List Cl} (h : a.length = b.length) : (subL a b).length = a.length := by simp [subL, h]
theorem subL_get {a b : List Cl} (h : a.length = b.length) (i : Nat) (hi : i < a.length) : (subL a b).getD i Cl.zero = (a.getD i Cl.zero).add (b.getD i Cl.zero).neg := by
  have h1 : i < (subL a b).length := by rw [subL_len h]; exact hi
  rw [List.getD_eq_getElem?_getD, List.getElem?_eq_getElem h1, List.getD_eq_getElem?_getD, List.getElem?_eq_getElem hi, List.getD_eq_getElem?_getD, List.getElem?_eq_getElem (show i < b.length by omega)]
  simp only [Option.getD_some, subL, List.getElem_zipWith]
  exact subC_eq _ _
end Go.Proofs.YtebgopdmeghmhaaGreat
namespace Go.Proofs.YtebgopdmeghmhaaGreat
open Go.RowKit

theorem any_false {t : List Cl} {p : Cl → Bool} (h : ∀ i, i < t.length → p (t.getD i Cl.zero) = false) : t.any p = false := by
  rw [List.any_eq_false]
  intro c hc
  obtain ⟨i, hi, rfl⟩ := List.mem_iff_getElem.1 hc
  have := h i hi
  rw [List.getD_eq_getElem?_getD, List.getElem?_eq_getElem hi] at this
  simp only [Option.getD_some] at this
  rw [this]; exact Bool.false_ne_true
theorem of_any_false {t : List Cl} {p : Cl → Bool} (h : t.any p = false) {i : Nat} (hi : i < t.length) : p (t.getD i Cl.zero) = false := by
  rw [List.any_eq_false] at h
  rw [List.getD_eq_getElem?_getD, List.getElem?_eq_getElem hi]
  exact Bool.eq_false_iff.2 (h _ (List.getElem_mem hi))
theorem firstP_is {t : List Cl} {i : Nat} (h : firstP t = some i) : i < t.length ∧ pureB t i = true := by
  unfold firstP at h
  rw [List.find?_range_eq_some] at h
  exact ⟨List.mem_range.1 h.2.1, h.1⟩
theorem firstP_no {t : List Cl} (h : firstP t = none) {i : Nat} (hi : i < t.length) : pureB t i = false := by
  unfold firstP at h
  rw [List.find?_range_eq_none] at h
  simpa using h i hi
theorem pureB_n {t : List Cl} {i : Nat} (h : pureB t i = true) : (t.getD i Cl.zero).n = 1 ∨ (t.getD i Cl.zero).n = -1 := by
  unfold pureB at h
  simp only [Bool.and_eq_true, Bool.or_eq_true, beq_iff_eq] at h
  exact h.1
theorem sortD_one (d : List UInt8) : sortD [d] = [d] := List.mergeSort_singleton d
theorem sortD_nil : sortD [] = [] := List.mergeSort_nil
theorem checkT_of {t : List Cl} (ha : allowedB t.length = true) (hc : ∀ i, i < t.length → countsB (t.getD i Cl.zero).n = true) : checkT t = 0 := by
  unfold checkT
  rw [if_pos ha, any_false (fun i hi => by rw [hc i hi]; rfl)]; rfl
theorem counts_small {n : Int} (h : -1000000 ≤ n ∧ n ≤ 1000000) : countsB n = true := by
  unfold countsB
  rw [decide_eq_true (by omega), decide_eq_true (by omega)]; rfl
theorem all_zero {t : List Cl} (h : ∀ i, i < t.length → t.getD i Cl.zero = Cl.zero) : firstP t = none ∧ t.any (fun c => !c.eqB Cl.zero) = false := by
  refine ⟨firstP_none fun j hj => ?_, any_false fun i hi => ?_⟩
  · unfold pureB
    rw [h j hj]; rfl
  · rw [h i hi, (Cl.eqB_iff _ _).2 rfl]; rfl
theorem ctr_pure {d : List UInt8} {q : Int} (hq : q = 1 ∨ q = -1) {t : List Cl} (h : ∀ i, i < t.length → t.getD i Cl.zero = ctr d q t.length i) {i : Nat} (hi : i < t.length) : pureB t i = incB d t.length i := by
  unfold pureB
  rw [h i hi]
  unfold ctr
  cases hb : incB d t.length i
  · rfl
  · simp only [if_true]
    have e : (q == 1 || q == -1) = true := by rcases hq with rfl | rfl <;> rfl
    rw [e]
    simp only [decide_true, Bool.true_and]
    exact hb
/-- the table of one digest -/
theorem peel_one {d : List UInt8} (hd : d.length = 32) {q : Int} (hq : q = 1 ∨ q = -1) {t : List Cl} (ha : allowedB t.length = true) (ht : Tnok t) (h : ∀ i, i < t.length → t.getD i Cl.zero = ctr d q t.length i) :
    peelT t = (if q = 1 then [d] else [], if q = 1 then [] else [d], true) := by
  have hal := allowedB_iff.1 ha
  have h3 : 3 ≤ t.length := by omega
  have hck : checkT t = 0 := checkT_of ha fun i hi => by
    rw [h i hi]
    unfold ctr
    split
    · rcases hq with rfl | rfl <;> rfl
    · rfl
  obtain ⟨i, hf⟩ : ∃ i, firstP t = some i := by
    cases e : firstP t with
    | some i => exact ⟨i, rfl⟩
    | none =>
      have p0 := posN_lt (d := d) (n := t.length) (part := 0) (by omega) h3
      have := firstP_no e p0
      rw [ctr_pure hq h p0, incB_iff.2 (.inl rfl)] at this
      cases this
  obtain ⟨hi, hp⟩ := firstP_is hf
  have hinc : incB d t.length i = true := by rw [← ctr_pure hq h hi]; exact hp
  have hci : t.getD i Cl.zero = ⟨q, d, sumL d⟩ := by rw [h i hi]; unfold ctr; rw [if_pos hinc]
  have hwq : wrap64 (-q) = -q := by unfold wrap64; omega
  have hp1 : peelN 1 ⟨t, [], []⟩ = ⟨putT t d (-q), if q = 1 then [d] else [], if q = 1 then [] else [d]⟩ := by
    show peel1 ⟨t, [], []⟩ = _
    unfold peel1
    rw [hf]
    show peelAt ⟨t, [], []⟩ i = _
    unfold peelAt
    simp only [hci, hwq, List.nil_append]
  have hz : ∀ j, j < (putT t d (-q)).length → (putT t d (-q)).getD j Cl.zero = Cl.zero := fun j hj => by
    rw [putT_len] at hj
    rw [putT_get ht h3, h j hj]
    rcases hq with rfl | rfl
    · rw [ctr_neg, Cl.add_neg (ctr_ok hd 1 _ _)]
    · show (ctr d (-1) t.length j).add (ctr d 1 t.length j) = Cl.zero
      rw [ctr_neg, Cl.add_comm, Cl.add_neg (ctr_ok hd 1 _ _)]
  obtain ⟨hz1, hz2⟩ := all_zero hz
  have hN : peelN t.length ⟨t, [], []⟩ = peelN 1 ⟨t, [], []⟩ := peelN_stop' (by rw [hp1]; exact hz1) (by omega)
  unfold peelT
  rw [if_pos hck, hN, hp1]
  simp only [hz2, Bool.false_eq_true, if_false]
  rcases hq with rfl | rfl
  · simp only [if_true, sortD_one, sortD_nil]
  · simp only [if_neg (show ¬ ((-1 : Int) = 1) by omega), sortD_one, sortD_nil]
theorem newT_get (n : Int) (i : Nat) : (newT n).getD i Cl.zero = Cl.zero := by
  unfold newT
  split
  · exact zeros_get _ _
  · rfl
theorem newT_nok (n : Int) : Tnok (newT n) := by
  unfold newT
  split
  · exact zeros_nok _
  · intro c hc; cases hc
theorem newT_len {n : Int} (h : allowedB n = true) : (newT n).length = n.toNat := by unfold newT; rw [if_pos h]; simp
theorem ofFold_new {n : Int} (hn : allowedB n = true) {l : List (List UInt8)} (hl : Dok l) (i : Nat) : (ofFold (newT n) l).getD i Cl.zero = csum n.toNat i l := by
  have hal := allowedB_iff.1 hn
  rw [ofFold_get hl (newT_nok n) (by rw [newT_len hn]; omega), newT_get, newT_len hn, Cl.zero_add (csum_ok hl _ _)]
theorem csum_one {d : List UInt8} (hd : d.length = 32) (n i : Nat) : csum n i [d] = ctr d 1 n i := Cl.add_zero (ctr_nok hd wrap64_1 n i)
end Go.Proofs.YtebgopdmeghmhaaGreat
namespace Go.Proofs.YtebgopdmeghmhaaGreat
open Go.RowKit

theorem pur_eq {t : List Cl} (h3 : 3 ≤ t.length) (hm3 : t.length % 3 = 0) {i : Nat} (hi : i < t.length) : purR t i = pureB t i := by
  unfold purR pureB
  congr 2
  rw [Bool.eq_iff_iff]
  simp only [decide_eq_true_eq, List.any_eq_true, List.mem_range, beq_iff_eq]
  constructor
  · intro h
    refine ⟨i / (t.length / 3), ?_, h⟩
    rw [Nat.div_lt_iff_lt_mul (by omega)]
    omega
  · rintro ⟨p, _, h⟩
    have hd := posN_div (t.getD i Cl.zero).k h3 p
    rw [h] at hd
    rw [hd, h]
def firstI (t : List Cl) : Int := match firstP t with
  | none => -1
  | some i => i
set_option maxRecDepth 100000 in
set_option maxHeartbeats 1000000 in
theorem ref47_first {S : Nat → Prop} (w : World) (v : Value) (t : List Cl) (h : TabR S w v t) (hl3 : 3 ≤ t.length) (hm : t.length ≤ 1000000) (hm3 : t.length % 3 = 0) :
    Calls Tryz.prog 55 #[v] w fun e w' => e = .returned (.int .i64 (firstI t)) ∧ Below w.heap.size w w' := by
  obtain ⟨o, c, rfl⟩ : ∃ o c, v = .slice o t.length c := by obtain ⟨⟨o, c, e, _⟩, _⟩ := h; rw [tabC_size] at e; exact ⟨o, c, e⟩
  have Hm3 := Lib.hid hm3
  clear hm3
  go_enter Tryz.func55, Tryz.ntmps55
  go_wp2
  go_loopw [3] (fun i wr => ∃ k : Nat, k ≤ t.length ∧ i = .int .i64 k ∧ (∀ j, j < k → pureB t j = false) ∧ Below w.heap.size w wr) (fun i _ => t.length - (intOf i).toNat)
  case atStart => exact ⟨0, by omega, rfl, (fun j h => by omega), Below.refl _ _⟩
  case round =>
    obtain ⟨k, hk, rfl, hno, hB⟩ := hrel
    by_cases hlt : k < t.length
    · have hlt' : (k : Int) < (t.length : Int) := by omega
      have hp := ref47_pure wr _ t k (h.below hB) hl3 hm Hm3.out hlt
      rw [pur_eq hl3 Hm3.out hlt] at hp
      have Hp := Lib.hid hp
      have Hno := Lib.hid hno
      clear hp hno
      go_wp2_with fail
      refine Hp.out.mono ?_
      rintro e w2 ⟨rfl, hb2⟩
      have hB2 := Below.then hB hb2 hB.size
      cases hpb : pureB t k
      · go_wp2
        go_roundw
        case rel =>
          refine ⟨k + 1, by omega, by go_num, fun j hj => ?_, hB2⟩
          rcases Nat.lt_succ_iff_lt_or_eq.1 hj with h1 | rfl
          · exact Hno.out j h1
          · exact hpb
        case measure => simp [intOf]; omega
      · have hf : firstI t = k := by unfold firstI; rw [firstP_some hlt hpb Hno.out]
        have Hf := Lib.hid hf
        clear hf
        go_wp2
        go_ret
        exact ⟨by rw [Hf.out]; rfl, hB2⟩
    · obtain rfl : t.length = k := by omega
      have hlt' : ¬ (t.length : Int) < (t.length : Int) := by omega
      have hf : firstI t = -1 := by unfold firstI; rw [firstP_none hno]
      have Hf := Lib.hid hf
      clear hf
      go_wp2
      go_ret
      exact ⟨by rw [Hf.out]; rfl, hB⟩
end Go.Proofs.YtebgopdmeghmhaaGreat
