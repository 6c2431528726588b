/- Layer 48: the plain functions, and what holds of them: order, ranges, halves. No program in sight. Layer 48: what an answer looks like, and what an exchange of messages leads to. No program in sight. Layer 48: what an exchange of messages leads to. No program in sight. -/
import Derived.Test.YtebgopdmeghmhaaGreatRfSort
namespace Go.Proofs.YtebgopdmeghmhaaGreat
open Go.RowKit

/-! order -/
theorem ltD_irrefl (a : List UInt8) : ¬ cmpD a a < 0 := by unfold cmpD; rw [cmpB_refl]; decide
theorem ltD_trans {a b c : List UInt8} (h1 : cmpD a b < 0) (h2 : cmpD b c < 0) : cmpD a c < 0 := cmpB_trans a b c h1 h2
theorem cmpD_neg (a b : List UInt8) : cmpD b a = - cmpD a b := cmpB_neg a b
theorem ltD_leD {a b c : List UInt8} (h1 : cmpD a b < 0) (h2 : cmpD b c ≤ 0) : cmpD a c < 0 := by
  rcases Int.lt_or_eq_of_le h2 with h | h
  · exact ltD_trans h1 h
  · rw [← cmpB_eq h]; exact h1
theorem leD_ltD {a b c : List UInt8} (h1 : cmpD a b ≤ 0) (h2 : cmpD b c < 0) : cmpD a c < 0 := by
  rcases Int.lt_or_eq_of_le h1 with h | h
  · exact ltD_trans h h2
  · rw [cmpB_eq h]; exact h2
theorem geD_iff (a b : List UInt8) : 0 ≤ cmpD a b ↔ cmpD b a ≤ 0 := by have := cmpD_neg a b; omega
theorem gtD_iff (a b : List UInt8) : 0 < cmpD a b ↔ cmpD b a < 0 := by have := cmpD_neg a b; omega
theorem not_ltD (a b : List UInt8) : ¬ cmpD a b < 0 ↔ cmpD b a ≤ 0 := by have := cmpD_neg a b; omega
def Asc (l : List (List UInt8)) : Prop := l.Pairwise fun x y => cmpD x y < 0
instance (l : List (List UInt8)) : Decidable (Asc l) := by unfold Asc; infer_instance
def ascB (l : List (List UInt8)) : Bool := decide (Asc l)
theorem Asc.nodup {l : List (List UInt8)} (h : Asc l) : l.Nodup := by
  refine List.Pairwise.imp ?_ h
  intro a b h e
  subst e
  exact ltD_irrefl _ h
theorem Asc.sorted {l : List (List UInt8)} (h : Asc l) : SortedD l := h.imp fun h => Int.le_of_lt h
theorem Asc.filter {l : List (List UInt8)} (h : Asc l) (p : List UInt8 → Bool) : Asc (l.filter p) := List.Pairwise.filter p h
/-- an ascending list is told by its members -/
theorem asc_ext {l m : List (List UInt8)} (hl : Asc l) (hm : Asc m) (h : ∀ d, d ∈ l ↔ d ∈ m) : l = m :=
  sorted_uniq hl.sorted hm.sorted ((List.perm_ext_iff_of_nodup hl.nodup hm.nodup).2 h)
/-- neighbours suffice -/
theorem asc_of_next {l : List (List UInt8)} (h : ∀ i, 0 < i → i < l.length → cmpD (l.getD (i - 1) []) (l.getD i []) < 0) : Asc l := by
  unfold Asc
  rw [List.pairwise_iff_getElem]
  intro i j hi hj hij
  induction j with
  | zero => omega
  | succ j ih =>
    have hn := h (j + 1) (by omega) hj
    rw [Nat.add_sub_cancel, List.getD_eq_getElem?_getD, List.getD_eq_getElem?_getD, List.getElem?_eq_getElem hj, List.getElem?_eq_getElem (show j < l.length by omega)] at hn
    simp only [Option.getD_some] at hn
    rcases Nat.lt_or_ge i j with h1 | h1
    · exact ltD_trans (ih (by omega) h1) hn
    · obtain rfl : i = j := by omega
      exact hn
theorem asc_next {l : List (List UInt8)} (h : Asc l) {i : Nat} (h0 : 0 < i) (hi : i < l.length) : cmpD (l.getD (i - 1) []) (l.getD i []) < 0 := by
  unfold Asc at h
  rw [List.pairwise_iff_getElem] at h
  rw [List.getD_eq_getElem?_getD, List.getD_eq_getElem?_getD, List.getElem?_eq_getElem hi, List.getElem?_eq_getElem (show i - 1 < l.length by omega)]
  exact h (i - 1) i (by omega) hi (by omega)
/-! sorted, each once -/
def compD : List (List UInt8) → List (List UInt8)
  | [] => []
  | [x] => [x]
  | x :: y :: l => if x = y then compD (y :: l) else x :: compD (y :: l)
theorem compD_mem : ∀ (l : List (List UInt8)) (d : List UInt8), d ∈ compD l ↔ d ∈ l
  | [], _ => Iff.rfl
  | [_], _ => Iff.rfl
  | x :: y :: l, d => by
    have ih := compD_mem (y :: l) d
    unfold compD
    split
    · rename_i h
      rw [ih, h]
      simp
    · rw [List.mem_cons, ih]
      simp
theorem compD_asc : ∀ {l : List (List UInt8)}, SortedD l → Asc (compD l)
  | [], _ => List.Pairwise.nil
  | [_], _ => List.pairwise_singleton _ _
  | x :: y :: l, h => by
    have hp := List.pairwise_cons.1 h
    have ih := compD_asc hp.2
    unfold compD
    split
    · exact ih
    · rename_i hxy
      refine List.pairwise_cons.2 ⟨fun d hd => ?_, ih⟩
      rw [compD_mem] at hd
      have hxyl := hp.1 y (by simp)
      have hlt : cmpD x y < 0 := by
        rcases Int.lt_or_eq_of_le hxyl with h1 | h1
        · exact h1
        · exact absurd (cmpB_eq h1) hxy
      rcases List.mem_cons.1 hd with rfl | hd
      · exact hlt
      · exact ltD_leD hlt ((List.pairwise_cons.1 hp.2).1 d hd)
theorem compD_nodup : ∀ {l : List (List UInt8)}, l.Nodup → compD l = l
  | [], _ => rfl
  | [_], _ => rfl
  | x :: y :: l, h => by
    have hp := List.pairwise_cons.1 h
    unfold compD
    rw [if_neg (hp.1 y (by simp)), compD_nodup hp.2]
def sortC (l : List (List UInt8)) : List (List UInt8) := compD (sortD l)
theorem sortC_mem (l : List (List UInt8)) (d : List UInt8) : d ∈ sortC l ↔ d ∈ l := by unfold sortC; rw [compD_mem]; exact sortD_mem
theorem sortC_asc (l : List (List UInt8)) : Asc (sortC l) := compD_asc (sortD_sorted l)
theorem sortC_nodup {l : List (List UInt8)} (h : l.Nodup) : sortC l = sortD l := compD_nodup ((sortD_perm l).nodup_iff.2 h)

/-! ranges -/
structure Rg where
  low : List UInt8
  high : List UInt8
  listed : Bool
  count : Int
  print : List UInt8
  ids : List (List UInt8)
/-- its parts have the sizes that they must have -/
def Rg.ok (r : Rg) : Prop := r.low.length = 32 ∧ r.high.length = 32 ∧ r.print.length = 32 ∧ Dok r.ids
def openB (h : List UInt8) : Bool := decide (h = zeroD)
def insB (low high d : List UInt8) : Bool := decide (0 ≤ cmpD d low) && (openB high || decide (cmpD d high < 0))
/-- the digests of a set that lie in a range -/
def own (s : List (List UInt8)) (low high : List UInt8) : List (List UInt8) := s.filter (insB low high)
def printD (l : List (List UInt8)) : List UInt8 := sumL l.flatten
def idsE (low high : List UInt8) : Option (List UInt8) → List (List UInt8) → Int
  | _, [] => 0
  | p, d :: l => if p.any (fun x => decide (0 ≤ cmpD x d)) then 9 else if insB low high d then idsE low high (some d) l else 2
def oneE (r : Rg) : Int :=
  if !openB r.high && decide (0 ≤ cmpD r.low r.high) then 9
  else if (r.listed && (r.count != 0 || !decide (r.print = zeroD))) || (!r.listed && decide (0 < r.ids.length)) then 1
  else if decide (r.count < 0) || decide (1099511627776 < r.count) then 2
  else if 400 < r.ids.length then 4
  else idsE r.low r.high none r.ids
def rgsE : Option Rg → List Rg → Int
  | _, [] => 0
  | p, r :: l => if oneE r = 0 then (if p.any (fun x => openB x.high || decide (0 < cmpD x.high r.low)) then 9 else rgsE (some r) l) else oneE r
def checkR (l : List Rg) : Int := if 1000 < l.length then 4 else rgsE none l
def summR (low high : List UInt8) (l : List (List UInt8)) : Rg := ⟨low, high, false, l.length, printD l, []⟩
def listR (low high : List UInt8) (l : List (List UInt8)) : Rg := ⟨low, high, true, 0, zeroD, l⟩
def descR (low high : List UInt8) (l : List (List UInt8)) : Rg := if 8 < l.length then summR low high l else listR low high l
def startR (ids : List (List UInt8)) : List Rg := if ascB ids then [descR zeroD zeroD ids] else []
def withoutD (l other : List (List UInt8)) : List (List UInt8) := l.filter fun d => !decide (d ∈ other)
def sameP (r : Rg) (o : List (List UInt8)) : Bool := decide (r.count = o.length) && decide (r.print = printD o)
def midD (o : List (List UInt8)) : List UInt8 := o.getD (o.length / 2) []
def partR (r : Rg) (o : List (List UInt8)) : List Rg :=
  if r.listed then [] else if sameP r o then [] else if o.length ≤ 8 then [descR r.low r.high o] else [summR r.low (midD o) (o.take (o.length / 2)), summR (midD o) r.high (o.drop (o.length / 2))]
def partW (r : Rg) (o : List (List UInt8)) : List (List UInt8) := if r.listed then withoutD r.ids o else []
def partG (r : Rg) (o : List (List UInt8)) : List (List UInt8) := if r.listed then withoutD o r.ids else []
def ownR (s : List (List UInt8)) (r : Rg) : List (List UInt8) := own s r.low r.high
structure Ans where
  r : List Rg
  w : List (List UInt8)
  g : List (List UInt8)
  e : Int
def ansD (ids : List (List UInt8)) (l : List Rg) : Ans :=
  if ascB ids then (if checkR l = 0 then ⟨l.flatMap fun r => partR r (ownR ids r), l.flatMap fun r => partW r (ownR ids r), l.flatMap fun r => partG r (ownR ids r), 0⟩ else ⟨[], [], [], checkR l⟩) else ⟨[], [], [], 9⟩
/-- where an exchange of messages stands -/
structure Rs where
  l : List Rg
  m0 : List (List UInt8)
  m1 : List (List UInt8)
  c : Nat
def stepR (a b : List (List UInt8)) (s : Rs) : Rs :=
  if s.l.length = 0 then s
  else if (s.c + 1) % 2 = 0 then
    (if (ansD a s.l).e = 0 then ⟨(ansD a s.l).r, s.m0 ++ (ansD a s.l).w, s.m1 ++ (ansD a s.l).g, s.c + 1⟩ else ⟨[], s.m0, s.m1, s.c + 1⟩)
  else (if (ansD b s.l).e = 0 then ⟨(ansD b s.l).r, s.m0 ++ (ansD b s.l).g, s.m1 ++ (ansD b s.l).w, s.c + 1⟩ else ⟨[], s.m0, s.m1, s.c + 1⟩)
def itR (a b : List (List UInt8)) : Nat → Rs
  | 0 => ⟨startR a, [], [], 0⟩
  | n + 1 => stepR a b (itR a b n)
theorem itR_stop {a b : List (List UInt8)} {j : Nat} (h : (itR a b j).l.length = 0) : ∀ n, itR a b (j + n) = itR a b j
  | 0 => rfl
  | n + 1 => by
    have ih := itR_stop h n
    show stepR a b (itR a b (j + n)) = _
    rw [ih]; unfold stepR; rw [if_pos h]
theorem itR_stop' {a b : List (List UInt8)} {j : Nat} (h : (itR a b j).l.length = 0) {n : Nat} (hn : j ≤ n) : itR a b n = itR a b j := by
  have := itR_stop h (n - j)
  rwa [show j + (n - j) = n by omega] at this
/-- what Run answers -/
def runR (a b : List (List UInt8)) : List (List UInt8) × List (List UInt8) × Nat :=
  if ascB a && ascB b then (sortC (itR a b 40).m0, sortC (itR a b 40).m1, (itR a b 40).c) else ([], [], 0)

/-! inside -/
theorem insB_iff {low high d : List UInt8} : insB low high d = true ↔ cmpD low d ≤ 0 ∧ (high = zeroD ∨ cmpD d high < 0) := by
  unfold insB openB
  simp only [Bool.and_eq_true, Bool.or_eq_true, decide_eq_true_eq]
  rw [geD_iff]
theorem zero_le {d : List UInt8} (hd : d.length = 32) : cmpD zeroD d ≤ 0 := by
  have key : ∀ (n : Nat) (l : List UInt8), l.length = n → Lib.compareBytes (List.replicate n 0) l ≤ 0 := by
    intro n
    induction n with
    | zero => intro l hl; rw [List.length_eq_zero_iff.1 hl]; decide
    | succ n ih =>
      intro l hl
      match l, hl with
      | x :: l, hl =>
        simp only [List.length_cons, Nat.add_right_cancel_iff] at hl
        have := ih l hl
        rw [List.replicate_succ]
        unfold Lib.compareBytes
        split
        · decide
        · split
          · rename_i h
            exact absurd h (by simp)
          · exact this
  exact key 32 d hd
theorem ltD_ne_zero {d e : List UInt8} (hd : d.length = 32) (h : cmpD d e < 0) : e ≠ zeroD := by
  rintro rfl
  have := zero_le hd
  exact ltD_irrefl _ (leD_ltD this h)
/-- a valid range: bounded above, or open -/
def Vlh (low high : List UInt8) : Prop := high = zeroD ∨ cmpD low high < 0
section
variable {s : List (List UInt8)} {low high : List UInt8}
theorem own_mem {d : List UInt8} : d ∈ own s low high ↔ d ∈ s ∧ cmpD low d ≤ 0 ∧ (high = zeroD ∨ cmpD d high < 0) := by
  unfold own
  rw [List.mem_filter, insB_iff]
theorem own_asc (h : Asc s) : Asc (own s low high) := h.filter _
theorem own_dok (h : Dok s) : Dok (own s low high) := fun d hd => h d (own_mem.1 hd).1
theorem mid_get (h8 : 8 < (own s low high).length) : ∃ h : (own s low high).length / 2 < (own s low high).length, midD (own s low high) = (own s low high)[(own s low high).length / 2] := by
  refine ⟨by omega, ?_⟩
  unfold midD
  rw [List.getD_eq_getElem?_getD, List.getElem?_eq_getElem (by omega)]
  rfl
theorem mid_in (h8 : 8 < (own s low high).length) : midD (own s low high) ∈ own s low high := by
  obtain ⟨h, e⟩ := mid_get h8
  rw [e]; exact List.getElem_mem h
theorem mid_low (hs : Asc s) (h8 : 8 < (own s low high).length) : cmpD low (midD (own s low high)) < 0 := by
  obtain ⟨h, e⟩ := mid_get h8
  have ha := own_asc (low := low) (high := high) hs
  unfold Asc at ha
  rw [List.pairwise_iff_getElem] at ha
  have h0 := ha 0 _ (by omega) h (by omega)
  rw [e]
  exact leD_ltD (own_mem.1 (List.getElem_mem (show 0 < (own s low high).length by omega))).2.1 h0
theorem mid_zero (hs : Asc s) (hl : low.length = 32) (h8 : 8 < (own s low high).length) : midD (own s low high) ≠ zeroD := ltD_ne_zero hl (mid_low hs h8)
/-- the halves of a range hold the halves of what it holds -/
theorem own_half1 (hs : Asc s) (hl : low.length = 32) (h8 : 8 < (own s low high).length) : own s low (midD (own s low high)) = (own s low high).take ((own s low high).length / 2) := by
  obtain ⟨h, e⟩ := mid_get h8
  have hz := mid_zero hs hl h8
  have hm := own_mem.1 (mid_in h8)
  have ha := own_asc (low := low) (high := high) hs
  refine asc_ext (own_asc hs) (ha.sublist (List.take_sublist _ _)) fun d => ?_
  rw [own_mem]
  have hp := ha
  unfold Asc at hp
  rw [List.pairwise_iff_getElem] at hp
  constructor
  · rintro ⟨h1, h2, h3⟩
    have h3 : cmpD d (midD (own s low high)) < 0 := h3.resolve_left hz
    have hd : d ∈ own s low high := own_mem.2 ⟨h1, h2, hm.2.2.imp id fun q => ltD_trans h3 q⟩
    obtain ⟨i, hi, rfl⟩ := List.mem_iff_getElem.1 hd
    rcases Nat.lt_or_ge i ((own s low high).length / 2) with hlt | hge
    · exact List.mem_iff_getElem.2 ⟨i, by simp; omega, by simp⟩
    · exfalso
      rw [e] at h3
      rcases Nat.eq_or_lt_of_le hge with rfl | hgt
      · exact ltD_irrefl _ h3
      · exact ltD_irrefl _ (ltD_trans h3 (hp _ _ h hi hgt))
  · intro hd
    obtain ⟨i, hi, rfl⟩ := List.mem_iff_getElem.1 hd
    simp only [List.length_take] at hi
    rw [List.getElem_take]
    have hi' : i < (own s low high).length := by omega
    have hq := own_mem.1 (List.getElem_mem hi')
    exact ⟨hq.1, hq.2.1, .inr (by rw [e]; exact hp i _ hi' h (by omega))⟩
theorem own_half2 (hs : Asc s) (h8 : 8 < (own s low high).length) : own s (midD (own s low high)) high = (own s low high).drop ((own s low high).length / 2) := by
  obtain ⟨h, e⟩ := mid_get h8
  have ha := own_asc (low := low) (high := high) hs
  have hlow := mid_low hs h8
  refine asc_ext (own_asc hs) (ha.sublist (List.drop_sublist _ _)) fun d => ?_
  rw [own_mem]
  have hp := ha
  unfold Asc at hp
  rw [List.pairwise_iff_getElem] at hp
  constructor
  · rintro ⟨h1, h2, h3⟩
    have hd : d ∈ own s low high := own_mem.2 ⟨h1, Int.le_of_lt (ltD_leD hlow h2), h3⟩
    obtain ⟨i, hi, rfl⟩ := List.mem_iff_getElem.1 hd
    rcases Nat.lt_or_ge i ((own s low high).length / 2) with hlt | hge
    · exfalso
      rw [e] at h2
      exact ltD_irrefl _ (leD_ltD h2 (hp _ _ hi h hlt))
    · refine List.mem_iff_getElem.2 ⟨i - (own s low high).length / 2, by simp; omega, ?_⟩
      rw [List.getElem_drop]
      congr 1
      omega
  · intro hd
    obtain ⟨i, hi, rfl⟩ := List.mem_iff_getElem.1 hd
    simp only [List.length_drop] at hi
    rw [List.getElem_drop]
    have hi' : (own s low high).length / 2 + i < (own s low high).length := by omega
    have hq := own_mem.1 (List.getElem_mem hi')
    refine ⟨hq.1, ?_, hq.2.2⟩
    rw [e]
    rcases Nat.eq_zero_or_pos i with rfl | hpos
    · exact Int.le_of_eq (cmpB_refl _)
    · exact Int.le_of_lt (hp _ _ h hi' (by omega))
theorem own_part1 {d : List UInt8} (hm : midD (own s low high) ∈ own s low high) (hz : midD (own s low high) ≠ zeroD) (h : insB low (midD (own s low high)) d = true) : insB low high d = true := by
  rw [insB_iff] at h ⊢
  have h3 := h.2.resolve_left hz
  exact ⟨h.1, (own_mem.1 hm).2.2.imp id fun q => ltD_trans h3 q⟩
theorem own_part2 {d : List UInt8} (hlow : cmpD low (midD (own s low high)) < 0) (h : insB (midD (own s low high)) high d = true) : insB low high d = true := by
  rw [insB_iff] at h ⊢
  exact ⟨Int.le_of_lt (ltD_leD hlow h.1), h.2⟩
theorem own_parts {d : List UInt8} (h : insB low high d = true) : insB low (midD (own s low high)) d = true ∨ insB (midD (own s low high)) high d = true := by
  rw [insB_iff] at h
  rw [insB_iff, insB_iff]
  rcases leq_total (midD (own s low high)) d with h1 | h1
  · exact .inr ⟨h1, h.2⟩
  · rcases Int.lt_or_eq_of_le h1 with h2 | h2
    · exact .inl ⟨h.1, .inr h2⟩
    · rw [cmpB_eq h2]
      refine .inr ⟨Int.le_of_eq (cmpB_refl _), ?_⟩
      rw [← cmpB_eq h2]; exact h.2
end
end Go.Proofs.YtebgopdmeghmhaaGreat
namespace Go.Proofs.YtebgopdmeghmhaaGreat
open Go.RowKit

/-! valid ranges -/
def Sep (r s : Rg) : Prop := r.high ≠ zeroD ∧ cmpD r.high s.low ≤ 0
def Rg.val (r : Rg) : Prop := r.high = zeroD ∨ cmpD r.low r.high < 0
def insR (r : Rg) (d : List UInt8) : Bool := insB r.low r.high d
theorem idsE_ok {low high : List UInt8} : ∀ {l : List (List UInt8)} {p : Option (List UInt8)}, Asc l → (∀ d ∈ l, insB low high d = true) → (∀ x, p = some x → ∀ d ∈ l, cmpD x d < 0) → idsE low high p l = 0
  | [], _, _, _, _ => rfl
  | d :: l, p, ha, hi, hp => by
    have hc := List.pairwise_cons.1 ha
    unfold idsE
    have e : p.any (fun x => decide (0 ≤ cmpD x d)) = false := by
      cases p with
      | none => rfl
      | some x =>
        have := hp x rfl d (by simp)
        simp only [Option.any_some, decide_eq_false_iff_not]
        omega
    rw [e, hi d (by simp)]
    exact idsE_ok hc.2 (fun x hx => hi x (by simp [hx])) (fun x hx y hy => by
      obtain rfl := Option.some.inj hx
      exact hc.1 y hy)
theorem of_idsE {low high : List UInt8} : ∀ {l : List (List UInt8)} {p : Option (List UInt8)}, idsE low high p l = 0 → Asc l ∧ (∀ d ∈ l, insB low high d = true) ∧ (∀ x, p = some x → ∀ d ∈ l, cmpD x d < 0)
  | [], _, _ => ⟨List.Pairwise.nil, (fun _ h => by cases h), (fun _ _ _ h => by cases h)⟩
  | d :: l, p, h => by
    unfold idsE at h
    cases e : p.any (fun x => decide (0 ≤ cmpD x d))
    · rw [e] at h
      cases hi : insB low high d
      · rw [hi] at h; simp at h
      · rw [hi] at h
        obtain ⟨h1, h2, h3⟩ := of_idsE (l := l) (p := some d) h
        have hd := h3 d rfl
        refine ⟨List.pairwise_cons.2 ⟨hd, h1⟩, fun x hx => ?_, fun x hx y hy => ?_⟩
        · rcases List.mem_cons.1 hx with rfl | hx
          · exact hi
          · exact h2 x hx
        · subst hx
          have hxd : cmpD x d < 0 := by
            simp only [Option.any_some, decide_eq_false_iff_not] at e
            omega
          rcases List.mem_cons.1 hy with rfl | hy
          · exact hxd
          · exact ltD_trans hxd (hd y hy)
    · rw [e] at h; simp at h
theorem of_oneE {r : Rg} (h : oneE r = 0) : r.val ∧ Asc r.ids ∧ (∀ d ∈ r.ids, insR r d = true) ∧ (r.listed = false → r.ids = []) := by
  unfold oneE at h
  split at h
  · exact absurd h (by decide)
  · rename_i h1
    split at h
    · exact absurd h (by decide)
    · rename_i h2
      split at h
      · exact absurd h (by decide)
      · split at h
        · exact absurd h (by decide)
        · obtain ⟨a, b, _⟩ := of_idsE h
          refine ⟨?_, a, b, fun hl => ?_⟩
          · unfold Rg.val
            unfold openB at h1
            by_cases hz : r.high = zeroD
            · exact .inl hz
            · right
              simp only [hz, decide_false, Bool.not_false, Bool.true_and, decide_eq_true_eq] at h1
              omega
          · rw [hl] at h2
            simp at h2
            exact h2
theorem oneE_ok {r : Rg} (hv : r.val) (ha : Asc r.ids) (hi : ∀ d ∈ r.ids, insR r d = true) (h4 : r.ids.length ≤ 400) (hc : 0 ≤ r.count ∧ r.count ≤ 1099511627776) (hl : r.listed = true → r.count = 0 ∧ r.print = zeroD) (hu : r.listed = false → r.ids = []) : oneE r = 0 := by
  unfold oneE
  have e1 : (!openB r.high && decide (0 ≤ cmpD r.low r.high)) = false := by
    unfold openB
    rcases hv with h | h
    · simp [h]
    · rw [decide_eq_false (show ¬ 0 ≤ cmpD r.low r.high by omega), Bool.and_false]
  have e2 : ((r.listed && (r.count != 0 || !decide (r.print = zeroD))) || (!r.listed && decide (0 < r.ids.length))) = false := by
    cases h : r.listed
    · simp [hu h]
    · obtain ⟨h1, h2⟩ := hl h
      simp [h1, h2]
  have e3 : (decide (r.count < 0) || decide (1099511627776 < r.count)) = false := by
    rw [decide_eq_false (by omega), decide_eq_false (by omega)]; rfl
  rw [e1, e2, e3, if_neg (by decide), if_neg (by decide), if_neg (by decide), if_neg (by omega)]
  exact idsE_ok ha hi fun x hx => by cases hx
theorem rgsE_ok : ∀ {l : List Rg} {p : Option Rg}, (∀ r ∈ l, oneE r = 0) → l.Pairwise Sep → (∀ x, p = some x → ∀ r ∈ l, Sep x r) → rgsE p l = 0
  | [], _, _, _, _ => rfl
  | r :: l, p, h1, h2, h3 => by
    have hc := List.pairwise_cons.1 h2
    unfold rgsE
    rw [if_pos (h1 r (by simp))]
    have e : p.any (fun x => openB x.high || decide (0 < cmpD x.high r.low)) = false := by
      cases p with
      | none => rfl
      | some x =>
        have := h3 x rfl r (by simp)
        unfold Sep at this
        unfold openB
        simp only [Option.any_some]
        rw [decide_eq_false this.1, decide_eq_false (by omega)]; rfl
    rw [e]
    exact rgsE_ok (fun x hx => h1 x (by simp [hx])) hc.2 (fun x hx y hy => by
      obtain rfl := Option.some.inj hx
      exact hc.1 y hy)
theorem sep_trans {r s t : Rg} (h1 : Sep r s) (hs : s.val) (h2 : Sep s t) : Sep r t := by
  refine ⟨h1.1, ?_⟩
  have hs := hs.resolve_left h2.1
  exact Int.le_of_lt (ltD_leD (leD_ltD h1.2 hs) h2.2)
theorem of_rgsE : ∀ {l : List Rg} {p : Option Rg}, rgsE p l = 0 → (∀ r ∈ l, oneE r = 0) ∧ l.Pairwise Sep ∧ (∀ x, p = some x → ∀ r ∈ l, Sep x r)
  | [], _, _ => ⟨(fun _ h => by cases h), List.Pairwise.nil, (fun _ _ _ h => by cases h)⟩
  | r :: l, p, h => by
    unfold rgsE at h
    by_cases h1 : oneE r = 0
    · rw [if_pos h1] at h
      cases e : p.any (fun x => openB x.high || decide (0 < cmpD x.high r.low))
      · rw [e] at h
        obtain ⟨a, b, c⟩ := of_rgsE (l := l) (p := some r) h
        have hr := c r rfl
        refine ⟨fun x hx => ?_, List.pairwise_cons.2 ⟨hr, b⟩, fun x hx y hy => ?_⟩
        · rcases List.mem_cons.1 hx with rfl | hx
          · exact h1
          · exact a x hx
        · subst hx
          have hxr : Sep x r := by
            unfold openB at e
            simp only [Option.any_some, Bool.or_eq_false_iff, decide_eq_false_iff_not] at e
            exact ⟨e.1, by omega⟩
          rcases List.mem_cons.1 hy with rfl | hy
          · exact hxr
          · exact sep_trans hxr (of_oneE h1).1 (hr y hy)
      · rw [e] at h; simp at h
    · rw [if_neg h1] at h; exact absurd h h1
theorem checkR_ok {l : List Rg} (h1 : ∀ r ∈ l, oneE r = 0) (h2 : l.Pairwise Sep) (h3 : l.length ≤ 1000) : checkR l = 0 := by
  unfold checkR
  rw [if_neg (by omega)]
  exact rgsE_ok h1 h2 fun x hx => by cases hx
theorem of_checkR {l : List Rg} (h : checkR l = 0) : (∀ r ∈ l, oneE r = 0) ∧ l.Pairwise Sep ∧ l.length ≤ 1000 := by
  unfold checkR at h
  split at h
  · exact absurd h (by decide)
  · obtain ⟨a, b, _⟩ := of_rgsE h
    exact ⟨a, b, by omega⟩
/-- what lies in two of the ranges lies in one -/
theorem sep_not {r s : Rg} (h : Sep r s) {d : List UInt8} (h1 : insR r d = true) (h2 : insR s d = true) : False := by
  unfold insR at h1 h2
  rw [insB_iff] at h1 h2
  have h3 := h1.2.resolve_left h.1
  exact ltD_irrefl _ (ltD_leD (ltD_leD h3 h.2) h2.1)
theorem sep_same : ∀ {l : List Rg}, l.Pairwise Sep → ∀ {r s : Rg}, r ∈ l → s ∈ l → ∀ {d : List UInt8}, insR r d = true → insR s d = true → r = s
  | [], _, _, _, h, _, _, _, _ => by cases h
  | x :: l, hp, r, s, hr, hs, d, h1, h2 => by
    have hc := List.pairwise_cons.1 hp
    rcases List.mem_cons.1 hr with e | hr'
    · rcases List.mem_cons.1 hs with e' | hs'
      · rw [e, e']
      · exact (sep_not (e ▸ hc.1 s hs') h1 h2).elim
    · rcases List.mem_cons.1 hs with e' | hs'
      · exact (sep_not (e' ▸ hc.1 r hr') h2 h1).elim
      · exact sep_same hc.2 hr' hs' h1 h2

/-! the answer to one range -/
/-- a range that tells what a set has -/
structure Fine (X : List (List UInt8)) (r : Rg) : Prop where
  ok : r.ok
  val : r.val
  lst : r.listed = true → r.ids = ownR X r ∧ r.count = 0 ∧ r.print = zeroD ∧ r.ids.length ≤ 8
  unl : r.listed = false → r.ids = [] ∧ r.count = (ownR X r).length ∧ r.print = printD (ownR X r)
theorem printD_len (l : List (List UInt8)) : (printD l).length = 32 := sumL_len _
theorem Fine.one {X : List (List UInt8)} (hX : Asc X) (hl : X.length ≤ 1000000) {r : Rg} (h : Fine X r) : oneE r = 0 := by
  have hfl : (ownR X r).length ≤ X.length := List.length_filter_le _ _
  cases e : r.listed
  · obtain ⟨h1, h2, h3⟩ := h.unl e
    exact oneE_ok h.val (by rw [h1]; exact List.Pairwise.nil) (by rw [h1]; intro d hd; cases hd) (by rw [h1]; simp) (by rw [h2]; omega) (by rw [e]; intro q; cases q) fun _ => h1
  · obtain ⟨h1, h2, h3, h4⟩ := h.lst e
    refine oneE_ok h.val (by rw [h1]; exact own_asc hX) (fun d hd => ?_) (by omega) (by rw [h2]; decide) (fun _ => ⟨h2, h3⟩) (by rw [e]; intro q; cases q)
    rw [h1] at hd
    exact insB_iff.2 (own_mem.1 hd).2
/-- q lies in r -/
structure Within (q r : Rg) : Prop where
  ins : ∀ d, insR q d = true → insR r d = true
  low : cmpD r.low q.low ≤ 0
  high : r.high ≠ zeroD → q.high ≠ zeroD ∧ cmpD q.high r.high ≤ 0
theorem leD_refl (a : List UInt8) : cmpD a a ≤ 0 := Int.le_of_eq (cmpB_refl a)
theorem part_fine {Y : List (List UInt8)} (hY : Asc Y) (hd : Dok Y) {r : Rg} (hok : r.ok) (hv : r.val) : (∀ q ∈ partR r (ownR Y r), Fine Y q ∧ Within q r ∧ r.listed = false) ∧ (partR r (ownR Y r)).Pairwise Sep ∧ (partR r (ownR Y r)).length ≤ 2 := by
  unfold partR
  split
  · exact ⟨(fun _ h => by cases h), List.Pairwise.nil, by simp⟩
  · rename_i hl
    have hl : r.listed = false := by simpa using hl
    split
    · exact ⟨(fun _ h => by cases h), List.Pairwise.nil, by simp⟩
    · split
      · rename_i h8
        refine ⟨fun q hq => ?_, List.pairwise_singleton _ _, by simp⟩
        rw [List.mem_singleton] at hq
        subst hq
        unfold descR
        rw [if_neg (by omega)]
        exact ⟨⟨⟨hok.1, hok.2.1, (rfl : zeroD.length = 32), own_dok hd⟩, hv, fun _ => ⟨rfl, rfl, rfl, h8⟩, (fun h => by cases h)⟩, ⟨fun _ h => h, leD_refl _, fun h => ⟨h, leD_refl _⟩⟩, hl⟩
      · rename_i h8
        have h8 : 8 < (own Y r.low r.high).length := by unfold ownR at h8; omega
        have hlow := mid_low hY h8
        have hz := mid_zero hY hok.1 h8
        have hm := mid_in h8
        have hmq := own_mem.1 hm
        have hml := hd _ hmq.1
        have e1 := own_half1 hY hok.1 h8
        have e2 := own_half2 hY h8
        refine ⟨fun q hq => ?_, ?_, by simp⟩
        · simp only [List.mem_cons, List.not_mem_nil, or_false] at hq
          rcases hq with rfl | rfl
          · refine ⟨⟨⟨hok.1, hml, printD_len _, (fun _ h => by cases h)⟩, .inr hlow, (fun h => by cases h), fun _ => ⟨rfl, ?_, ?_⟩⟩, ⟨fun d h => own_part1 hm hz h, leD_refl _, fun h => ⟨hz, ?_⟩⟩, hl⟩
            · show ((List.take _ (own Y r.low r.high)).length : Int) = ((own Y r.low (midD (own Y r.low r.high))).length : Int)
              rw [e1]; rfl
            · show printD (List.take _ (own Y r.low r.high)) = printD (own Y r.low (midD (own Y r.low r.high)))
              rw [e1]; rfl
            · exact Int.le_of_lt (hmq.2.2.resolve_left h)
          · refine ⟨⟨⟨hml, hok.2.1, printD_len _, (fun _ h => by cases h)⟩, hmq.2.2, (fun h => by cases h), fun _ => ⟨rfl, ?_, ?_⟩⟩, ⟨fun d h => own_part2 hlow h, Int.le_of_lt hlow, fun h => ⟨h, leD_refl _⟩⟩, hl⟩
            · show ((List.drop _ (own Y r.low r.high)).length : Int) = ((own Y (midD (own Y r.low r.high)) r.high).length : Int)
              rw [e2]; rfl
            · show printD (List.drop _ (own Y r.low r.high)) = printD (own Y (midD (own Y r.low r.high)) r.high)
              rw [e2]; rfl
        · refine List.pairwise_cons.2 ⟨fun q hq => ?_, List.pairwise_singleton _ _⟩
          rw [List.mem_singleton] at hq
          subst hq
          exact ⟨hz, leD_refl _⟩
theorem part_covers {Y : List (List UInt8)} {r : Rg} {d : List UInt8} (hl : r.listed = false) (hs : sameP r (ownR Y r) = false) (h : insR r d = true) : ∃ q ∈ partR r (ownR Y r), insR q d = true := by
  unfold partR
  rw [hl, hs, if_neg (by decide), if_neg (by decide)]
  split
  · rename_i h8
    refine ⟨_, List.mem_singleton.2 rfl, ?_⟩
    unfold descR
    rw [if_neg (by omega)]
    exact h
  · rcases own_parts (s := Y) h with h1 | h1
    · exact ⟨_, List.mem_cons_self, h1⟩
    · exact ⟨_, List.mem_cons_of_mem _ List.mem_cons_self, h1⟩
theorem sep_within {r s q p : Rg} (h : Sep r s) (h1 : Within q r) (h2 : Within p s) : Sep q p := by
  obtain ⟨h3, h4⟩ := h1.high h.1
  exact ⟨h3, leq_trans (leq_trans h4 h.2) h2.low⟩
/-- all that an answer holds -/
theorem ans_fine {Y : List (List UInt8)} (hY : Asc Y) (hd : Dok Y) {l : List Rg} (hok : ∀ r ∈ l, r.ok ∧ r.val) (hs : l.Pairwise Sep) :
    (∀ q ∈ l.flatMap (fun r => partR r (ownR Y r)), Fine Y q ∧ ∃ r ∈ l, Within q r ∧ r.listed = false) ∧ (l.flatMap fun r => partR r (ownR Y r)).Pairwise Sep ∧ (l.flatMap fun r => partR r (ownR Y r)).length ≤ 2 * l.length := by
  refine ⟨fun q hq => ?_, ?_, ?_⟩
  · obtain ⟨r, hr, hq⟩ := List.mem_flatMap.1 hq
    obtain ⟨h1, h2, h3⟩ := (part_fine hY hd (hok r hr).1 (hok r hr).2).1 q hq
    exact ⟨h1, r, hr, h2, h3⟩
  · rw [List.pairwise_flatMap]
    refine ⟨fun r hr => (part_fine hY hd (hok r hr).1 (hok r hr).2).2.1, ?_⟩
    induction l with
    | nil => exact List.Pairwise.nil
    | cons r l ih =>
      have hc := List.pairwise_cons.1 hs
      refine List.pairwise_cons.2 ⟨fun s hs' x hx y hy => ?_, ih (fun x hx => hok x (by simp [hx])) hc.2⟩
      have hr := hok r (by simp)
      have hs'' := hok s (by simp [hs'])
      exact sep_within (hc.1 s hs') ((part_fine hY hd hr.1 hr.2).1 x hx).2.1 ((part_fine hY hd hs''.1 hs''.2).1 y hy).2.1
  · clear hs
    induction l with
    | nil => simp
    | cons r l ih =>
      have := ih fun x hx => hok x (by simp [hx])
      have h2 := (part_fine hY hd (hok r (by simp)).1 (hok r (by simp)).2).2.2
      rw [List.flatMap_cons, List.length_append, List.length_cons]
      omega
theorem without_mem {l o : List (List UInt8)} {d : List UInt8} : d ∈ withoutD l o ↔ d ∈ l ∧ d ∉ o := by
  unfold withoutD
  rw [List.mem_filter]
  simp
theorem wants_mem {Y : List (List UInt8)} {l : List Rg} {d : List UInt8} : d ∈ l.flatMap (fun r => partW r (ownR Y r)) ↔ ∃ r ∈ l, r.listed = true ∧ d ∈ r.ids ∧ d ∉ ownR Y r := by
  rw [List.mem_flatMap]
  constructor
  · rintro ⟨r, hr, hd⟩
    unfold partW at hd
    split at hd
    · rename_i h; exact ⟨r, hr, h, without_mem.1 hd⟩
    · cases hd
  · rintro ⟨r, hr, h, hd⟩
    refine ⟨r, hr, ?_⟩
    unfold partW
    rw [if_pos h]
    exact without_mem.2 hd
theorem gives_mem {Y : List (List UInt8)} {l : List Rg} {d : List UInt8} : d ∈ l.flatMap (fun r => partG r (ownR Y r)) ↔ ∃ r ∈ l, r.listed = true ∧ d ∈ ownR Y r ∧ d ∉ r.ids := by
  rw [List.mem_flatMap]
  constructor
  · rintro ⟨r, hr, hd⟩
    unfold partG at hd
    split at hd
    · rename_i h; exact ⟨r, hr, h, without_mem.1 hd⟩
    · cases hd
  · rintro ⟨r, hr, h, hd⟩
    refine ⟨r, hr, ?_⟩
    unfold partG
    rw [if_pos h]
    exact without_mem.2 hd
theorem nodup_parts {l : List Rg} {f : Rg → List (List UInt8)} (hs : l.Pairwise Sep) (h1 : ∀ r ∈ l, (f r).Nodup) (h2 : ∀ r ∈ l, ∀ d ∈ f r, insR r d = true) : (l.flatMap f).Nodup := by
  show (l.flatMap f).Pairwise _
  rw [List.pairwise_flatMap]
  refine ⟨h1, ?_⟩
  induction l with
  | nil => exact List.Pairwise.nil
  | cons r l ih =>
    have hc := List.pairwise_cons.1 hs
    refine List.pairwise_cons.2 ⟨fun s hs' x hx y hy => ?_, ih hc.2 (fun x hx => h1 x (by simp [hx])) fun x hx => h2 x (by simp [hx])⟩
    rintro rfl
    exact sep_not (hc.1 s hs') (h2 r (by simp) x hx) (h2 s (by simp [hs']) x hy)
end Go.Proofs.YtebgopdmeghmhaaGreat
namespace Go.Proofs.YtebgopdmeghmhaaGreat
open Go.RowKit

/-- no two runs of digests of the sets differ and have the same fingerprint -/
def NoColl (X Y : List (List UInt8)) : Prop := ∀ low high, (own X low high).length = (own Y low high).length → printD (own X low high) = printD (own Y low high) → own X low high = own Y low high
structure Stp (X Y : List (List UInt8)) (l R : List Rg) (W G : List (List UInt8)) : Prop where
  fine : ∀ q ∈ R, Fine Y q
  sep : R.Pairwise Sep
  len : R.length ≤ 2 * l.length
  w : ∀ d ∈ W, d ∈ X ∧ d ∉ Y
  g : ∀ d ∈ G, d ∈ Y ∧ d ∉ X
  wn : W.Nodup
  gn : G.Nodup
  ins : ∀ d, d ∈ W ∨ d ∈ G → (∃ r ∈ l, insR r d = true) ∧ ∀ q ∈ R, insR q d = false
  out : ∀ d, (∀ r ∈ l, insR r d = false) → ∀ q ∈ R, insR q d = false
  cov : NoColl X Y → ∀ d, (∃ r ∈ l, insR r d = true) → (d ∈ X → d ∉ Y → d ∈ W ∨ ∃ q ∈ R, insR q d = true) ∧ (d ∈ Y → d ∉ X → d ∈ G ∨ ∃ q ∈ R, insR q d = true)
  unl : ∀ q ∈ R, q.listed = false → ∃ r ∈ l, r.listed = false ∧ Within q r ∧ 8 < (ownR Y r).length ∧ (ownR Y q).length ≤ ((ownR Y r).length + 1) / 2
  nil : (∀ r ∈ l, r.listed = true) → R = []
  wit : ∀ q ∈ R, ∃ r ∈ l, r.listed = false ∧ Within q r
theorem own_insR {X : List (List UInt8)} {r : Rg} {d : List UInt8} : d ∈ ownR X r ↔ d ∈ X ∧ insR r d = true := by
  unfold ownR own insR
  rw [List.mem_filter]
theorem part_unl {Y : List (List UInt8)} (hY : Asc Y) {r : Rg} (hok : r.ok) {q : Rg} (hq : q ∈ partR r (ownR Y r)) (hu : q.listed = false) : 8 < (ownR Y r).length ∧ (ownR Y q).length ≤ ((ownR Y r).length + 1) / 2 := by
  unfold partR at hq
  split at hq
  · cases hq
  · split at hq
    · cases hq
    · split at hq
      · rename_i h8
        rw [List.mem_singleton] at hq
        subst hq
        unfold descR at hu
        rw [if_neg (by omega)] at hu
        cases hu
      · rename_i h8
        have h8 : 8 < (own Y r.low r.high).length := by unfold ownR at h8; omega
        refine ⟨h8, ?_⟩
        simp only [List.mem_cons, List.not_mem_nil, or_false] at hq
        rcases hq with rfl | rfl
        · show (own Y r.low (midD (own Y r.low r.high))).length ≤ ((own Y r.low r.high).length + 1) / 2
          rw [own_half1 hY hok.1 h8, List.length_take]
          omega
        · show (own Y (midD (own Y r.low r.high)) r.high).length ≤ ((own Y r.low r.high).length + 1) / 2
          rw [own_half2 hY h8, List.length_drop]
          omega
theorem ans_stp {X Y : List (List UInt8)} (hX : Asc X) (hY : Asc Y) (dY : Dok Y) {l : List Rg} (hf : ∀ r ∈ l, Fine X r) (hs : l.Pairwise Sep) :
    Stp X Y l (l.flatMap fun r => partR r (ownR Y r)) (l.flatMap fun r => partW r (ownR Y r)) (l.flatMap fun r => partG r (ownR Y r)) := by
  obtain ⟨h1, h2, h3⟩ := ans_fine hY dY (fun r hr => ⟨(hf r hr).ok, (hf r hr).val⟩) hs
  have hw : ∀ d, d ∈ l.flatMap (fun r => partW r (ownR Y r)) → ∃ r ∈ l, r.listed = true ∧ insR r d = true ∧ d ∈ X ∧ d ∉ Y := by
    intro d hd
    obtain ⟨r, hr, hl, h4, h5⟩ := wants_mem.1 hd
    rw [((hf r hr).lst hl).1, own_insR] at h4
    exact ⟨r, hr, hl, h4.2, h4.1, fun hy => h5 (own_insR.2 ⟨hy, h4.2⟩)⟩
  have hg : ∀ d, d ∈ l.flatMap (fun r => partG r (ownR Y r)) → ∃ r ∈ l, r.listed = true ∧ insR r d = true ∧ d ∈ Y ∧ d ∉ X := by
    intro d hd
    obtain ⟨r, hr, hl, h4, h5⟩ := gives_mem.1 hd
    rw [own_insR] at h4
    rw [((hf r hr).lst hl).1, own_insR] at h5
    exact ⟨r, hr, hl, h4.2, h4.1, fun hx => h5 ⟨hx, h4.2⟩⟩
  refine ⟨fun q hq => (h1 q hq).1, h2, h3, ?_, ?_, ?_, ?_, ?_, ?_, ?_, ?_, ?_, fun q hq => ?_⟩
  · intro d hd
    obtain ⟨_, _, _, _, h⟩ := hw d hd
    exact h
  · intro d hd
    obtain ⟨_, _, _, _, h⟩ := hg d hd
    exact h
  · refine nodup_parts hs (fun r hr => ?_) fun r hr d hd => ?_
    · unfold partW
      split
      · rename_i hl
        rw [((hf r hr).lst hl).1]
        exact ((own_asc hX).filter _).nodup
      · exact List.Pairwise.nil
    · unfold partW at hd
      split at hd
      · rename_i hl
        have := (without_mem.1 hd).1
        rw [((hf r hr).lst hl).1, own_insR] at this
        exact this.2
      · cases hd
  · refine nodup_parts hs (fun r hr => ?_) fun r hr d hd => ?_
    · unfold partG
      split
      · exact ((own_asc hY).filter _).nodup
      · exact List.Pairwise.nil
    · unfold partG at hd
      split at hd
      · exact (own_insR.1 (without_mem.1 hd).1).2
      · cases hd
  · intro d hd
    have : ∃ r ∈ l, r.listed = true ∧ insR r d = true := by
      rcases hd with hd | hd
      · obtain ⟨r, hr, hl, hi, _⟩ := hw d hd
        exact ⟨r, hr, hl, hi⟩
      · obtain ⟨r, hr, hl, hi, _⟩ := hg d hd
        exact ⟨r, hr, hl, hi⟩
    obtain ⟨r, hr, hl, hi⟩ := this
    refine ⟨⟨r, hr, hi⟩, fun q hq => ?_⟩
    obtain ⟨_, s, hs', hws, hls⟩ := h1 q hq
    rw [Bool.eq_false_iff]
    intro hqd
    have := sep_same hs hr hs' hi (hws.ins d hqd)
    rw [this, hls] at hl
    cases hl
  · intro d hd q hq
    obtain ⟨_, s, hs', hws, _⟩ := h1 q hq
    rw [Bool.eq_false_iff]
    intro hqd
    have h4 := hws.ins d hqd
    rw [hd s hs'] at h4
    cases h4
  · intro hn d ⟨r, hr, hi⟩
    have hcov : r.listed = false → (¬ (d ∈ X ↔ d ∈ Y)) → ∃ q ∈ l.flatMap (fun r => partR r (ownR Y r)), insR q d = true := by
      intro hl hne
      have hsp : sameP r (ownR Y r) = false := by
        rw [Bool.eq_false_iff]
        intro hsp
        unfold sameP at hsp
        simp only [Bool.and_eq_true, decide_eq_true_eq] at hsp
        obtain ⟨h4, h5⟩ := hsp
        obtain ⟨_, h6, h7⟩ := (hf r hr).unl hl
        have he := hn r.low r.high (by rw [h6] at h4; exact Int.natCast_inj.1 h4) (by rw [h7] at h5; exact h5)
        apply hne
        have : d ∈ ownR X r ↔ d ∈ ownR Y r := by unfold ownR; rw [he]
        rw [own_insR, own_insR] at this
        constructor
        · intro h; exact (this.1 ⟨h, hi⟩).1
        · intro h; exact (this.2 ⟨h, hi⟩).1
      obtain ⟨q, hq, hqd⟩ := part_covers hl hsp hi
      exact ⟨q, List.mem_flatMap.2 ⟨r, hr, hq⟩, hqd⟩
    refine ⟨fun hx hy => ?_, fun hy hx => ?_⟩
    · cases hl : r.listed
      · exact .inr (hcov hl fun h => hy (h.1 hx))
      · exact .inl (wants_mem.2 ⟨r, hr, hl, by rw [((hf r hr).lst hl).1]; exact own_insR.2 ⟨hx, hi⟩, fun h => hy (own_insR.1 h).1⟩)
    · cases hl : r.listed
      · exact .inr (hcov hl fun h => hx (h.2 hy))
      · exact .inl (gives_mem.2 ⟨r, hr, hl, own_insR.2 ⟨hy, hi⟩, by rw [((hf r hr).lst hl).1]; exact fun h => hx (own_insR.1 h).1⟩)
  · intro q hq hu
    obtain ⟨r, hr, hq'⟩ := List.mem_flatMap.1 hq
    obtain ⟨_, h5, h6⟩ := (part_fine hY dY (hf r hr).ok (hf r hr).val).1 q hq'
    exact ⟨r, hr, h6, h5, part_unl hY (hf r hr).ok hq' hu⟩
  · intro hall
    rw [List.flatMap_eq_nil_iff]
    intro r hr
    unfold partR
    rw [if_pos (hall r hr)]
  · obtain ⟨_, s, hs', hws, hls⟩ := h1 q hq
    exact ⟨s, hs', hls, hws⟩

/-! the exchange -/
structure Ex (a b : List (List UInt8)) (k : Nat) (s : Rs) : Prop where
  fine : ∀ r ∈ s.l, Fine (if s.c % 2 = 0 then a else b) r
  sep : s.l.Pairwise Sep
  m0 : ∀ d ∈ s.m0, d ∈ b ∧ d ∉ a
  m1 : ∀ d ∈ s.m1, d ∈ a ∧ d ∉ b
  n0 : s.m0.Nodup
  n1 : s.m1.Nodup
  o0 : ∀ d ∈ s.m0, ∀ r ∈ s.l, insR r d = false
  o1 : ∀ d ∈ s.m1, ∀ r ∈ s.l, insR r d = false
  cov : NoColl a b → ∀ d, (d ∈ b → d ∉ a → d ∈ s.m0 ∨ ∃ r ∈ s.l, insR r d = true) ∧ (d ∈ a → d ∉ b → d ∈ s.m1 ∨ ∃ r ∈ s.l, insR r d = true)
  bnd : ∀ r ∈ s.l, r.listed = false → (ownR b r).length ≤ 8 * 2 ^ (k - (s.c + 1) / 2) ∧ (s.c % 2 = 1 → (s.c + 1) / 2 ≤ k)
theorem NoColl.symm {X Y : List (List UInt8)} (h : NoColl X Y) : NoColl Y X := fun low high h1 h2 => (h low high h1.symm h2.symm).symm
theorem own_all {a : List (List UInt8)} (h : Dok a) : own a zeroD zeroD = a := by
  unfold own
  rw [List.filter_eq_self]
  intro d hd
  exact insB_iff.2 ⟨zero_le (h d hd), .inl rfl⟩
theorem start_fine {a : List (List UInt8)} (ha : Asc a) (da : Dok a) : ∀ r ∈ startR a, Fine a r := by
  intro r hr
  unfold startR ascB at hr
  rw [if_pos (decide_eq_true ha), List.mem_singleton] at hr
  subst hr
  unfold descR
  split
  · exact ⟨⟨(rfl : zeroD.length = 32), (rfl : zeroD.length = 32), printD_len _, (fun _ h => by cases h)⟩, .inl rfl, fun h => (by cases h), fun _ => ⟨rfl, by show (a.length : Int) = _; unfold ownR; rw [show (summR zeroD zeroD a).low = zeroD from rfl, show (summR zeroD zeroD a).high = zeroD from rfl, own_all da], by show printD a = _; unfold ownR; rw [show (summR zeroD zeroD a).low = zeroD from rfl, show (summR zeroD zeroD a).high = zeroD from rfl, own_all da]⟩⟩
  · rename_i h8
    exact ⟨⟨(rfl : zeroD.length = 32), (rfl : zeroD.length = 32), (rfl : zeroD.length = 32), da⟩, .inl rfl, fun _ => ⟨by show a = _; unfold ownR; rw [show (listR zeroD zeroD a).low = zeroD from rfl, show (listR zeroD zeroD a).high = zeroD from rfl, own_all da], rfl, rfl, by show a.length ≤ 8; omega⟩, (fun h => by cases h)⟩
theorem start_covers {a : List (List UInt8)} (ha : Asc a) {d : List UInt8} (hd : d.length = 32) : ∃ r ∈ startR a, insR r d = true := by
  unfold startR ascB
  rw [if_pos (decide_eq_true ha)]
  refine ⟨_, List.mem_singleton.2 rfl, ?_⟩
  have e : insB zeroD zeroD d = true := insB_iff.2 ⟨zero_le hd, .inl rfl⟩
  unfold descR
  split <;> exact e
theorem own_mono {b : List (List UInt8)} {q r : Rg} (h : Within q r) : (ownR b q).length ≤ (ownR b r).length := by
  unfold ownR own
  rw [← List.countP_eq_length_filter, ← List.countP_eq_length_filter]
  exact List.countP_mono_left fun d _ hd => h.ins d hd
theorem ansD_ok {Y : List (List UInt8)} {l : List Rg} (hY : Asc Y) (h : checkR l = 0) : ansD Y l = ⟨l.flatMap fun r => partR r (ownR Y r), l.flatMap fun r => partW r (ownR Y r), l.flatMap fun r => partG r (ownR Y r), 0⟩ := by
  unfold ansD ascB
  rw [if_pos (decide_eq_true hY), if_pos h]
theorem ex_start {a b : List (List UInt8)} (ha : Asc a) (da : Dok a) (db : Dok b) {k : Nat} (hk : b.length ≤ 8 * 2 ^ k) : Ex a b k (itR a b 0) := by
  refine ⟨start_fine ha da, ?_, (fun _ h => by cases h), (fun _ h => by cases h), List.Pairwise.nil, List.Pairwise.nil, (fun _ h => by cases h), (fun _ h => by cases h), fun _ d => ⟨fun h1 _ => .inr (start_covers ha (db d h1)), fun h1 _ => .inr (start_covers ha (da d h1))⟩, fun r _ _ => ⟨?_, (fun h => by cases h)⟩⟩
  · show (startR a).Pairwise Sep
    unfold startR
    split
    · exact List.pairwise_singleton _ _
    · exact List.Pairwise.nil
  · have : (ownR b r).length ≤ b.length := List.length_filter_le _ _
    show _ ≤ 8 * 2 ^ (k - (0 + 1) / 2)
    simp only [Nat.sub_zero, show (0 + 1) / 2 = 0 from rfl]
    omega
section
variable {a b : List (List UInt8)} (ha : Asc a) (hb : Asc b) (da : Dok a) (db : Dok b) (la : a.length ≤ 1000000) (lb : b.length ≤ 1000000) {k : Nat}
include ha hb da db la lb
theorem ex_step {s : Rs} (h : Ex a b k s) (hl : s.l.length ≤ 1000) (h0 : s.l.length ≠ 0) : Ex a b k (stepR a b s) ∧ (stepR a b s).l.length ≤ 2 * s.l.length ∧ (stepR a b s).c = s.c + 1 ∧ ((∀ r ∈ s.l, r.listed = true) → (stepR a b s).l = []) := by
  have hf := h.fine
  have hbd := h.bnd
  unfold stepR
  rw [if_neg h0]
  rcases Nat.mod_two_eq_zero_or_one s.c with hc | hc
  · -- b answers
    have hc1 : ¬ (s.c + 1) % 2 = 0 := by omega
    rw [if_pos hc] at hf
    rw [if_neg hc1]
    have he := ansD_ok hb (checkR_ok (fun r hr => (hf r hr).one ha la) h.sep hl)
    have hst := ans_stp ha hb db hf h.sep
    rw [he, if_pos rfl]
    dsimp only
    generalize s.l.flatMap (fun r => partR r (ownR b r)) = R at hst
    generalize s.l.flatMap (fun r => partW r (ownR b r)) = W at hst
    generalize s.l.flatMap (fun r => partG r (ownR b r)) = G at hst
    refine ⟨⟨?_, hst.sep, ?_, ?_, ?_, ?_, ?_, ?_, ?_, ?_⟩, hst.len, rfl, hst.nil⟩
    · rw [if_neg hc1]; exact hst.fine
    · intro d hd
      rcases List.mem_append.1 hd with hd | hd
      · exact h.m0 d hd
      · exact hst.g d hd
    · intro d hd
      rcases List.mem_append.1 hd with hd | hd
      · exact h.m1 d hd
      · exact hst.w d hd
    · rw [List.nodup_append]
      refine ⟨h.n0, hst.gn, fun x hx y hy e => ?_⟩
      subst e
      obtain ⟨⟨r, hr, hi⟩, _⟩ := hst.ins x (.inr hy)
      rw [h.o0 x hx r hr] at hi; cases hi
    · rw [List.nodup_append]
      refine ⟨h.n1, hst.wn, fun x hx y hy e => ?_⟩
      subst e
      obtain ⟨⟨r, hr, hi⟩, _⟩ := hst.ins x (.inl hy)
      rw [h.o1 x hx r hr] at hi; cases hi
    · intro d hd
      rcases List.mem_append.1 hd with hd | hd
      · exact hst.out d (h.o0 d hd)
      · exact (hst.ins d (.inr hd)).2
    · intro d hd
      rcases List.mem_append.1 hd with hd | hd
      · exact hst.out d (h.o1 d hd)
      · exact (hst.ins d (.inl hd)).2
    · intro hn d
      obtain ⟨c0, c1⟩ := h.cov hn d
      refine ⟨fun h1 h2 => ?_, fun h1 h2 => ?_⟩
      · rcases c0 h1 h2 with hm | hr
        · exact .inl (List.mem_append_left _ hm)
        · rcases (hst.cov hn d hr).2 h1 h2 with hg | hq
          · exact .inl (List.mem_append_right _ hg)
          · exact .inr hq
      · rcases c1 h1 h2 with hm | hr
        · exact .inl (List.mem_append_left _ hm)
        · rcases (hst.cov hn d hr).1 h1 h2 with hg | hq
          · exact .inl (List.mem_append_right _ hg)
          · exact .inr hq
    · intro q hq hu
      obtain ⟨r, hr, hrl, _, h8, hle⟩ := hst.unl q hq hu
      obtain ⟨hb1, _⟩ := hbd r hr hrl
      dsimp only
      have hj : (s.c + 1 + 1) / 2 = (s.c + 1) / 2 + 1 := by omega
      rw [hj]
      generalize (s.c + 1) / 2 = j at hb1
      have hjk : j < k := by
        rcases Nat.lt_or_ge j k with hlt | hge
        · exact hlt
        · rw [Nat.sub_eq_zero_of_le hge] at hb1; omega
      obtain ⟨m, rfl⟩ : ∃ m, k = j + 1 + m := ⟨k - j - 1, by omega⟩
      rw [show j + 1 + m - j = m + 1 by omega, Nat.pow_succ] at hb1
      rw [show j + 1 + m - (j + 1) = m by omega]
      refine ⟨?_, fun _ => by omega⟩
      generalize 2 ^ m = p at hb1
      omega
  · have hc1 : (s.c + 1) % 2 = 0 := by omega
    rw [if_neg (show ¬ s.c % 2 = 0 by omega)] at hf
    rw [if_pos hc1]
    have he := ansD_ok ha (checkR_ok (fun r hr => (hf r hr).one hb lb) h.sep hl)
    have hst := ans_stp hb ha da hf h.sep
    rw [he, if_pos rfl]
    dsimp only
    generalize s.l.flatMap (fun r => partR r (ownR a r)) = R at hst
    generalize s.l.flatMap (fun r => partW r (ownR a r)) = W at hst
    generalize s.l.flatMap (fun r => partG r (ownR a r)) = G at hst
    refine ⟨⟨?_, hst.sep, ?_, ?_, ?_, ?_, ?_, ?_, ?_, ?_⟩, hst.len, rfl, hst.nil⟩
    · rw [if_pos hc1]; exact hst.fine
    · intro d hd
      rcases List.mem_append.1 hd with hd | hd
      · exact h.m0 d hd
      · exact hst.w d hd
    · intro d hd
      rcases List.mem_append.1 hd with hd | hd
      · exact h.m1 d hd
      · exact hst.g d hd
    · rw [List.nodup_append]
      refine ⟨h.n0, hst.wn, fun x hx y hy e => ?_⟩
      subst e
      obtain ⟨⟨r, hr, hi⟩, _⟩ := hst.ins x (.inl hy)
      rw [h.o0 x hx r hr] at hi; cases hi
    · rw [List.nodup_append]
      refine ⟨h.n1, hst.gn, fun x hx y hy e => ?_⟩
      subst e
      obtain ⟨⟨r, hr, hi⟩, _⟩ := hst.ins x (.inr hy)
      rw [h.o1 x hx r hr] at hi; cases hi
    · intro d hd
      rcases List.mem_append.1 hd with hd | hd
      · exact hst.out d (h.o0 d hd)
      · exact (hst.ins d (.inl hd)).2
    · intro d hd
      rcases List.mem_append.1 hd with hd | hd
      · exact hst.out d (h.o1 d hd)
      · exact (hst.ins d (.inr hd)).2
    · intro hn d
      obtain ⟨c0, c1⟩ := h.cov hn d
      refine ⟨fun h1 h2 => ?_, fun h1 h2 => ?_⟩
      · rcases c0 h1 h2 with hm | hr
        · exact .inl (List.mem_append_left _ hm)
        · rcases (hst.cov hn.symm d hr).1 h1 h2 with hg | hq
          · exact .inl (List.mem_append_right _ hg)
          · exact .inr hq
      · rcases c1 h1 h2 with hm | hr
        · exact .inl (List.mem_append_left _ hm)
        · rcases (hst.cov hn.symm d hr).2 h1 h2 with hg | hq
          · exact .inl (List.mem_append_right _ hg)
          · exact .inr hq
    · intro q hq hu
      obtain ⟨r, hr, hrl, hws⟩ := hst.wit q hq
      obtain ⟨hb1, _⟩ := hbd r hr hrl
      have hj : (s.c + 1 + 1) / 2 = (s.c + 1) / 2 := by omega
      dsimp only
      rw [hj]
      exact ⟨Nat.le_trans (own_mono hws) hb1, fun h => by omega⟩
theorem ex_all (hk : b.length ≤ 8 * 2 ^ k) : ∀ n, n ≤ 9 → Ex a b k (itR a b n) ∧ (itR a b n).l.length ≤ 2 ^ n ∧ ((itR a b n).l.length ≠ 0 → (itR a b n).c = n) ∧ (itR a b n).c ≤ n
  | 0, _ => ⟨ex_start ha da db hk, by show (startR a).length ≤ 1; unfold startR; split <;> simp, fun _ => rfl, Nat.le_refl _⟩
  | n + 1, h => by
    obtain ⟨h1, h2, h3, h4⟩ := ex_all hk n (by omega)
    show Ex a b k (stepR a b (itR a b n)) ∧ (stepR a b (itR a b n)).l.length ≤ _ ∧ ((stepR a b (itR a b n)).l.length ≠ 0 → (stepR a b (itR a b n)).c = _) ∧ (stepR a b (itR a b n)).c ≤ _
    by_cases h0 : (itR a b n).l.length = 0
    · have e : stepR a b (itR a b n) = itR a b n := by unfold stepR; rw [if_pos h0]
      rw [e]
      exact ⟨h1, by omega, fun q => absurd h0 q, by omega⟩
    · have hp : (2 : Nat) ^ n ≤ 2 ^ 8 := Nat.pow_le_pow_right (by decide) (by omega)
      obtain ⟨q1, q2, q3, _⟩ := ex_step ha hb da db la lb h1 (by omega) h0
      have := h3 h0
      rw [Nat.pow_succ]
      exact ⟨q1, by omega, fun _ => by omega, by omega⟩
/-- the exchange ends -/
theorem ex_end (hk : b.length ≤ 8 * 2 ^ k) (hk3 : k ≤ 3) : (itR a b (2 * k + 2)).l.length = 0 := by
  obtain ⟨h1, h2, h3, _⟩ := ex_all ha hb da db la lb hk (2 * k + 1) (by omega)
  show (stepR a b (itR a b (2 * k + 1))).l.length = 0
  by_cases h0 : (itR a b (2 * k + 1)).l.length = 0
  · unfold stepR; rw [if_pos h0]; exact h0
  · have hp : (2 : Nat) ^ (2 * k + 1) ≤ 2 ^ 8 := Nat.pow_le_pow_right (by decide) (by omega)
    obtain ⟨_, _, _, q⟩ := ex_step ha hb da db la lb h1 (by omega) h0
    rw [q fun r hr => ?_]
    · rfl
    · cases e : r.listed
      · have := (h1.bnd r hr e).2
        have hc := h3 h0
        omega
      · rfl
/-- everything that is known of the end of an exchange -/
theorem ex_final (hk : b.length ≤ 8 * 2 ^ k) (hk3 : k ≤ 3) : Ex a b k (itR a b 40) ∧ (itR a b 40).l.length = 0 ∧ (itR a b 40).c ≤ 2 * k + 2 := by
  have he := ex_end ha hb da db la lb hk hk3
  have := itR_stop' he (n := 40) (by omega)
  rw [this]
  obtain ⟨h1, _, _, h4⟩ := ex_all ha hb da db la lb hk (2 * k + 2) (by omega)
  exact ⟨h1, he, h4⟩
end
/-! the laws -/
theorem run_asc {a b : List (List UInt8)} (ha : Asc a) (hb : Asc b) : runR a b = (sortC (itR a b 40).m0, sortC (itR a b 40).m1, (itR a b 40).c) := by
  unfold runR ascB
  rw [decide_eq_true ha, decide_eq_true hb]
  rfl
theorem k_of {n : Nat} (h : n ≤ 60) : n ≤ 8 * 2 ^ 3 := by omega
section
variable {a b : List (List UInt8)} (ha : Asc a) (hb : Asc b) (da : Dok a) (db : Dok b) (la : a.length ≤ 60) (lb : b.length ≤ 60)
include ha hb da db la lb
theorem run_finds (hn : NoColl a b) : (runR a b).1 = withoutD b a ∧ (runR a b).2.1 = withoutD a b := by
  obtain ⟨h, he, _⟩ := ex_final ha hb da db (by omega) (by omega) (k_of lb) (by decide)
  have hl := List.length_eq_zero_iff.1 he
  rw [run_asc ha hb]
  refine ⟨asc_ext (sortC_asc _) (hb.filter _) fun d => ?_, asc_ext (sortC_asc _) (ha.filter _) fun d => ?_⟩
  · rw [sortC_mem]
    show _ ↔ d ∈ withoutD b a
    rw [without_mem]
    refine ⟨fun hd => h.m0 d hd, fun ⟨h1, h2⟩ => ?_⟩
    rcases (h.cov hn d).1 h1 h2 with hm | ⟨r, hr, _⟩
    · exact hm
    · rw [hl] at hr; cases hr
  · rw [sortC_mem]
    show _ ↔ d ∈ withoutD a b
    rw [without_mem]
    refine ⟨fun hd => h.m1 d hd, fun ⟨h1, h2⟩ => ?_⟩
    rcases (h.cov hn d).2 h1 h2 with hm | ⟨r, hr, _⟩
    · exact hm
    · rw [hl] at hr; cases hr
theorem run_never : (∀ d ∈ (runR a b).1, d ∈ b ∧ d ∉ a) ∧ (∀ d ∈ (runR a b).2.1, d ∈ a ∧ d ∉ b) ∧ Asc (runR a b).1 ∧ Asc (runR a b).2.1 := by
  obtain ⟨h, _, _⟩ := ex_final ha hb da db (by omega) (by omega) (k_of lb) (by decide)
  rw [run_asc ha hb]
  exact ⟨fun d hd => h.m0 d ((sortC_mem _ _).1 hd), fun d hd => h.m1 d ((sortC_mem _ _).1 hd), sortC_asc _, sortC_asc _⟩
theorem run_nodup : sortC (itR a b 40).m0 = sortD (itR a b 40).m0 ∧ sortC (itR a b 40).m1 = sortD (itR a b 40).m1 := by
  obtain ⟨h, _, _⟩ := ex_final ha hb da db (by omega) (by omega) (k_of lb) (by decide)
  exact ⟨sortC_nodup h.n0, sortC_nodup h.n1⟩
theorem run_count {k : Nat} (hk : b.length ≤ 8 * 2 ^ k) (hk3 : k ≤ 3) : 1 ≤ (runR a b).2.2 ∧ (runR a b).2.2 ≤ 2 + 2 * k ∧ (a.length ≤ 8 → (runR a b).2.2 = 1) := by
  obtain ⟨_, _, h4⟩ := ex_final ha hb da db (by omega) (by omega) hk hk3
  obtain ⟨h0, _, _, _⟩ := ex_all ha hb da db (by omega) (by omega) hk 0 (by omega)
  have hs1 : (itR a b 0).l.length = 1 := by show (startR a).length = 1; unfold startR ascB; rw [if_pos (decide_eq_true ha)]; rfl
  obtain ⟨_, _, q3, q4⟩ := ex_step ha hb da db (by omega) (by omega) h0 (by omega) (by omega)
  have hmono : ∀ n, 1 ≤ n → 1 ≤ (itR a b n).c := by
    suffices h : ∀ n, 1 ≤ (itR a b (n + 1)).c from fun n hn => by
      obtain ⟨m, rfl⟩ : ∃ m, n = m + 1 := ⟨n - 1, by omega⟩
      exact h m
    intro n
    induction n with
    | zero => show 1 ≤ (stepR a b (itR a b 0)).c; rw [q3]; omega
    | succ n ih =>
      show 1 ≤ (stepR a b (itR a b (n + 1))).c
      unfold stepR
      split
      · exact ih
      · split <;> split <;> dsimp only <;> omega
  rw [run_asc ha hb]
  have hm := hmono 40 (by decide)
  generalize hi : itR a b 40 = s40 at *
  refine ⟨hm, by dsimp only; omega, fun h8 => ?_⟩
  subst hi
  have hl1 : (itR a b 1).l.length = 0 := by
    show (stepR a b (itR a b 0)).l.length = 0
    rw [q4 fun r hr => ?_]
    · rfl
    · have hr : r ∈ startR a := hr
      unfold startR ascB at hr
      rw [if_pos (decide_eq_true ha), List.mem_singleton] at hr
      subst hr
      unfold descR
      rw [if_neg (by omega)]; rfl
  have := itR_stop' hl1 (n := 40) (by omega)
  rw [this]
  show (stepR a b (itR a b 0)).c = 1
  rw [q3]; rfl
end
/-- a run of digests of an ascending list: where it lies -/
theorem own_run {s : List (List UInt8)} (hs : Asc s) (low high : List UInt8) : ∃ i, own s low high = (s.drop i).take (own s low high).length ∧ i + (own s low high).length ≤ s.length := by
  induction s with
  | nil => exact ⟨0, rfl, by simp [own]⟩
  | cons x s ih =>
    have hc := List.pairwise_cons.1 hs
    obtain ⟨i, h1, h2⟩ := ih hc.2
    by_cases hx : insB low high x = true
    · have e : own (x :: s) low high = x :: own s low high := by unfold own; rw [List.filter_cons_of_pos hx]
      rcases Nat.eq_zero_or_pos (own s low high).length with h0 | hp
      · have hn := List.length_eq_zero_iff.1 h0
        exact ⟨0, by rw [e, hn]; rfl, by rw [e, hn]; simp⟩
      · -- the next one lies in it too
        refine ⟨0, ?_, by rw [e, List.length_cons, List.length_cons]; omega⟩
        rw [e, List.drop_zero, List.length_cons, List.take_succ_cons]
        congr 1
        have hi0 : i = 0 := by
          rcases Nat.eq_zero_or_pos i with h | h
          · exact h
          · exfalso
            have hlen : i < s.length := by omega
            -- s[0] lies between x and s[i], which both lie in the range
            have hsi : s[i] ∈ own s low high := by
              rw [h1]
              refine List.mem_iff_getElem.2 ⟨0, by simp; omega, by simp⟩
            have h00 : s[0] ∈ own s low high := by
              rw [own_mem]
              have hq := own_mem.1 hsi
              have hxq := insB_iff.1 hx
              have hp := hc.2
              rw [List.pairwise_iff_getElem] at hp
              have hlt := hp 0 i (by omega) hlen h
              refine ⟨List.getElem_mem _, Int.le_of_lt (leD_ltD hxq.1 (hc.1 _ (List.getElem_mem _))), hq.2.2.imp id fun q => ltD_trans hlt q⟩
            rw [h1] at h00
            obtain ⟨j, hj, hej⟩ := List.mem_iff_getElem.1 h00
            simp only [List.length_take, List.length_drop] at hj
            rw [List.getElem_take, List.getElem_drop] at hej
            have hp := hc.2
            rw [List.pairwise_iff_getElem] at hp
            have hlt := hp 0 (i + j) (by omega) (by omega) (by omega)
            rw [hej] at hlt
            exact ltD_irrefl _ hlt
        rw [hi0, List.drop_zero] at h1
        exact h1
    · have e : own (x :: s) low high = own s low high := by unfold own; rw [List.filter_cons_of_neg hx]
      exact ⟨i + 1, by rw [e]; exact h1, by rw [e, List.length_cons]; omega⟩
end Go.Proofs.YtebgopdmeghmhaaGreat
