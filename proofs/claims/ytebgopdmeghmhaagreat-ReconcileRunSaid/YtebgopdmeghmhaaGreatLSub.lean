/- The plain laws of layer 47: the difference of two lists, restoring, a single digest, sides, order. No program in sight. The laws' helpers: size and subtract. -/
import Derived.Test.YtebgopdmeghmhaaGreatLPeel
import Derived.Test.YtebgopdmeghmhaaGreatLAw
namespace Go.Proofs.YtebgopdmeghmhaaGreat
open Go.RowKit

instance clAssoc : Std.Associative Cl.add := ⟨Cl.add_assoc⟩
instance clComm : Std.Commutative Cl.add := ⟨Cl.add_comm⟩
def subP (n : Int) (a b : List (List UInt8)) : List Cl := subL (ofFold (newT n) a) (ofFold (newT n) b)
theorem fold_len {n : Int} (hn : allowedB n = true) (l : List (List UInt8)) : (ofFold (newT n) l).length = n.toNat := by rw [ofFold_len, newT_len hn]
theorem subP_len {n : Int} (hn : allowedB n = true) (a b : List (List UInt8)) : (subP n a b).length = n.toNat := by
  unfold subP
  rw [subL_len (by rw [fold_len hn, fold_len hn]), fold_len hn]
theorem subP_get {n : Int} (hn : allowedB n = true) {a b : List (List UInt8)} (ha : Dok a) (hb : Dok b) {i : Nat} (hi : i < n.toNat) : (subP n a b).getD i Cl.zero = (csum n.toNat i a).add (csum n.toNat i b).neg := by
  unfold subP
  rw [subL_get (by rw [fold_len hn, fold_len hn]) i (by rw [fold_len hn]; exact hi), ofFold_new hn ha, ofFold_new hn hb]
theorem fold_check {n : Int} (hn : allowedB n = true) {a : List (List UInt8)} (ha : Dok a) (la : a.length ≤ 100000) : checkT (ofFold (newT n) a) = 0 := by
  have hal := allowedB_iff.1 hn
  refine checkT_of ?_ fun i hi => ?_
  · rw [fold_len hn, show ((n.toNat : Nat) : Int) = n from by omega]; exact hn
  · rw [ofFold_new hn ha]
    have := csum_n (n := n.toNat) (i := i) (l := a) (by omega)
    exact counts_small (by omega)
theorem subP_n {n : Int} (hn : allowedB n = true) {a b : List (List UInt8)} (ha : Dok a) (hb : Dok b) (la : a.length ≤ 100000) (lb : b.length ≤ 100000) {i : Nat} (hi : i < n.toNat) : countsB ((subP n a b).getD i Cl.zero).n = true := by
  rw [subP_get hn ha hb hi]
  have h1 := csum_n (n := n.toNat) (i := i) (l := a) (by omega)
  have h2 := csum_n (n := n.toNat) (i := i) (l := b) (by omega)
  refine counts_small ?_
  show _ ≤ wrap64 ((csum n.toNat i a).n + wrap64 (-(csum n.toNat i b).n)) ∧ wrap64 ((csum n.toNat i a).n + wrap64 (-(csum n.toNat i b).n)) ≤ _
  generalize (csum n.toNat i a).n = x at *
  generalize (csum n.toNat i b).n = y at *
  unfold wrap64
  omega
theorem sub_plain {n : Int} (hn : allowedB n = true) {a b : List (List UInt8)} (ha : Dok a) (hb : Dok b) (la : a.length ≤ 100000) (lb : b.length ≤ 100000) : subT (ofFold (newT n) a) (ofFold (newT n) b) = (subP n a b, 0) := by
  unfold subT
  rw [if_pos (fold_check hn ha la), if_pos (fold_check hn hb lb), if_pos (by rw [fold_len hn, fold_len hn])]
  have : (subL (ofFold (newT n) a) (ofFold (newT n) b)).any (fun c => !countsB c.n) = false := any_false fun i hi => by
    have hl := subP_len hn a b
    unfold subP at hl
    have := subP_n hn ha hb la lb (i := i) (by omega)
    unfold subP at this
    rw [this]; rfl
  rw [this]
  rfl
theorem subP_nok {n : Int} (hn : allowedB n = true) {a b : List (List UInt8)} (ha : Dok a) (hb : Dok b) : Tnok (subP n a b) := by
  intro c hc
  obtain ⟨i, hi, rfl⟩ := List.mem_iff_getElem.1 hc
  have hl := subP_len hn a b
  have := subP_get hn ha hb (i := i) (by omega)
  rw [List.getD_eq_getElem?_getD, List.getElem?_eq_getElem hi] at this
  simp only [Option.getD_some] at this
  rw [this]
  exact Cl.add_nok (csum_ok ha _ _).1 (Cl.neg_nok (csum_ok hb _ _).1).1
/-- two differences are the same if their cells are -/
theorem subP_ext {n : Int} (hn : allowedB n = true) {a b c d : List (List UInt8)} (ha : Dok a) (hb : Dok b) (hc : Dok c) (hd : Dok d) (h : ∀ i, i < n.toNat → (csum n.toNat i a).add (csum n.toNat i b).neg = (csum n.toNat i c).add (csum n.toNat i d).neg) : subP n a b = subP n c d := by
  refine tab_ext (by rw [subP_len hn, subP_len hn]) fun i hi => ?_
  rw [subP_len hn] at hi
  rw [subP_get hn ha hb hi, subP_get hn hc hd hi, h i hi]

/-! restores -/
theorem peelAt_sum {s : Ps} (hs : Tnok s.t) (h3 : 3 ≤ s.t.length) (hok : s.ok) {i : Nat} (hp : pureB s.t i = true) (j : Nat) :
    ((peelAt s i).t.getD j Cl.zero).add ((csum s.t.length j (peelAt s i).p).add (csum s.t.length j (peelAt s i).m).neg) = (s.t.getD j Cl.zero).add ((csum s.t.length j s.p).add (csum s.t.length j s.m).neg) := by
  have hc := hs.get i
  have hn := pureB_n hp
  unfold peelAt
  dsimp only
  generalize s.t.getD i Cl.zero = c at *
  have hdk : Dok [c.k] := by intro x hx; rw [List.mem_singleton.1 hx]; exact hc.1.1
  have hT := hs.get j
  have hP := csum_ok hok.2.1 s.t.length j
  have hM := csum_ok hok.2.2 s.t.length j
  have hC := ctr_ok hc.1.1 1 s.t.length j
  have hz := Cl.add_nok hT.1 (Cl.add_nok hP.1 (Cl.neg_nok hM.1).1).1
  rcases hn with hn | hn
  · rw [if_pos hn, if_pos hn, hn, wrap64_m1, putT_get hs h3, csum_append hdk, csum_one hc.1.1, ctr_neg]
    generalize s.t.getD j Cl.zero = T at *
    generalize csum s.t.length j s.p = P at *
    generalize csum s.t.length j s.m = M at *
    generalize ctr c.k 1 s.t.length j = C at *
    have e : (T.add C.neg).add ((P.add C).add M.neg) = (T.add (P.add M.neg)).add (C.add C.neg) := by ac_rfl
    rw [e, Cl.add_neg hC, Cl.add_zero hz]
  · have hn1 : ¬ c.n = 1 := by omega
    rw [if_neg hn1, if_neg hn1, hn, show wrap64 (- -1) = 1 from by unfold wrap64; omega, putT_get hs h3, csum_append hdk, csum_one hc.1.1, Cl.neg_add]
    generalize s.t.getD j Cl.zero = T at *
    generalize csum s.t.length j s.p = P at *
    generalize csum s.t.length j s.m = M at *
    generalize ctr c.k 1 s.t.length j = C at *
    have e : (T.add C).add (P.add (M.neg.add C.neg)) = (T.add (P.add M.neg)).add (C.add C.neg) := by ac_rfl
    rw [e, Cl.add_neg hC, Cl.add_zero hz]
theorem peelN_sum {t : List Cl} (ht : Tnok t) (h3 : 3 ≤ t.length) : ∀ k, Tnok (peelN k ⟨t, [], []⟩).t ∧ (peelN k ⟨t, [], []⟩).ok ∧
    ∀ j, ((peelN k ⟨t, [], []⟩).t.getD j Cl.zero).add ((csum t.length j (peelN k ⟨t, [], []⟩).p).add (csum t.length j (peelN k ⟨t, [], []⟩).m).neg) = t.getD j Cl.zero
  | 0 => ⟨ht, ⟨ht.ok, fun _ h => (by cases h), fun _ h => (by cases h)⟩, fun j => by
      show (t.getD j Cl.zero).add (Cl.zero.add Cl.zero.neg) = _
      rw [Cl.neg_zero, Cl.add_zero Cl.zero_nok, Cl.add_zero (ht.get j)]⟩
  | k + 1 => by
    obtain ⟨h1, h2, h4⟩ := peelN_sum ht h3 k
    have hl := peelN_len ⟨t, [], []⟩ k
    show Tnok (peel1 (peelN k ⟨t, [], []⟩)).t ∧ (peel1 (peelN k ⟨t, [], []⟩)).ok ∧ _
    rw [show peelN (k + 1) ⟨t, [], []⟩ = peel1 (peelN k ⟨t, [], []⟩) from rfl]
    generalize peelN k ⟨t, [], []⟩ = s at *
    dsimp only at hl
    unfold peel1
    cases hf : firstP s.t with
    | none => exact ⟨h1, h2, h4⟩
    | some i =>
      refine ⟨putT_nok h1 (by omega) (h1.get i).1.1 _, peelAt_ok h2 i, fun j => ?_⟩
      have := peelAt_sum h1 (by omega) h2 (firstP_is hf).2 j
      rw [hl] at this
      dsimp only
      rw [this, h4 j]
theorem peelT_dok {t : List Cl} (ht : Tnok t) : Dok (peelT t).1 ∧ Dok (peelT t).2.1 := by
  unfold peelT
  split
  · rename_i hck
    have hal := allowedB_iff.1 (checkT_len hck).1
    have h := (peelN_sum ht (by omega) t.length).2.1
    split
    · exact ⟨fun _ h => (by cases h), fun _ h => (by cases h)⟩
    · exact ⟨sortD_ok h.2.1, sortD_ok h.2.2⟩
  · exact ⟨fun _ h => (by cases h), fun _ h => (by cases h)⟩
theorem restores {t : List Cl} (ht : Tnok t) (h : (peelT t).2.2 = true) : allowedB t.length = true ∧ subP t.length (peelT t).1 (peelT t).2.1 = t := by
  have hd := peelT_dok ht
  unfold peelT at h hd ⊢
  by_cases hck : checkT t = 0
  · rw [if_pos hck] at h hd ⊢
    have ha := (checkT_len hck).1
    have hal := allowedB_iff.1 ha
    obtain ⟨h1, h2, h4⟩ := peelN_sum ht (by omega) t.length
    have hl := peelN_len ⟨t, [], []⟩ t.length
    generalize peelN t.length ⟨t, [], []⟩ = s at *
    cases hz : s.t.any (fun c => !c.eqB Cl.zero)
    · rw [hz] at hd
      rw [if_neg (by decide)] at hd ⊢
      dsimp only at hd ⊢
      refine ⟨ha, tab_ext (by rw [subP_len ha]; omega) fun i hi => ?_⟩
      rw [subP_len ha] at hi
      have hi' : i < s.t.length := by dsimp only at hl; omega
      rw [subP_get ha hd.1 hd.2 hi, csum_perm (sortD_perm s.p), csum_perm (sortD_perm s.m), ← h4 i]
      have hzi := of_any_false hz hi'
      have hzz : s.t.getD i Cl.zero = Cl.zero := (Cl.eqB_iff _ _).1 (by simpa using hzi)
      rw [hzz, show ((t.length : Int).toNat) = t.length from by omega, Cl.zero_add]
      exact Cl.add_nok (csum_ok h2.2.1 _ _).1 (Cl.neg_nok (csum_ok h2.2.2 _ _).1).1
    · rw [hz] at h; cases h
  · rw [if_neg hck] at h; cases h
theorem peelT_fail {t : List Cl} (h : (peelT t).2.2 = false) : (peelT t).1 = [] ∧ (peelT t).2.1 = [] := by
  unfold peelT at h ⊢
  repeat' split
  · exact ⟨rfl, rfl⟩
  · rename_i h1 h2; rw [if_pos h1, if_neg h2] at h; cases h
  · exact ⟨rfl, rfl⟩

/-! a single digest -/
theorem single1 {n : Int} (hn : allowedB n = true) {d : List UInt8} (hd : d.length = 32) : peelT (subP n [d] []) = ([d], [], true) := by
  have hdk : Dok [d] := by intro x hx; rw [List.mem_singleton.1 hx]; exact hd
  have hnk : Dok [] := fun _ h => by cases h
  have hl := subP_len hn [d] []
  have hal := allowedB_iff.1 hn
  have := peel_one hd (q := 1) (.inl rfl) (t := subP n [d] []) (by rw [hl, show ((n.toNat : Nat) : Int) = n from by omega]; exact hn) (subP_nok hn hdk hnk) (fun i hi => by
    rw [hl] at hi ⊢
    rw [subP_get hn hdk hnk hi, csum_one hd]
    show (ctr d 1 n.toNat i).add Cl.zero.neg = _
    rw [Cl.neg_zero, Cl.add_zero (ctr_nok hd wrap64_1 _ _)])
  simpa using this
theorem single2 {n : Int} (hn : allowedB n = true) {d : List UInt8} (hd : d.length = 32) : peelT (subP n [] [d]) = ([], [d], true) := by
  have hdk : Dok [d] := by intro x hx; rw [List.mem_singleton.1 hx]; exact hd
  have hnk : Dok [] := fun _ h => by cases h
  have hl := subP_len hn [] [d]
  have hal := allowedB_iff.1 hn
  have := peel_one hd (q := -1) (.inr rfl) (t := subP n [] [d]) (by rw [hl, show ((n.toNat : Nat) : Int) = n from by omega]; exact hn) (subP_nok hn hnk hdk) (fun i hi => by
    rw [hl] at hi ⊢
    rw [subP_get hn hnk hdk hi, csum_one hd, ctr_neg]
    show Cl.zero.add (ctr d 1 n.toNat i).neg = _
    rw [Cl.zero_add (Cl.neg_nok (ctr_ok hd 1 _ _))])
  simpa using this

/-! order -/
theorem order1 {n : Int} (hn : allowedB n = true) {a c : List (List UInt8)} (ha : Dok a) (hc : Dok c) : ofFold (newT n) (a ++ c) = ofFold (newT n) (c ++ a) := by
  have h1 : Dok (a ++ c) := fun x hx => (List.mem_append.1 hx).elim (ha x) (hc x)
  have h2 : Dok (c ++ a) := fun x hx => (List.mem_append.1 hx).elim (hc x) (ha x)
  refine tab_ext (by rw [fold_len hn, fold_len hn]) fun i _ => ?_
  rw [ofFold_new hn h1, ofFold_new hn h2]
  exact csum_perm List.perm_append_comm _ _
theorem order2 {n : Int} (hn : allowedB n = true) {a b c : List (List UInt8)} (ha : Dok a) (hb : Dok b) (hc : Dok c) : subP n a b = subP n (a ++ c) (c ++ b) := by
  have h1 : Dok (a ++ c) := fun x hx => (List.mem_append.1 hx).elim (ha x) (hc x)
  have h2 : Dok (c ++ b) := fun x hx => (List.mem_append.1 hx).elim (hc x) (hb x)
  refine subP_ext hn ha hb h1 h2 fun i _ => ?_
  rw [csum_append hc, csum_append hb, Cl.neg_add]
  have hz := Cl.add_nok (csum_ok ha n.toNat i).1 (Cl.neg_nok (csum_ok hb n.toNat i).1).1
  have hC := (csum_ok hc n.toNat i).1
  generalize csum n.toNat i a = A at *
  generalize csum n.toNat i b = B at *
  generalize csum n.toNat i c = C at *
  have e : (A.add C).add (C.neg.add B.neg) = (A.add B.neg).add (C.add C.neg) := by ac_rfl
  rw [e, Cl.add_neg hC, Cl.add_zero hz]

/-! sides -/
def negT (t : List Cl) : List Cl := t.map Cl.neg
theorem negT_get (t : List Cl) (i : Nat) : (negT t).getD i Cl.zero = (t.getD i Cl.zero).neg := by
  unfold negT
  rw [List.getD_eq_getElem?_getD, List.getD_eq_getElem?_getD, List.getElem?_map]
  cases t[i]? with
  | none => exact Cl.neg_zero.symm
  | some c => rfl
theorem negT_nok {t : List Cl} (h : Tnok t) : Tnok (negT t) := by
  intro c hc
  obtain ⟨x, hx, rfl⟩ := List.mem_map.1 hc
  exact Cl.neg_nok (h x hx).1
theorem negT_len (t : List Cl) : (negT t).length = t.length := List.length_map _
theorem neg_n {c : Cl} (h : c.nok) : wrap64 c.n = c.n := h.2
theorem pureB_neg {t : List Cl} (h : Tnok t) (i : Nat) : pureB (negT t) i = pureB t i := by
  have hc := (h.get i).2
  unfold pureB
  rw [negT_get, negT_len]
  generalize t.getD i Cl.zero = c at *
  have e : (c.neg.n == 1 || c.neg.n == -1) = (c.n == 1 || c.n == -1) := by
    show (wrap64 (-c.n) == 1 || wrap64 (-c.n) == -1) = _
    rw [Bool.eq_iff_iff]
    simp only [Bool.or_eq_true, beq_iff_eq]
    unfold wrap64 at *
    omega
  rw [e]
  rfl
theorem firstP_neg {t : List Cl} (h : Tnok t) : firstP (negT t) = firstP t := by
  unfold firstP
  rw [negT_len]
  congr 1
  funext i
  exact pureB_neg h i
theorem ctr_neg' {d : List UInt8} {q : Int} (n i : Nat) : ctr d (wrap64 (-q)) n i = (ctr d q n i).neg := by
  unfold ctr
  split
  · rfl
  · exact Cl.neg_zero.symm
theorem putT_neg {t : List Cl} (h : Tnok t) (h3 : 3 ≤ t.length) (d : List UInt8) (q : Int) : putT (negT t) d (wrap64 (-q)) = negT (putT t d q) := by
  refine tab_ext (by rw [putT_len, negT_len, negT_len, putT_len]) fun i _ => ?_
  rw [putT_get (negT_nok h) (by rw [negT_len]; exact h3), negT_get, negT_get, putT_get h h3, negT_len, Cl.neg_add, ctr_neg']
def Ps.neg (s : Ps) : Ps := ⟨negT s.t, s.m, s.p⟩
theorem peelAt_neg {s : Ps} (hs : Tnok s.t) (h3 : 3 ≤ s.t.length) {i : Nat} (hp : pureB s.t i = true) : peelAt s.neg i = (peelAt s i).neg := by
  have hn := pureB_n hp
  have hk : (s.t.getD i Cl.zero).neg.k = (s.t.getD i Cl.zero).k := rfl
  have hnn : (s.t.getD i Cl.zero).neg.n = wrap64 (-(s.t.getD i Cl.zero).n) := rfl
  unfold peelAt Ps.neg
  dsimp only
  rw [negT_get, hk, hnn]
  have hput := putT_neg hs h3 (s.t.getD i Cl.zero).k (wrap64 (-(s.t.getD i Cl.zero).n))
  rcases hn with hn | hn
  · rw [hn] at hput ⊢
    rw [hput, wrap64_m1, if_neg (by decide), if_neg (by decide), if_pos rfl, if_pos rfl]
  · rw [hn] at hput ⊢
    rw [hput, show wrap64 (- -1) = 1 from by unfold wrap64; omega, if_pos rfl, if_pos rfl, if_neg (by decide), if_neg (by decide)]
theorem peelN_neg {t : List Cl} (ht : Tnok t) (h3 : 3 ≤ t.length) : ∀ k, peelN k ⟨negT t, [], []⟩ = (peelN k ⟨t, [], []⟩).neg
  | 0 => rfl
  | k + 1 => by
    have ih := peelN_neg ht h3 k
    have h1 := (peelN_sum ht h3 k).1
    have hl := peelN_len ⟨t, [], []⟩ k
    show peel1 (peelN k ⟨negT t, [], []⟩) = (peel1 (peelN k ⟨t, [], []⟩)).neg
    rw [ih]
    generalize peelN k ⟨t, [], []⟩ = s at *
    dsimp only at hl
    unfold peel1
    rw [show s.neg.t = negT s.t from rfl, firstP_neg h1]
    cases hf : firstP s.t with
    | none => rfl
    | some i => exact peelAt_neg h1 (by omega) (firstP_is hf).2
theorem counts_neg {c : Cl} (h : c.nok) : countsB c.neg.n = countsB c.n := by
  have := h.2
  show countsB (wrap64 (-c.n)) = _
  unfold countsB
  rw [Bool.eq_iff_iff]
  simp only [Bool.and_eq_true, decide_eq_true_eq]
  unfold wrap64 at *
  omega
theorem any_neg {t : List Cl} (ht : Tnok t) {p : Cl → Bool} (hp : ∀ c : Cl, c.nok → p c.neg = p c) : (negT t).any p = t.any p := by
  unfold negT
  rw [Bool.eq_iff_iff, List.any_eq_true, List.any_eq_true]
  constructor
  · rintro ⟨c, hc, h⟩
    obtain ⟨x, hx, rfl⟩ := List.mem_map.1 hc
    exact ⟨x, hx, by rwa [hp x (ht x hx)] at h⟩
  · rintro ⟨x, hx, h⟩
    exact ⟨x.neg, List.mem_map_of_mem hx, by rw [hp x (ht x hx)]; exact h⟩
theorem checkT_neg {t : List Cl} (ht : Tnok t) : checkT (negT t) = checkT t := by
  unfold checkT
  rw [negT_len, any_neg ht fun c hc => by rw [counts_neg hc]]
theorem zero_neg {c : Cl} (hc : c.nok) : c.neg.eqB Cl.zero = c.eqB Cl.zero := by
  rw [Bool.eq_iff_iff, Cl.eqB_iff, Cl.eqB_iff]
  constructor
  · intro h; rw [← Cl.neg_neg hc, h, Cl.neg_zero]
  · intro h; rw [h, Cl.neg_zero]
theorem peelT_neg {t : List Cl} (ht : Tnok t) : peelT (negT t) = ((peelT t).2.1, (peelT t).1, (peelT t).2.2) := by
  unfold peelT
  rw [checkT_neg ht, negT_len]
  by_cases hck : checkT t = 0
  · rw [if_pos hck, if_pos hck]
    have hal := allowedB_iff.1 (checkT_len hck).1
    rw [peelN_neg ht (by omega)]
    have h1 := (peelN_sum ht (by omega) t.length).1
    generalize peelN t.length ⟨t, [], []⟩ = s at *
    rw [show s.neg.t = negT s.t from rfl, any_neg h1 fun c hc => by rw [zero_neg hc]]
    cases s.t.any (fun c => !c.eqB Cl.zero) <;> rfl
  · rw [if_neg hck, if_neg hck]
theorem subL_nok {a b : List Cl} (ha : Tok a) (hb : Tok b) : Tnok (subL a b) := by
  intro c hc
  obtain ⟨i, hi, rfl⟩ := List.mem_iff_getElem.1 hc
  have h := subL_ok ha hb _ (List.getElem_mem hi)
  refine ⟨h, ?_⟩
  simp only [subL, List.getElem_zipWith, subC, wrap64_idem]
theorem subL_neg (a b : List Cl) : subL b a = negT (subL a b) := by
  unfold subL negT
  rw [List.map_zipWith, List.zipWith_comm]
  congr 1
  funext x y
  exact subC_neg x y
theorem sides {a b : List Cl} (ha : Tok a) (hb : Tok b) : (subT b a).1 = negT (subT a b).1 ∧ ((subT a b).2 = 0 ↔ (subT b a).2 = 0) ∧ ((subT a b).2 ≠ 0 → (subT a b).1 = [] ∧ (subT b a).1 = []) := by
  have hn := subL_nok ha hb
  unfold subT
  by_cases h1 : checkT a = 0
  · by_cases h2 : checkT b = 0
    · rw [if_pos h1, if_pos h2, if_pos h2, if_pos h1]
      by_cases h3 : a.length = b.length
      · rw [if_pos h3, if_pos h3.symm, subL_neg a b, any_neg hn fun c hc => by rw [counts_neg hc]]
        cases (subL a b).any (fun c => !countsB c.n)
        · exact ⟨rfl, Iff.rfl, fun h => absurd rfl h⟩
        · exact ⟨rfl, Iff.rfl, fun _ => ⟨rfl, rfl⟩⟩
      · rw [if_neg h3, if_neg fun e => h3 e.symm]
        exact ⟨rfl, Iff.rfl, fun _ => ⟨rfl, rfl⟩⟩
    · simp only [if_pos h1, if_neg h2]
      exact ⟨rfl, by simp, by simp⟩
  · by_cases h2 : checkT b = 0
    · simp only [if_pos h2, if_neg h1]
      exact ⟨rfl, by simp, by simp⟩
    · simp only [if_neg h1, if_neg h2]
      exact ⟨rfl, by simp, by simp⟩
theorem subT_nok {a b : List Cl} (ha : Tok a) (hb : Tok b) : Tnok (subT a b).1 := by
  unfold subT
  repeat' split
  all_goals first | exact subL_nok ha hb | exact fun _ h => by cases h
end Go.Proofs.YtebgopdmeghmhaaGreat
namespace Go.Proofs.YtebgopdmeghmhaaGreat
open Go.RowKit

def sizeN (n : Int) : Int := 3 + 3 * (n % 20)
theorem sizeN_ok {n : Int} (_h : 0 ≤ n ∧ n ≤ 255) : allowedB (sizeN n) = true ∧ 3 ≤ sizeN n ∧ sizeN n ≤ 60 := by
  refine ⟨allowedB_iff.2 ?_, ?_, ?_⟩ <;> unfold sizeN <;> omega

































































end Go.Proofs.YtebgopdmeghmhaaGreat
