/- Peeling: the plain laws. quiltref47.first. -/
import Derived.Test.YtfligkncdlocaaaIbAlg
namespace Go.Proofs.Ytfligkncdlocaaa
open Go.RowKit

theorem any_false {t : List Cl} {p : Cl → Bool} (h : ∀ i, i < t.length → p (t.getD i Cl.zero) = false) : t.any p = false := by
  rw [List.any_eq_false]
  intro c hc
  obtain ⟨i, hi, rfl⟩ := List.mem_iff_getElem.1 hc
  have := h i hi
  rw [List.getD_eq_getElem?_getD, List.getElem?_eq_getElem hi] at this
  simp only [Option.getD_some] at this
  rw [this]; exact Bool.false_ne_true
theorem of_any_false {t : List Cl} {p : Cl → Bool} (h : t.any p = false) {i : Nat} (hi : i < t.length) : p (t.getD i Cl.zero) = false := by
  rw [List.any_eq_false] at h
  rw [List.getD_eq_getElem?_getD, List.getElem?_eq_getElem hi]
  exact Bool.eq_false_iff.2 (h _ (List.getElem_mem hi))
theorem firstP_is {t : List Cl} {i : Nat} (h : firstP t = some i) : i < t.length ∧ pureB t i = true := by
  unfold firstP at h
  rw [List.find?_range_eq_some] at h
  exact ⟨List.mem_range.1 h.2.1, h.1⟩
theorem firstP_no {t : List Cl} (h : firstP t = none) {i : Nat} (hi : i < t.length) : pureB t i = false := by
  unfold firstP at h
  rw [List.find?_range_eq_none] at h
  simpa using h i hi
theorem pureB_n {t : List Cl} {i : Nat} (h : pureB t i = true) : (t.getD i Cl.zero).n = 1 ∨ (t.getD i Cl.zero).n = -1 := by
  unfold pureB at h
  simp only [Bool.and_eq_true, Bool.or_eq_true, beq_iff_eq] at h
  exact h.1
theorem sortD_one (d : List UInt8) : sortD [d] = [d] := List.mergeSort_singleton d
theorem sortD_nil : sortD [] = [] := List.mergeSort_nil
theorem checkT_of {t : List Cl} (ha : allowedB t.length = true) (hc : ∀ i, i < t.length → countsB (t.getD i Cl.zero).n = true) : checkT t = 0 := by
  unfold checkT
  rw [if_pos ha, any_false (fun i hi => by rw [hc i hi]; rfl)]; rfl
theorem counts_small {n : Int} (h : -1000000 ≤ n ∧ n ≤ 1000000) : countsB n = true := by
  unfold countsB
  rw [decide_eq_true (by omega), decide_eq_true (by omega)]; rfl
theorem all_zero {t : List Cl} (h : ∀ i, i < t.length → t.getD i Cl.zero = Cl.zero) : firstP t = none ∧ t.any (fun c => !c.eqB Cl.zero) = false := by
  refine ⟨firstP_none fun j hj => ?_, any_false fun i hi => ?_⟩
  · unfold pureB
    rw [h j hj]; rfl
  · rw [h i hi, (Cl.eqB_iff _ _).2 rfl]; rfl
theorem ctr_pure {d : List UInt8} {q : Int} (hq : q = 1 ∨ q = -1) {t : List Cl} (h : ∀ i, i < t.length → t.getD i Cl.zero = ctr d q t.length i) {i : Nat} (hi : i < t.length) : pureB t i = incB d t.length i := by
  unfold pureB
  rw [h i hi]
  unfold ctr
  cases hb : incB d t.length i
  · rfl
  · simp only [if_true]
    have e : (q == 1 || q == -1) = true := by rcases hq with rfl | rfl <;> rfl
    rw [e]
    simp only [decide_true, Bool.true_and]
    exact hb
/-- the table of one digest -/
theorem peel_one {d : List UInt8} (hd : d.length = 32) {q : Int} (hq : q = 1 ∨ q = -1) {t : List Cl} (ha : allowedB t.length = true) (ht : Tnok t) (h : ∀ i, i < t.length → t.getD i Cl.zero = ctr d q t.length i) :
    peelT t = (if q = 1 then [d] else [], if q = 1 then [] else [d], true) := by
  have hal := allowedB_iff.1 ha
  have h3 : 3 ≤ t.length := by omega
  have hck : checkT t = 0 := checkT_of ha fun i hi => by
    rw [h i hi]
    unfold ctr
    split
    · rcases hq with rfl | rfl <;> rfl
    · rfl
  obtain ⟨i, hf⟩ : ∃ i, firstP t = some i := by
    cases e : firstP t with
    | some i => exact ⟨i, rfl⟩
    | none =>
      have p0 := posN_lt (d := d) (n := t.length) (part := 0) (by omega) h3
      have := firstP_no e p0
      rw [ctr_pure hq h p0, incB_iff.2 (.inl rfl)] at this
      cases this
  obtain ⟨hi, hp⟩ := firstP_is hf
  have hinc : incB d t.length i = true := by rw [← ctr_pure hq h hi]; exact hp
  have hci : t.getD i Cl.zero = ⟨q, d, sumL d⟩ := by rw [h i hi]; unfold ctr; rw [if_pos hinc]
  have hwq : wrap64 (-q) = -q := by unfold wrap64; omega
  have hp1 : peelN 1 ⟨t, [], []⟩ = ⟨putT t d (-q), if q = 1 then [d] else [], if q = 1 then [] else [d]⟩ := by
    show peel1 ⟨t, [], []⟩ = _
    unfold peel1
    rw [hf]
    show peelAt ⟨t, [], []⟩ i = _
    unfold peelAt
    simp only [hci, hwq, List.nil_append]
  have hz : ∀ j, j < (putT t d (-q)).length → (putT t d (-q)).getD j Cl.zero = Cl.zero := fun j hj => by
    rw [putT_len] at hj
    rw [putT_get ht h3, h j hj]
    rcases hq with rfl | rfl
    · rw [ctr_neg, Cl.add_neg (ctr_ok hd 1 _ _)]
    · show (ctr d (-1) t.length j).add (ctr d 1 t.length j) = Cl.zero
      rw [ctr_neg, Cl.add_comm, Cl.add_neg (ctr_ok hd 1 _ _)]
  obtain ⟨hz1, hz2⟩ := all_zero hz
  have hN : peelN t.length ⟨t, [], []⟩ = peelN 1 ⟨t, [], []⟩ := peelN_stop' (by rw [hp1]; exact hz1) (by omega)
  unfold peelT
  rw [if_pos hck, hN, hp1]
  simp only [hz2, Bool.false_eq_true, if_false]
  rcases hq with rfl | rfl
  · simp only [if_true, sortD_one, sortD_nil]
  · simp only [if_neg (show ¬ ((-1 : Int) = 1) by omega), sortD_one, sortD_nil]
theorem newT_get (n : Int) (i : Nat) : (newT n).getD i Cl.zero = Cl.zero := by
  unfold newT
  split
  · exact zeros_get _ _
  · rfl
theorem newT_nok (n : Int) : Tnok (newT n) := by
  unfold newT
  split
  · exact zeros_nok _
  · intro c hc; cases hc
theorem newT_len {n : Int} (h : allowedB n = true) : (newT n).length = n.toNat := by unfold newT; rw [if_pos h]; simp
theorem ofFold_new {n : Int} (hn : allowedB n = true) {l : List (List UInt8)} (hl : Dok l) (i : Nat) : (ofFold (newT n) l).getD i Cl.zero = csum n.toNat i l := by
  have hal := allowedB_iff.1 hn
  rw [ofFold_get hl (newT_nok n) (by rw [newT_len hn]; omega), newT_get, newT_len hn, Cl.zero_add (csum_ok hl _ _)]
theorem csum_one {d : List UInt8} (hd : d.length = 32) (n i : Nat) : csum n i [d] = ctr d 1 n i := Cl.add_zero (ctr_nok hd wrap64_1 n i)
end Go.Proofs.Ytfligkncdlocaaa
namespace Go.Proofs.Ytfligkncdlocaaa
open Go.RowKit

theorem pur_eq {t : List Cl} (h3 : 3 ≤ t.length) (hm3 : t.length % 3 = 0) {i : Nat} (hi : i < t.length) : purR t i = pureB t i := by
  unfold purR pureB
  congr 2
  rw [Bool.eq_iff_iff]
  simp only [decide_eq_true_eq, List.any_eq_true, List.mem_range, beq_iff_eq]
  constructor
  · intro h
    refine ⟨i / (t.length / 3), ?_, h⟩
    rw [Nat.div_lt_iff_lt_mul (by omega)]
    omega
  · rintro ⟨p, _, h⟩
    have hd := posN_div (t.getD i Cl.zero).k h3 p
    rw [h] at hd
    rw [hd, h]
def firstI (t : List Cl) : Int := match firstP t with
  | none => -1
  | some i => i
set_option maxRecDepth 100000 in
set_option maxHeartbeats 1000000 in
theorem ref47_first {S : Nat → Prop} (w : World) (v : Value) (t : List Cl) (h : TabR S w v t) (hl3 : 3 ≤ t.length) (hm : t.length ≤ 1000000) (hm3 : t.length % 3 = 0) :
    Calls Try.prog 34 #[v] w fun e w' => e = .returned (.int .i64 (firstI t)) ∧ Below w.heap.size w w' := by
  obtain ⟨o, c, rfl⟩ : ∃ o c, v = .slice o t.length c := by obtain ⟨⟨o, c, e, _⟩, _⟩ := h; rw [tabC_size] at e; exact ⟨o, c, e⟩
  have Hm3 := Lib.hid hm3
  clear hm3
  go_enter Try.func34, Try.ntmps34
  go_wp2
  go_loopw [3] (fun i wr => ∃ k : Nat, k ≤ t.length ∧ i = .int .i64 k ∧ (∀ j, j < k → pureB t j = false) ∧ Below w.heap.size w wr) (fun i _ => t.length - (intOf i).toNat)
  case atStart => exact ⟨0, by omega, rfl, (fun j h => by omega), Below.refl _ _⟩
  case round =>
    obtain ⟨k, hk, rfl, hno, hB⟩ := hrel
    by_cases hlt : k < t.length
    · have hlt' : (k : Int) < (t.length : Int) := by omega
      have hp := ref47_pure wr _ t k (h.below hB) hl3 hm Hm3.out hlt
      rw [pur_eq hl3 Hm3.out hlt] at hp
      have Hp := Lib.hid hp
      have Hno := Lib.hid hno
      clear hp hno
      go_wp2_with fail
      refine Hp.out.mono ?_
      rintro e w2 ⟨rfl, hb2⟩
      have hB2 := Below.then hB hb2 hB.size
      cases hpb : pureB t k
      · go_wp2
        go_roundw
        case rel =>
          refine ⟨k + 1, by omega, by go_num, fun j hj => ?_, hB2⟩
          rcases Nat.lt_succ_iff_lt_or_eq.1 hj with h1 | rfl
          · exact Hno.out j h1
          · exact hpb
        case measure => simp [intOf]; omega
      · have hf : firstI t = k := by unfold firstI; rw [firstP_some hlt hpb Hno.out]
        have Hf := Lib.hid hf
        clear hf
        go_wp2
        go_ret
        exact ⟨by rw [Hf.out]; rfl, hB2⟩
    · obtain rfl : t.length = k := by omega
      have hlt' : ¬ (t.length : Int) < (t.length : Int) := by omega
      have hf : firstI t = -1 := by unfold firstI; rw [firstP_none hno]
      have Hf := Lib.hid hf
      clear hf
      go_wp2
      go_ret
      exact ⟨by rw [Hf.out]; rfl, hB⟩
end Go.Proofs.Ytfligkncdlocaaa
