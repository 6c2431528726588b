/- reconcile.Quick; what its answer says of the two tables, plain. -/
import Derived.Test.YtebgopdmeghmhaaGreatLSub
import Derived.Test.YtebgopdmeghmhaaGreatRcAcc
import Derived.Test.YtebgopdmeghmhaaGreatRcAsc
namespace Go.Proofs.YtebgopdmeghmhaaGreat
open Go.RowKit

theorem peelN_small2 (t : List Cl) : ∀ k, (peelN k ⟨t, [], []⟩).p.length ≤ k ∧ (peelN k ⟨t, [], []⟩).m.length ≤ k
  | 0 => ⟨Nat.le_refl _, Nat.le_refl _⟩
  | k + 1 => by
    have ih := peelN_small2 t k
    show (peel1 (peelN k ⟨t, [], []⟩)).p.length ≤ _ ∧ (peel1 (peelN k ⟨t, [], []⟩)).m.length ≤ _
    generalize peelN k ⟨t, [], []⟩ = s at ih
    unfold peel1
    split
    · omega
    · unfold peelAt
      dsimp only
      constructor <;> split <;> (try rw [List.length_append, List.length_singleton]) <;> omega
theorem peelT_small2 (t : List Cl) : (peelT t).1.length ≤ t.length ∧ (peelT t).2.1.length ≤ t.length := by
  have h := peelN_small2 t t.length
  unfold peelT
  repeat' split
  · simp
  · rw [sortD_len, sortD_len]; exact h
  · simp
theorem subT_small2 {a b : List Cl} (h : a.length ≤ 1000000) : (subT a b).1.length ≤ 1000000 := by
  have hl : (subL a b).length ≤ 1000000 := by simp only [subL, List.length_zipWith]; omega
  unfold subT
  repeat' split
  all_goals first | exact hl | simp
def quickD (ids : List (List UInt8)) (t : List Cl) : List (List UInt8) × List (List UInt8) × Bool :=
  if ascB ids then
    (if (ofT t.length ids).2 = 0 then
      (if (subT (ofT t.length ids).1 t).2 = 0 then
        (if (peelT (subT (ofT t.length ids).1 t).1).2.2 then ((peelT (subT (ofT t.length ids).1 t).1).2.1, (peelT (subT (ofT t.length ids).1 t).1).1, true) else ([], [], false))
      else ([], [], false))
    else ([], [], false))
  else ([], [], false)
theorem quick_fail {ids : List (List UInt8)} {t : List Cl} (h : (quickD ids t).2.2 = false) : (quickD ids t).1 = [] ∧ (quickD ids t).2.1 = [] := by
  unfold quickD at h ⊢
  split
  · rename_i h1
    rw [if_pos h1] at h
    split
    · rename_i h2
      rw [if_pos h2] at h
      split
      · rename_i h3
        rw [if_pos h3] at h
        split
        · rename_i h4
          rw [if_pos h4] at h
          cases h
        · exact ⟨rfl, rfl⟩
      · exact ⟨rfl, rfl⟩
    · exact ⟨rfl, rfl⟩
  · exact ⟨rfl, rfl⟩
theorem cl_swap {A O M T : Cl} (hA : A.nok) (hO : O.nok) (hM : M.nok) (hT : T.nok) (h : A.add O.neg = M.add T.neg) : (A.add T).add M.neg = O := by
  have e1 : A = (M.add T.neg).add O := by
    rw [← h, Cl.add_assoc, Cl.add_comm O.neg O, Cl.add_neg hO.1, Cl.add_zero hA]
  rw [e1]
  have e2 : (((M.add T.neg).add O).add T).add M.neg = (M.add M.neg).add ((T.add T.neg).add O) := by
    letI : Std.Associative (α := Cl) Cl.add := ⟨Cl.add_assoc⟩
    letI : Std.Commutative (α := Cl) Cl.add := ⟨Cl.add_comm⟩
    ac_rfl
  rw [e2, Cl.add_neg hM.1, Cl.add_neg hT.1, Cl.zero_add hO, Cl.zero_add hO]
/-- with the table of some digests -/
theorem quick_law {ids other : List (List UInt8)} {n : Int} (hn : allowedB n = true) (hi : Dok ids) (ho : Dok other) (li : ids.length ≤ 60) (lo : other.length ≤ 60)
    (h : (quickD ids (ofFold (newT n) other)).2.2 = true) :
    Dok (quickD ids (ofFold (newT n) other)).1 ∧ Dok (quickD ids (ofFold (newT n) other)).2.1 ∧ subP n (ids ++ (quickD ids (ofFold (newT n) other)).1) (quickD ids (ofFold (newT n) other)).2.1 = ofFold (newT n) other ∧
      (quickD ids (ofFold (newT n) other)).1.length ≤ 50000 ∧ (quickD ids (ofFold (newT n) other)).2.1.length ≤ 50000 := by
  have hn0 : ((n.toNat : Nat) : Int) = n := by have := allowedB_iff.1 hn; omega
  have hln : (((ofFold (newT n) other).length : Nat) : Int) = n := by rw [fold_len hn, hn0]
  have e1 : ofT ((ofFold (newT n) other).length : Int) ids = (ofFold (newT n) ids, 0) := by rw [hln]; unfold ofT; rw [if_pos hn]
  have e2 : subT (ofFold (newT n) ids) (ofFold (newT n) other) = (subP n ids other, 0) := sub_plain hn hi ho (by omega) (by omega)
  unfold quickD at h ⊢
  rw [e1] at h ⊢
  simp only [e2] at h ⊢
  split at h
  · rename_i ha
    rw [if_pos ha]
    simp only [if_true] at h ⊢
    split at h
    · rename_i hp
      simp only [hp, if_true]
      have hnok := subP_nok hn hi ho
      have hd := peelT_dok hnok
      have hsm := peelT_small2 (subP n ids other)
      obtain ⟨_, hr⟩ := restores hnok hp
      rw [subP_len hn, hn0] at hr
      have hsl := subP_len hn ids other
      refine ⟨hd.2, hd.1, ?_, ?_, ?_⟩
      · generalize (peelT (subP n ids other)).1 = mine at *
        generalize (peelT (subP n ids other)).2.1 = theirs at *
        have hdok : Dok (ids ++ theirs) := fun d hx => (List.mem_append.1 hx).elim (hi d) (hd.2 d)
        refine tab_ext (by rw [subP_len hn, fold_len hn]) fun i hi' => ?_
        rw [subP_len hn] at hi'
        rw [subP_get hn hdok hd.1 hi', ofFold_new hn ho, csum_append hd.2]
        refine cl_swap (csum_ok hi _ _) (csum_ok ho _ _) (csum_ok hd.1 _ _) (csum_ok hd.2 _ _) ?_
        rw [← subP_get hn hi ho hi', ← subP_get hn hd.1 hd.2 hi', hr]
      · have := hsm.2; have := allowedB_iff.1 hn; omega
      · have := hsm.1; have := allowedB_iff.1 hn; omega
    · cases h
  · cases h
def QuickP (w : World) (x : List (List UInt8) × List (List UInt8) × Bool) (e : Ending) (w' : World) : Prop :=
  ∃ u v, e = .returned (.tuple #[u, v, .bool x.2.2]) ∧ DigR (New w w') w' u x.1 ∧ DigR (New w w') w' v x.2.1 ∧ Below w.heap.size w w'
set_option maxRecDepth 100000 in
set_option maxHeartbeats 2000000 in
theorem rc_Quick {S1 S2 : Nat → Prop} (w : World) (va : Value) (ids : List (List UInt8)) (h : DigR S1 w va ids) (vt : Value) (t : List Cl) (ht : TabR S2 w vt t) (hm : ids.length ≤ 1000000) (hmt : t.length ≤ 1000000) :
    Calls Tryz.prog 7 #[va, vt] w (QuickP w (quickD ids t)) := by
  obtain ⟨oi, ci, rfl⟩ : ∃ o c, va = .slice o ids.length c := by obtain ⟨⟨o, c, e, _⟩, _⟩ := h; rw [digC_size] at e; exact ⟨o, c, e⟩
  obtain ⟨ot, ct, rfl⟩ : ∃ o c, vt = .slice o t.length c := by obtain ⟨⟨o, c, e, _⟩, _⟩ := ht; rw [tabC_size] at e; exact ⟨o, c, e⟩
  have Hasc := Lib.hid (rc_ascending w _ ids h hm)
  have HI := Lib.hid h
  have HT := Lib.hid ht
  clear h ht
  go_enter Tryz.func7, Tryz.ntmps7
  cases ha : ascB ids
  · rw [ha] at Hasc
    have Hres : Hid (quickD ids t = ([], [], false)) := Lib.hid (by unfold quickD; rw [ha]; rfl)
    go_wp2_with fail
    refine Hasc.out.mono ?_
    rintro e w1 ⟨rfl, hb1⟩
    go_wp2
    rw [Hres.out]
    refine bodyPost_ret (v := .tuple #[.slice none 0 0, .slice none 0 0, .bool false]) (by simp [results, Tryz.results7, go_sem]) rfl ⟨_, _, rfl, DigR.nil0 _ _, DigR.nil0 _ _, ?_⟩
    first | exact hb1 | exact hB2 | exact hB3 | exact hB4
  · rw [ha] at Hasc
    go_wp2_with fail
    refine Hasc.out.mono ?_
    rintro e w1 ⟨rfl, hb1⟩
    have Hof := Lib.hid (iblt_Of w1 _ t.length ids (HI.out.below hb1) hm)
    clear Hasc
    go_wp2_with fail
    refine Hof.out.mono ?_
    rintro e w2 ⟨v2, rfl, h2, hb2⟩
    have hB2 := Below.then hb1 hb2 hb1.size
    cases he1 : ((ofT t.length ids).2 != 0)
    · have z1 : (ofT t.length ids).2 = 0 := by simpa using he1
      have Hsm : Hid ((ofT t.length ids).1.length ≤ 1000000) := Lib.hid (by
        unfold ofT
        split
        · rename_i hq; rw [ofFold_len, newT_len hq]; omega
        · simp)
      have Hsub := Lib.hid (iblt_Subtract (S := fun _ => True) w2 _ _ _ t (h2.mono fun _ _ => trivial) (((HT.out.below hb1).below hb2).mono fun _ _ => trivial) Hsm.out hmt)
      clear h2 hb2
      rw [z1]
      go_wp2_with fail
      refine Hsub.out.mono ?_
      rintro e w3 ⟨v3, rfl, h3, hb3⟩
      have hB3 := Below.then hB2 hb3 hB2.size
      cases he2 : ((subT (ofT t.length ids).1 t).2 != 0)
      · have z2 : (subT (ofT t.length ids).1 t).2 = 0 := by simpa using he2
        have Hls : Hid ((subT (ofT t.length ids).1 t).1.length ≤ 1000000) := Lib.hid (subT_small2 Hsm.out)
        have Hpl := Lib.hid (iblt_Peel w3 _ _ h3 Hls.out)
        have hq : quickD ids t = if (peelT (subT (ofT t.length ids).1 t).1).2.2 then ((peelT (subT (ofT t.length ids).1 t).1).2.1, (peelT (subT (ofT t.length ids).1 t).1).1, true) else ([], [], false) := by
          unfold quickD
          rw [if_pos ha, if_pos z1, if_pos z2]
        have Hq := Lib.hid hq
        clear hq h3 hb3 Hsub Hof he1 he2 z1
        rw [z2]
        clear z2
        generalize peelT (subT (ofT t.length ids).1 t).1 = x at *
        obtain ⟨p, m, b⟩ := x
        go_wp2_with fail
        refine Hpl.out.mono ?_
        rintro e w4 ⟨vp, vm, he, hP, hM, hb4⟩
        have he' : e = .returned (.tuple #[vp, vm, .bool b]) := he
        clear he
        subst he'
        have hB4 := Below.then hB3 hb4 hB3.size
        cases b
        · have Hres : Hid (quickD ids t = ([], [], false)) := Lib.hid (by rw [Hq.out]; rfl)
          clear Hpl Hq
          go_wp2
          rw [Hres.out]
          refine bodyPost_ret (v := .tuple #[.slice none 0 0, .slice none 0 0, .bool false]) (by simp [results, Tryz.results7, go_sem]) rfl ⟨_, _, rfl, DigR.nil0 _ _, DigR.nil0 _ _, ?_⟩
          first | exact hb1 | exact hB2 | exact hB3 | exact hB4
        · have Hres : Hid (quickD ids t = (m, p, true)) := Lib.hid (by rw [Hq.out]; rfl)
          clear Hpl Hq
          have hz := hB3.size
          go_wp2
          rw [Hres.out]
          exact bodyPost_ret (v := .tuple #[vm, vp, .bool true]) (by simp [results, Tryz.results7, go_sem]) rfl ⟨_, _, rfl, hM.mono fun q hq => ⟨by omega, hq.2⟩, hP.mono fun q hq => ⟨by omega, hq.2⟩, hB4⟩
      · have Hres : Hid (quickD ids t = ([], [], false)) := Lib.hid (by
          unfold quickD
          rw [if_pos ha, if_pos z1, if_neg (by simpa using he2)])
        clear Hsub Hof h3
        generalize (subT (ofT t.length ids).1 t).2 = x at *
        go_wp2
        rw [Hres.out]
        refine bodyPost_ret (v := .tuple #[.slice none 0 0, .slice none 0 0, .bool false]) (by simp [results, Tryz.results7, go_sem]) rfl ⟨_, _, rfl, DigR.nil0 _ _, DigR.nil0 _ _, ?_⟩
        first | exact hb1 | exact hB2 | exact hB3 | exact hB4
    · have Hres : Hid (quickD ids t = ([], [], false)) := Lib.hid (by
        unfold quickD
        rw [if_pos ha, if_neg (by simpa using he1)])
      clear Hof h2
      generalize (ofT t.length ids).2 = x at *
      go_wp2
      rw [Hres.out]
      refine bodyPost_ret (v := .tuple #[.slice none 0 0, .slice none 0 0, .bool false]) (by simp [results, Tryz.results7, go_sem]) rfl ⟨_, _, rfl, DigR.nil0 _ _, DigR.nil0 _ _, ?_⟩
      first | exact hb1 | exact hB2 | exact hB3 | exact hB4
end Go.Proofs.YtebgopdmeghmhaaGreat
