/- law IbltCells: the walk. -/
import Derived.Test.YtfligkncdlocaaaLAw
import Derived.Test.YtfligkncdlocaaaRfOf
namespace Go.Proofs.Ytfligkncdlocaaa
open Go.RowKit

theorem ins_eq {t : List Cl} (ht : Tnok t) (d : List UInt8) : insT t d = insR t d := by
  unfold insT insR
  by_cases hc : checkT t = 0
  · rw [if_pos hc, if_pos hc]
    obtain ⟨ha, hco⟩ := checkT_len hc
    have hal := allowedB_iff.1 ha
    have h3 : 3 ≤ t.length := by omega
    have hl := putT_len t d 1
    have e : (fitB (putT t d 1) d = true) ↔ checkT (putT t d 1) = 0 := by
      constructor
      · intro hf
        refine checkT_of (by rw [hl]; exact ha) fun i hi => ?_
        rw [hl] at hi
        cases hb : incB d t.length i
        · rw [putT_get ht h3]
          unfold ctr
          rw [hb]
          simp only [Bool.false_eq_true, if_false]
          rw [Cl.add_zero (ht.get i)]
          have := of_any_false hco hi
          simpa using this
        · have hb' := incB_iff.1 hb
          unfold fitB at hf
          rw [List.all_eq_true] at hf
          rw [hl] at hf
          rcases hb' with rfl | rfl | rfl
          · exact hf 0 (by simp)
          · exact hf 1 (by simp)
          · exact hf 2 (by simp)
      · intro hk
        obtain ⟨_, h2⟩ := checkT_len hk
        unfold fitB
        rw [List.all_eq_true]
        intro p hp
        rw [List.mem_range] at hp
        have := of_any_false h2 (i := posN d (putT t d 1).length p) (posN_lt hp (by rw [hl]; exact h3))
        simpa using this
    by_cases hf : fitB (putT t d 1) d = true
    · rw [if_pos hf, if_pos (e.1 hf)]
    · rw [if_neg hf, if_neg (fun h => hf (e.2 h))]
  · rw [if_neg hc, if_neg hc]
theorem insT_len {t : List Cl} {d : List UInt8} (h : t.length ≤ 1000000) : (insT t d).1.length ≤ 1000000 := by
  unfold insT
  split
  · split
    · show (putT t d 1).length ≤ _; rw [putT_len]; exact h
    · simp
  · simp
theorem newT_small {n : Int} : (newT n).length ≤ 1000000 := by
  cases h : allowedB n
  · simp [newT, h]
  · rw [newT_len h]; have := allowedB_iff.1 h; omega
set_option maxRecDepth 100000 in
set_option maxHeartbeats 2000000 in
theorem law47_cells {S : Nat → Prop} (w : World) (n : Int) (v : Value) (t : List Cl) (hT : TabR S w v t) (hn : Tnok t) (hl : t.length ≤ 4611686018427387904) (d : List UInt8) (hd : d.length = 32) :
    Calls Try.prog 4 #[.int .i64 n, v, dgV d] w fun e w' => e = .returned (.bool true) ∧ Below w.heap.size w w' := by
  obtain ⟨o, c, rfl⟩ : ∃ o c, v = .slice o t.length c := by obtain ⟨⟨o, c, e, _⟩, _⟩ := hT; rw [tabC_size] at e; exact ⟨o, c, e⟩
  obtain ⟨cd, hcd⟩ : ∃ c, (bytesV d).toArray = c := ⟨_, rfl⟩
  have hdg : dgV d = .agg cd := by unfold dgV; rw [hcd]
  have hcl : cd.size = 32 := by rw [← hcd]; simp [bytesV, hd]
  rw [hdg]
  have xd := Lib.hid (Bx.new w cd 31)
  have hB := Below.one w (.cells cd 31)
  have hT1 := Lib.hid (hT.below hB)
  have Hdg := Lib.hid hdg
  have Hcl := Lib.hid hcl
  have Hn := Lib.hid hn
  clear hdg hcd hT hcl hn
  by_cases hg : (60 < n ∧ n ≤ 3000) ∨ 60 < (t.length : Int)
  · go_enter Try.func4, Try.ntmps4
    by_cases h1 : 60 < n
    · by_cases h2 : n ≤ 3000
      · go_wp2_with fail
        refine (law47_awake _).mono ?_
        rintro e w2 ⟨rfl, hb2⟩
        have hB2 := Below.then hB hb2 hB.size
        go_wp2
        go_ret
        exact ⟨rfl, hB2⟩
      · have h3 : 60 < (t.length : Int) := by omega
        go_wp2_with fail
        refine (law47_awake _).mono ?_
        rintro e w2 ⟨rfl, hb2⟩
        have hB2 := Below.then hB hb2 hB.size
        go_wp2
        go_ret
        exact ⟨rfl, hB2⟩
    · have h3 : 60 < (t.length : Int) := by omega
      go_wp2_with fail
      refine (law47_awake _).mono ?_
      rintro e w2 ⟨rfl, hb2⟩
      have hB2 := Below.then hB hb2 hB.size
      go_wp2
      go_ret
      exact ⟨rfl, hB2⟩
  · have hlen : t.length ≤ 60 := by omega
    have hx3 : ¬ 60 < (t.length : Int) := by omega
    go_enter Try.func4, Try.ntmps4
    by_cases h1 : 60 < n
    · have h2 : ¬ n ≤ 3000 := by omega
      go_wp2_with fail
      refine (iblt_new n _).mono ?_
      rintro e w2 ⟨v1, rfl, hf, ht, hb2⟩
      have hB2 := Below.then hB hb2 hB.size
      have xd2 := Lib.hid (xd.out.belowAll hb2)
      have hT2 := Lib.hid (hT1.out.below hb2)
      have hV1 : Hid (TabR (fun _ => True) w2 v1 (newT n)) := Lib.hid (by
        cases ha : allowedB n
        · rw [hf ha, show newT n = [] by simp [newT, ha]]; exact TabR.nil0 _ _
        · exact (TabR.owns (ht ha) (newT_ok n)).mono fun _ _ => trivial)
      clear hf ht hb2
      go_wp2_with fail
      refine (ref47_new n _).mono ?_
      rintro e w3 ⟨v2, rfl, ht, hb3⟩
      have hB3 := Below.then hB2 hb3 hB2.size
      have xd3 := Lib.hid (xd2.out.belowAll hb3)
      have hT3 := Lib.hid (hT2.out.below hb3)
      have hV13 := Lib.hid (hV1.out.below hb3)
      have hV2 : Hid (TabR (fun _ => True) w3 v2 (newT n)) := Lib.hid ((TabR.owns ht (newT_ok n)).mono fun _ _ => trivial)
      have Hin := Lib.hid (iblt_Insert w3 _ t d hT3.out (by omega) hd)
      rw [Hdg.out] at Hin
      clear ht hb3 hV1 xd2 hT2
      go_wp2_with (refine wpList_load_mid rfl 31 (.tmp 5) rfl w.heap.size 0 rfl cd.toList _ xd3.out.range Try.underlying31 rfl (by rw [sizeDg]; simp [Hcl.out]) ?_)
      refine Hin.out.mono ?_
      rintro e w4 ⟨v3, rfl, hV3, hb4⟩
      have hB4 := Below.then hB3 hb4 hB3.size
      have xd4 := Lib.hid (xd3.out.belowAll hb4)
      have hT4 := Lib.hid (hT3.out.below hb4)
      have hV14 := Lib.hid (hV13.out.below hb4)
      have hV24 := Lib.hid (hV2.out.below hb4)
      have hV34 := Lib.hid (hV3.mono (T := fun _ => True) fun _ _ => trivial)
      have Hin2 := Lib.hid (ref47_Insert w4 _ t d hT4.out (by omega) hd)
      rw [Hdg.out, ← ins_eq Hn.out d] at Hin2
      clear hV3 hb4 hV13 hV2 xd3 hT3 Hin
      go_wp2_with (refine wpList_load_mid rfl 31 (.tmp 5) rfl w.heap.size 0 rfl cd.toList _ xd4.out.range Try.underlying31 rfl (by rw [sizeDg]; simp [Hcl.out]) ?_)
      refine Hin2.out.mono ?_
      rintro e w5 ⟨v4, rfl, hV4, hb5⟩
      have hB5 := Below.then hB4 hb5 hB4.size
      have hT5 := Lib.hid (hT4.out.below hb5)
      have hV35 := Lib.hid (hV34.out.below hb5)
      have hV45 := Lib.hid (hV4.mono (T := fun _ => True) fun _ _ => trivial)
      have Hs := Lib.hid (ref47_Same w5 _ _ _ _ (hV14.out.below hb5) (hV24.out.below hb5) newT_small newT_small)
      rw [decide_eq_true rfl] at Hs
      clear hV4 hb5 hV14 hV24 xd4 hT4 hV34 Hin2
      go_wp2_with fail
      refine Hs.out.mono ?_
      rintro e w6 ⟨rfl, hb6⟩
      have hB6 := Below.then hB5 hb6 hB5.size
      have hT6 := Lib.hid (hT5.out.below hb6)
      have Hs2 := Lib.hid (ref47_Same w6 _ _ _ _ (hV35.out.below hb6) (hV45.out.below hb6) (insT_len (by omega)) (insT_len (by omega)))
      rw [decide_eq_true rfl] at Hs2
      clear hb6 hT5 hV35 hV45 Hs
      go_wp2_with fail
      refine Hs2.out.mono ?_
      rintro e w7 ⟨rfl, hb7⟩
      have hB7 := Below.then hB6 hb7 hB6.size
      have hT7 := Lib.hid (hT6.out.below hb7)
      clear hb7 hT6 Hs2
      go_wp2_with fail
      refine (iblt_Check w7 _ t hT7.out (by omega)).mono ?_
      rintro e w8 ⟨rfl, hb8⟩
      have hB8 := Below.then hB7 hb8 hB7.size
      have hT8 := Lib.hid (hT7.out.below hb8)
      clear hb8 hT7
      go_wp2_with fail
      refine (ref47_Check w8 _ t hT8.out (by omega)).mono ?_
      rintro e w9 ⟨rfl, rfl⟩
      go_wp2_with fail
      refine (law47_awake _).mono ?_
      rintro e w10 ⟨rfl, hb10⟩
      have hB10 := Below.then hB8 hb10 hB8.size
      go_wp2
      go_ret
      exact ⟨rfl, hB10⟩
    · go_wp2_with fail
      refine (iblt_new n _).mono ?_
      rintro e w2 ⟨v1, rfl, hf, ht, hb2⟩
      have hB2 := Below.then hB hb2 hB.size
      have xd2 := Lib.hid (xd.out.belowAll hb2)
      have hT2 := Lib.hid (hT1.out.below hb2)
      have hV1 : Hid (TabR (fun _ => True) w2 v1 (newT n)) := Lib.hid (by
        cases ha : allowedB n
        · rw [hf ha, show newT n = [] by simp [newT, ha]]; exact TabR.nil0 _ _
        · exact (TabR.owns (ht ha) (newT_ok n)).mono fun _ _ => trivial)
      clear hf ht hb2
      go_wp2_with fail
      refine (ref47_new n _).mono ?_
      rintro e w3 ⟨v2, rfl, ht, hb3⟩
      have hB3 := Below.then hB2 hb3 hB2.size
      have xd3 := Lib.hid (xd2.out.belowAll hb3)
      have hT3 := Lib.hid (hT2.out.below hb3)
      have hV13 := Lib.hid (hV1.out.below hb3)
      have hV2 : Hid (TabR (fun _ => True) w3 v2 (newT n)) := Lib.hid ((TabR.owns ht (newT_ok n)).mono fun _ _ => trivial)
      have Hin := Lib.hid (iblt_Insert w3 _ t d hT3.out (by omega) hd)
      rw [Hdg.out] at Hin
      clear ht hb3 hV1 xd2 hT2
      go_wp2_with (refine wpList_load_mid rfl 31 (.tmp 5) rfl w.heap.size 0 rfl cd.toList _ xd3.out.range Try.underlying31 rfl (by rw [sizeDg]; simp [Hcl.out]) ?_)
      refine Hin.out.mono ?_
      rintro e w4 ⟨v3, rfl, hV3, hb4⟩
      have hB4 := Below.then hB3 hb4 hB3.size
      have xd4 := Lib.hid (xd3.out.belowAll hb4)
      have hT4 := Lib.hid (hT3.out.below hb4)
      have hV14 := Lib.hid (hV13.out.below hb4)
      have hV24 := Lib.hid (hV2.out.below hb4)
      have hV34 := Lib.hid (hV3.mono (T := fun _ => True) fun _ _ => trivial)
      have Hin2 := Lib.hid (ref47_Insert w4 _ t d hT4.out (by omega) hd)
      rw [Hdg.out, ← ins_eq Hn.out d] at Hin2
      clear hV3 hb4 hV13 hV2 xd3 hT3 Hin
      go_wp2_with (refine wpList_load_mid rfl 31 (.tmp 5) rfl w.heap.size 0 rfl cd.toList _ xd4.out.range Try.underlying31 rfl (by rw [sizeDg]; simp [Hcl.out]) ?_)
      refine Hin2.out.mono ?_
      rintro e w5 ⟨v4, rfl, hV4, hb5⟩
      have hB5 := Below.then hB4 hb5 hB4.size
      have hT5 := Lib.hid (hT4.out.below hb5)
      have hV35 := Lib.hid (hV34.out.below hb5)
      have hV45 := Lib.hid (hV4.mono (T := fun _ => True) fun _ _ => trivial)
      have Hs := Lib.hid (ref47_Same w5 _ _ _ _ (hV14.out.below hb5) (hV24.out.below hb5) newT_small newT_small)
      rw [decide_eq_true rfl] at Hs
      clear hV4 hb5 hV14 hV24 xd4 hT4 hV34 Hin2
      go_wp2_with fail
      refine Hs.out.mono ?_
      rintro e w6 ⟨rfl, hb6⟩
      have hB6 := Below.then hB5 hb6 hB5.size
      have hT6 := Lib.hid (hT5.out.below hb6)
      have Hs2 := Lib.hid (ref47_Same w6 _ _ _ _ (hV35.out.below hb6) (hV45.out.below hb6) (insT_len (by omega)) (insT_len (by omega)))
      rw [decide_eq_true rfl] at Hs2
      clear hb6 hT5 hV35 hV45 Hs
      go_wp2_with fail
      refine Hs2.out.mono ?_
      rintro e w7 ⟨rfl, hb7⟩
      have hB7 := Below.then hB6 hb7 hB6.size
      have hT7 := Lib.hid (hT6.out.below hb7)
      clear hb7 hT6 Hs2
      go_wp2_with fail
      refine (iblt_Check w7 _ t hT7.out (by omega)).mono ?_
      rintro e w8 ⟨rfl, hb8⟩
      have hB8 := Below.then hB7 hb8 hB7.size
      have hT8 := Lib.hid (hT7.out.below hb8)
      clear hb8 hT7
      go_wp2_with fail
      refine (ref47_Check w8 _ t hT8.out (by omega)).mono ?_
      rintro e w9 ⟨rfl, rfl⟩
      go_wp2_with fail
      refine (law47_awake _).mono ?_
      rintro e w10 ⟨rfl, hb10⟩
      have hB10 := Below.then hB8 hb10 hB8.size
      go_wp2
      go_ret
      exact ⟨rfl, hB10⟩
end Go.Proofs.Ytfligkncdlocaaa
