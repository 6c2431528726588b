/- Check and Answer where more than 1000 ranges stand: no bound on what they list. -/
import Derived.Test.YtebgopdmeghmhaaRcAns
import Derived.Test.YtebgopdmeghmhaaRfAns
namespace Go.Proofs.Ytebgopdmeghmhaa
open Go.RowKit

theorem gsum_big : ∀ {l : List Rg} {m : Int}, 0 ≤ m → m + l.length * 4398046511104 < 9223372036854775808 → (∀ r ∈ l, r.ids.length ≤ 4398046511104) → m ≤ gsum l m ∧ ∀ r ∈ l, (r.ids.length : Int) ≤ gsum l m
  | [], m, _, _, _ => ⟨Int.le_refl _, fun _ h => by cases h⟩
  | r :: l, m, h0, h1, hi => by
    have hr := hi r List.mem_cons_self
    rw [List.length_cons] at h1
    have hw : wrap64 (m + (r.ids.length : Int)) = m + r.ids.length := by
      have h2 : m + (r.ids.length : Int) < 9223372036854775808 := by omega
      unfold wrap64
      omega
    have ih := gsum_big (l := l) (m := m + r.ids.length) (by omega) (by omega) (fun q hq => hi q (List.mem_cons_of_mem _ hq))
    have e : gsum (r :: l) m = gsum l (m + r.ids.length) := by
      show gsum l (wrap64 (m + (r.ids.length : Int))) = _
      rw [hw]
    rw [e]
    refine ⟨by omega, fun q hq => ?_⟩
    rcases List.mem_cons.1 hq with rfl | hq
    · omega
    · exact ih.2 q hq
theorem great_small {l : List Rg} (hg : greatR l = false) (hk : l.length ≤ 1000) (hi : ∀ r ∈ l, r.ids.length ≤ 4398046511104) : l.length ≤ 100 ∧ ∀ r ∈ l, r.ids.length ≤ 100 := by
  have h := of_decide_eq_false hg
  obtain ⟨h1, h2⟩ := gsum_big (l := l) (m := (l.length : Int)) (by omega) (by omega) hi
  exact ⟨by omega, fun r hr => by have := h2 r hr; omega⟩
theorem partR_ids {r q : Rg} {o : List (List UInt8)} (h : q ∈ partR r o) : q.ids.length ≤ o.length := by
  unfold partR at h
  split at h
  · cases h
  · split at h
    · cases h
    · split at h
      · rw [List.mem_singleton.1 h]
        unfold descR
        split
        · exact Nat.zero_le _
        · exact Nat.le_refl _
      · simp only [List.mem_cons, List.not_mem_nil, or_false] at h
        rcases h with rfl | rfl <;> exact Nat.zero_le _
theorem ans_small {ids : List (List UInt8)} {l : List Rg} (hids : ids.length ≤ 60) (h : l.length ≤ 1000 → l.length ≤ 100 ∧ ∀ r ∈ l, r.ids.length ≤ 100) :
    (ansD ids l).r.length ≤ 200 ∧ (∀ q ∈ (ansD ids l).r, q.ids.length ≤ 60) ∧ (ansD ids l).w.length ≤ 10000 ∧ (ansD ids l).g.length ≤ 6000 := by
  unfold ansD
  split
  · split
    · rename_i hc
      obtain ⟨h1, h2⟩ := h (of_checkR hc).2.2
      have ho : ∀ r, (ownR ids r).length ≤ 60 := fun r => Nat.le_trans (List.length_filter_le _ _) hids
      have b1 := flat_bound (l := l) (f := fun r => partR r (ownR ids r)) (m := 2) (fun r _ => partR_len _ _)
      have b2 := flat_bound (l := l) (f := fun r => partW r (ownR ids r)) (m := 100) (fun r hr => Nat.le_trans (partW_len _ _) (h2 r hr))
      have b3 := flat_bound (l := l) (f := fun r => partG r (ownR ids r)) (m := 60) (fun r hr => Nat.le_trans (partG_len _ _) (ho r))
      refine ⟨by show (l.flatMap fun r => partR r (ownR ids r)).length ≤ _; omega, fun q hq => ?_, by show (l.flatMap fun r => partW r (ownR ids r)).length ≤ _; omega, by show (l.flatMap fun r => partG r (ownR ids r)).length ≤ _; omega⟩
      obtain ⟨r, _, hq⟩ := List.mem_flatMap.1 hq
      exact Nat.le_trans (partR_ids hq) (ho r)
    · exact ⟨by simp, fun q hq => by simp at hq, by simp, by simp⟩
  · exact ⟨by simp, fun q hq => by simp at hq, by simp, by simp⟩
theorem start_small {ids : List (List UInt8)} (h : ids.length ≤ 60) : (startR ids).length ≤ 1 ∧ ∀ q ∈ startR ids, q.ids.length ≤ 60 := by
  unfold startR
  split
  · refine ⟨Nat.le_refl _, fun q hq => ?_⟩
    rw [List.mem_singleton.1 hq]
    unfold descR
    split
    · exact Nat.zero_le _
    · exact h
  · exact ⟨Nat.zero_le _, fun q hq => by cases hq⟩
theorem rc_CheckX {S : Nat → Prop} (w : World) (v : Value) (l : List Rg) (h : RgsR S w v l) (hm : l.length ≤ 4611686018427387904) (hmi : l.length ≤ 1000 → ∀ r ∈ l, r.ids.length ≤ 1000000) :
    Calls Try.prog 12 #[v] w fun e w' => e = .returned (.int .i64 (checkR l)) ∧ Below w.heap.size w w' := by
  by_cases hk : l.length ≤ 1000
  · exact rc_Check w v l h hm (hmi hk)
  · obtain ⟨o, c, rfl⟩ := h.slice
    have Hres : Hid (checkR l = 4) := Lib.hid (by unfold checkR; rw [if_pos (by omega)])
    clear h hmi
    obtain ⟨n, hln⟩ : ∃ n, l.length = n := ⟨_, rfl⟩
    rw [hln] at hm hk ⊢
    clear hln
    go_enter Try.func12, Try.ntmps12
    have hg' : (1000 : Int) < (n : Int) := by omega
    go_wp2
    go_ret
    exact ⟨by rw [Hres.out]; rfl, Below.refl _ _⟩
theorem rf_CheckX {S : Nat → Prop} (w : World) (v : Value) (l : List Rg) (h : RgsR S w v l) (hm : l.length ≤ 4611686018427387904) (hmi : l.length ≤ 1000 → ∀ r ∈ l, r.ids.length ≤ 1000000) :
    Calls Try.prog 13 #[v] w fun e w' => e = .returned (.int .i64 (checkR l)) ∧ Below w.heap.size w w' := by
  by_cases hk : l.length ≤ 1000
  · exact rf_Check w v l h hm (hmi hk)
  · obtain ⟨o, c, rfl⟩ := h.slice
    have Hres : Hid (checkR l = 4) := Lib.hid (by unfold checkR; rw [if_pos (by omega)])
    clear h hmi
    obtain ⟨n, hln⟩ : ∃ n, l.length = n := ⟨_, rfl⟩
    rw [hln] at hm hk ⊢
    clear hln
    go_enter Try.func13, Try.ntmps13
    have hg' : (1000 : Int) < (n : Int) := by omega
    go_wp2
    go_ret
    exact ⟨by rw [Hres.out]; rfl, Below.refl _ _⟩
section
variable {S1 S2 : Nat → Prop} (w : World) (v v2 : Value) (ids : List (List UInt8)) (l : List Rg) (h : DigR S1 w v ids) (h2 : RgsR S2 w v2 l) (hm : ids.length ≤ 1000000) (hl : l.length ≤ 4611686018427387904) (hmi : l.length ≤ 1000 → ∀ r ∈ l, r.ids.length ≤ 1000000)
include h h2 hm hl hmi
set_option maxRecDepth 100000 in
theorem rc_AnswerX : Calls Try.prog 19 #[v, v2] w (AnsP w (ansD ids l)) := by
  by_cases hk : l.length ≤ 1000
  · exact rc_Answer w v v2 ids l h h2 hm hl (hmi hk)
  · obtain ⟨o, c, rfl⟩ : ∃ o c, v = .slice o ids.length c := by obtain ⟨⟨o, c, e, _⟩, _⟩ := h; rw [digC_size] at e; exact ⟨o, c, e⟩
    obtain ⟨o2, c2, rfl⟩ := h2.slice
    have Hasc := Lib.hid (rc_ascending w _ ids h hm)
    have hc4 : checkR l = 4 := by unfold checkR; rw [if_pos (by omega)]
    have Hck := Lib.hid (fun W (hW : Below w.heap.size w W) => rc_CheckX W _ l (h2.below hW) hl hmi)
    rw [hc4] at Hck
    obtain ⟨n, hn⟩ : ∃ n, l.length = n := ⟨_, rfl⟩
    have Hn := Lib.hid hn
    have Hc4 := Lib.hid hc4
    obtain ⟨m, hmm⟩ : ∃ m, ids.length = m := ⟨_, rfl⟩
    rw [hn] at Hck hl ⊢
    rw [hmm] at Hasc hm ⊢
    clear h h2 hmi hn hmm hk hc4
    go_enter Try.func19, Try.ntmps19
    cases ha : ascB ids
    · rw [ha] at Hasc
      have Hres : Hid (ansD ids l = ⟨[], [], [], 9⟩) := Lib.hid (by unfold ansD; rw [ha]; rfl)
      go_wp2_with fail
      refine Hasc.out.mono ?_
      rintro e w1 ⟨rfl, hb1⟩
      go_wp2
      rw [Hres.out]
      exact bodyPost_ret (v := .tuple #[.slice none 0 0, .slice none 0 0, .slice none 0 0, .int .i64 9]) (by simp [results, Try.results19, go_sem]) rfl ⟨_, _, _, rfl, RgsR.nil _ _, DigR.nil0 _ _, DigR.nil0 _ _, hb1⟩
    · rw [ha] at Hasc
      have Hres : Hid (ansD ids l = ⟨[], [], [], 4⟩) := Lib.hid (by unfold ansD; rw [ha, if_pos rfl, if_neg (by rw [Hc4.out]; decide), Hc4.out])
      go_wp2_with fail
      refine Hasc.out.mono ?_
      rintro e w1 ⟨rfl, hb1⟩
      go_wp2_with fail
      refine (Hck.out w1 hb1).mono ?_
      rintro e w2 ⟨rfl, hb2⟩
      have hB2 := Below.then hb1 hb2 hb1.size
      go_wp2
      rw [Hres.out]
      exact bodyPost_ret (v := .tuple #[.slice none 0 0, .slice none 0 0, .slice none 0 0, .int .i64 4]) (by simp [results, Try.results19, go_sem]) rfl ⟨_, _, _, rfl, RgsR.nil _ _, DigR.nil0 _ _, DigR.nil0 _ _, hB2⟩
set_option maxRecDepth 100000 in
theorem rf_AnswerX : Calls Try.prog 20 #[v, v2] w (AnsP w (ansD ids l)) := by
  by_cases hk : l.length ≤ 1000
  · exact rf_Answer w v v2 ids l h h2 hm hl (hmi hk)
  · obtain ⟨o, c, rfl⟩ : ∃ o c, v = .slice o ids.length c := by obtain ⟨⟨o, c, e, _⟩, _⟩ := h; rw [digC_size] at e; exact ⟨o, c, e⟩
    obtain ⟨o2, c2, rfl⟩ := h2.slice
    have hB0 : Below w.heap.size w (((w.alloc (.cells #[] 53)).alloc (.cells #[] 29)).alloc (.cells #[] 29)) := ((Below.one w _).alloc (by simp) _).alloc (by simp; omega) _
    have Hasc := Lib.hid (rf_ascending _ _ ids (h.below hB0) hm)
    have hc4 : checkR l = 4 := by unfold checkR; rw [if_pos (by omega)]
    have Hck := Lib.hid (fun W (hW : Below w.heap.size w W) => rf_CheckX W _ l (h2.below hW) hl hmi)
    have HA0 := Lib.hid (Acc.empty3 w)
    rw [hc4] at Hck
    obtain ⟨n, hn⟩ : ∃ n, l.length = n := ⟨_, rfl⟩
    have Hc4 := Lib.hid hc4
    obtain ⟨m, hmm⟩ : ∃ m, ids.length = m := ⟨_, rfl⟩
    rw [hn] at Hck hl ⊢
    rw [hmm] at Hasc hm ⊢
    clear h h2 hmi hn hmm hk hc4
    go_enter Try.func20, Try.ntmps20
    go_wp2_with fail
    generalize ((w.alloc (.cells #[] 53)).alloc (.cells #[] 29)).alloc (.cells #[] 29) = w0 at *
    cases ha : ascB ids
    · rw [ha] at Hasc
      have Hres : Hid (ansD ids l = ⟨[], [], [], 9⟩) := Lib.hid (by unfold ansD; rw [ha]; rfl)
      refine Hasc.out.mono ?_
      rintro e w1 ⟨rfl, hb1⟩
      have hB1 := Below.then hB0 hb1 hB0.size
      have HA1 := Lib.hid (HA0.out.below hb1)
      go_wp2
      rw [Hres.out]
      exact bodyPost_ret (v := .tuple #[.slice (some ⟨w.heap.size, 0, none⟩) 0 0, .slice (some ⟨w.heap.size + 1, 0, none⟩) 0 0, .slice (some ⟨w.heap.size + 2, 0, none⟩) 0 0, .int .i64 9]) (by simp [results, Try.results20, go_sem]) rfl ⟨_, _, _, rfl, HA1.out.rs.new (Nat.le_refl _), HA1.out.ws.dig, HA1.out.gs.dig, hB1⟩
    · rw [ha] at Hasc
      have Hres : Hid (ansD ids l = ⟨[], [], [], 4⟩) := Lib.hid (by unfold ansD; rw [ha, if_pos rfl, if_neg (by rw [Hc4.out]; decide), Hc4.out])
      refine Hasc.out.mono ?_
      rintro e w1 ⟨rfl, hb1⟩
      have hB1 := Below.then hB0 hb1 hB0.size
      have HA1 := Lib.hid (HA0.out.below hb1)
      clear HA0 hB0 hb1
      go_wp2_with fail
      refine (Hck.out w1 hB1).mono ?_
      rintro e w2 ⟨rfl, hb2⟩
      have hB2 := Below.then hB1 hb2 hB1.size
      have HA2 := Lib.hid (HA1.out.below hb2)
      clear hb2 Hck
      go_wp2
      rw [Hres.out]
      exact bodyPost_ret (v := .tuple #[.slice (some ⟨w.heap.size, 0, none⟩) 0 0, .slice (some ⟨w.heap.size + 1, 0, none⟩) 0 0, .slice (some ⟨w.heap.size + 2, 0, none⟩) 0 0, .int .i64 4]) (by simp [results, Try.results20, go_sem]) rfl ⟨_, _, _, rfl, HA2.out.rs.new (Nat.le_refl _), HA2.out.ws.dig, HA2.out.gs.dig, hB2⟩
end
end Go.Proofs.Ytebgopdmeghmhaa
