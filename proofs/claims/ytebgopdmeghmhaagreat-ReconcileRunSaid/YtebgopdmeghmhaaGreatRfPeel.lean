/- quiltref47.Peel. -/
import Derived.Test.YtebgopdmeghmhaaGreatIbSing
import Derived.Test.YtebgopdmeghmhaaGreatRfSort
import Derived.Test.YtebgopdmeghmhaaGreatRfPure
namespace Go.Proofs.YtebgopdmeghmhaaGreat
open Go.RowKit

theorem DigR.empty {w : World} {base g : Nat} (h : w.ownsRow base 39 32 (.slice (some ⟨g, 0, none⟩) 0 0) 0 []) : DigR (fun b => base ≤ b ∧ b < w.heap.size) w (.slice (some ⟨g, 0, none⟩) 0 0) [] := DigR.owns (l := []) h (fun _ h => by cases h)
theorem owns_cap {w : World} {base : Nat} {e : TypeId} {size g n c : Nat} {xs : List Value} (h : w.ownsRow base e size (.slice (some ⟨g, 0, none⟩) n c) n xs) : n ≤ c := by
  rcases h.2 with ⟨e1, _⟩ | ⟨g', c', cur, e1, _, _, hc, _⟩
  · cases e1
  · simp only [Value.slice.injEq] at e1
    omega
set_option maxRecDepth 100000 in
set_option maxHeartbeats 4000000 in
theorem ref47_Peel {S : Nat → Prop} (w : World) (v : Value) (t : List Cl) (h : TabR S w v t) (hm : t.length ≤ 1000000) :
    Calls Tryz.prog 24 #[v] w (PeelE w (peelT t)) := by
  obtain ⟨o, c, rfl⟩ : ∃ o c, v = .slice o t.length c := by obtain ⟨⟨o, c, e, _⟩, _⟩ := h; rw [tabC_size] at e; exact ⟨o, c, e⟩
  obtain ⟨idg, hidg, hzd, hsd, hbyd⟩ := info_parts infoDg
  obtain ⟨z0, hz0⟩ : ∃ z, (.agg (List.replicate 32 (Value.int .u8 0)).toArray : Value) = .agg z := ⟨_, rfl⟩
  have hzl : z0.size = 32 := by injection hz0 with e; rw [← e]; simp
  have Hzi : Hid ((Tryz.prog.info? 39).map (·.zero) = some (some (.agg z0))) := Lib.hid (by rw [hidg, ← hz0]; simp only [Option.map_some, hzd]; rfl)
  have Hzl := Lib.hid hzl
  have HT := Lib.hid h
  have hb0 : Below w.heap.size w ((w.alloc (.cells #[] 39)).alloc (.cells #[] 39)) := (Below.one w _).alloc (by simp) _
  have hT1 := HT.out.below hb0
  have x0 : Bx ((w.alloc (.cells #[] 39)).alloc (.cells #[] 39)) w.heap.size #[] 39 := (Bx.new w #[] 39).alloc _
  have x1 : Bx ((w.alloc (.cells #[] 39)).alloc (.cells #[] 39)) (w.heap.size + 1) #[] 39 := Bx.newAt (w.alloc (.cells #[] 39)) _ _ _ (by simp)
  have HP0 := Lib.hid (ownsRow_bx0 (base := w.heap.size) (size := 32) x0 (Nat.le_refl _))
  have HM0 := Lib.hid (ownsRow_bx0 (base := w.heap.size) (size := 32) x1 (by omega))
  have HT1 := Lib.hid hT1
  have Hb0 := Lib.hid hb0
  clear hz0 hzl hidg hzd hsd hbyd h x0 x1 hT1 hb0
  go_enter Tryz.func24, Tryz.ntmps24
  go_wp2_with fail
  refine (ref47_Check _ _ t HT1.out hm).mono ?_
  rintro e w1 ⟨rfl, rfl⟩
  generalize (w.alloc (.cells #[] 39)).alloc (.cells #[] 39) = w1 at *
  rcases checkT_cases t with hck | hck
  · rw [hck]
    have hal := allowedB_iff.1 (checkT_len hck).1
    have Hpt : Hid (peelT t = if (peelN t.length ⟨t, [], []⟩).t.any (fun c => !c.eqB Cl.zero) then ([], [], false) else (sortD (peelN t.length ⟨t, [], []⟩).p, sortD (peelN t.length ⟨t, [], []⟩).m, true)) := Lib.hid (by unfold peelT; rw [if_pos hck])
    have hlen := peelN_len ⟨t, [], []⟩
    have hok0 : Ps.ok ⟨t, [], []⟩ := ⟨HT.out.2, fun _ h => (by cases h), fun _ h => (by cases h)⟩
    have hn3 : 3 ≤ t.length := by omega
    have hn4 : t.length ≤ 3000 := by omega
    have hm3 : t.length % 3 = 0 := by omega
    clear hck hal HT hm
    have Hlen := Lib.hid hlen
    clear hlen
    obtain ⟨n, hn⟩ : ∃ n, t.length = n := ⟨_, rfl⟩
    have Hn := Lib.hid hn
    rw [hn] at HT1 hn3 hn4 Hpt hm3 ⊢
    have Hm3 := Lib.hid hm3
    clear hn hm3
    go_wp2
    go_loopw [0, 5, 6, 7] (fun u0 up um i wr => ∃ (k : Nat) (st : Ps) (o2 : Option Addr) (c2 g5 c5 g6 c6 : Nat), k ≤ n ∧ i = .int .i64 k ∧ u0 = .slice o2 n c2 ∧ up = .slice (some ⟨g5, 0, none⟩) st.p.length c5 ∧ um = .slice (some ⟨g6, 0, none⟩) st.m.length c6 ∧ Hid (peelN k ⟨t, [], []⟩ = st) ∧ st.ok ∧ (∃ S' : Nat → Prop, TabR S' wr u0 st.t) ∧
      st.p.length ≤ k ∧ st.m.length ≤ k ∧ wr.ownsRow w.heap.size 39 32 up st.p.length (digC (sortD st.p)).flatten ∧ wr.ownsRow w.heap.size 39 32 um st.m.length (digC (sortD st.m)).flatten ∧ Below w.heap.size w wr) (fun _ _ _ i _ => n - (intOf i).toNat)
    case atStart =>
      have hs0 : w1.ownsRow w.heap.size 39 32 (.slice (some ⟨w.heap.size, 0, none⟩) 0 0) 0 (digC (sortD [])).flatten := by rw [sortD_nil]; exact HP0.out
      have hs1 : w1.ownsRow w.heap.size 39 32 (.slice (some ⟨w.heap.size + 1, 0, none⟩) 0 0) 0 (digC (sortD [])).flatten := by rw [sortD_nil]; exact HM0.out
      exact ⟨0, ⟨t, [], []⟩, o, c, w.heap.size, 0, w.heap.size + 1, 0, by omega, rfl, rfl, rfl, rfl, Lib.hid rfl, hok0, ⟨_, HT1.out⟩, Nat.le_refl _, Nat.le_refl _, hs0, hs1, Hb0.out⟩
    case round =>
      clear HT1 HP0 HM0 Hb0 hok0
      obtain ⟨k, st, o2, c2, g5, c5, g6, c6, hk, rfl, rfl, rfl, rfl, Hst, hok, ⟨S', hT⟩, hpl, hml, hP, hM, hB⟩ := hrel
      have hstl : st.t.length = n := by rw [← Hst.out, Hlen.out, ← Hn.out]
      have hn0 : 0 < n := by omega
      generalize hwe : wr = w2 at *
      clear hwe
      by_cases hlt : k < n
      · have hlt' : (k : Int) < (n : Int) := by omega
        have hf := ref47_first w2 _ st.t hT (by omega) (by omega) (by rw [hstl]; exact Hm3.out)
        cases hfp : firstP st.t with
        | none =>
          have hfi : firstI st.t = -1 := by unfold firstI; rw [hfp]
          rw [hfi] at hf
          have Hf := Lib.hid hf
          have hfin : peelN n ⟨t, [], []⟩ = st := by
            have h0 := Hst.out
            rw [← h0]
            exact peelN_stop' (by rw [h0]; exact hfp) hk
          have HT := Lib.hid hT
          have HP := Lib.hid hP
          have HM := Lib.hid hM
          have Hfin := Lib.hid hfin
          clear hf hfi hfp hfin hT hP hM
          go_wp2_with fail
          refine Hf.out.mono ?_
          rintro e w4 ⟨rfl, hb4⟩
          have hT4 := HT.out.below hb4
          have hP4 := ownsRow_belowAll HP.out hb4
          have hM4 := ownsRow_belowAll HM.out hb4
          have hB4 := Below.then hB hb4 hB.size
          have hfin := Hfin.out
          clear HT HP HM Hfin hB hb4
          have Hpt2 : Hid (peelT t = if st.t.any (fun c => !c.eqB Cl.zero) then ([], [], false) else (sortD st.p, sortD st.m, true)) := Lib.hid (by rw [Hpt.out, hfin])
          have HT4 := Lib.hid hT4
          have HP4 := Lib.hid hP4
          have HM4 := Lib.hid hM4
          have Hok := Lib.hid hok
          clear hfin hT4 hP4 hM4 hok
          go_wp2
          go_loopw [10] (fun i wr => ∃ q : Nat, q ≤ n ∧ i = .int .i64 q ∧ (∀ j, j < q → (st.t.getD j Cl.zero).eqB Cl.zero = true) ∧ Below w4.heap.size w4 wr) (fun i _ => n - (intOf i).toNat)
          case atStart => exact ⟨0, by omega, rfl, (fun j h => by omega), Below.refl _ _⟩
          case round =>
            obtain ⟨q, hq, rfl, hz, hb5⟩ := hrel
            by_cases hlt2 : q < n
            · have hlt2' : (q : Int) < (n : Int) := by omega
              obtain ⟨b, off, c', e', _, _, _, hbl, hra⟩ := (HT4.out.below hb5).at (i := q) (by omega)
              rw [hstl] at e'
              obtain ⟨rfl, rfl⟩ : o2 = some ⟨b, off, none⟩ ∧ c2 = c' := by simpa using e'
              have hgd : st.t.getD q Cl.zero = st.t[q] := by simp [List.getD_eq_getElem?_getD, List.getElem?_eq_getElem (show q < st.t.length by omega)]
              have Hck := Lib.hid (Hok.out.1 _ (List.getElem_mem (show q < st.t.length by omega)))
              generalize st.t[q] = ck at *
              have Hcl := Lib.hid (Cl.len Hck.out)
              have Hra := Lib.hid hra
              have Hz := Lib.hid hz
              have Hgd := Lib.hid hgd
              clear hra e' hgd hz
              cases hcz : ck.eqB Cl.zero
              · have Hany : Hid (peelT t = ([], [], false)) := Lib.hid (by
                  rw [Hpt2.out, if_pos]
                  rw [List.any_eq_true]
                  refine ⟨st.t.getD q Cl.zero, ?_, by rw [Hgd.out, hcz]; rfl⟩
                  rw [List.getD_eq_getElem?_getD, List.getElem?_eq_getElem (show q < st.t.length by omega)]
                  exact List.getElem_mem _)
                have hB5 := Below.then hB4 hb5 hB4.size
                go_wp2_with (first
                  | (refine wpList_load_mid rfl 67 (.tmp 59) rfl b (off + q * 65) (by first | rfl | (simp)) ck.cells _ Hra.out Tryz.underlying67 rfl (by rw [sizeCl, Hcl.out]) ?_)
                  | (refine wpList_value rfl (.bool (!ck.eqB Cl.zero)) (run_neq_cl _ (.tmp 60) (.tmp 61) rfl ck Cl.zero Hck.out Cl.zero_ok rfl rfl) ?_; rw [hcz]))
                have hb6 : Below w.heap.size w ((wr.alloc (.cells #[] 39)).alloc (.cells #[] 39)) := (hB5.alloc hB5.size _).alloc (hB5.alloc hB5.size _).size _
                have hz5 := hB5.size
                have x0 : Bx ((wr.alloc (.cells #[] 39)).alloc (.cells #[] 39)) wr.heap.size #[] 39 := (Bx.new wr #[] 39).alloc _
                have x1 : Bx ((wr.alloc (.cells #[] 39)).alloc (.cells #[] 39)) (wr.heap.size + 1) #[] 39 := Bx.newAt (wr.alloc (.cells #[] 39)) _ _ _ (by simp)
                refine bodyPost_ret (v := .tuple #[.slice (some ⟨wr.heap.size, 0, none⟩) 0 0, .slice (some ⟨wr.heap.size + 1, 0, none⟩) 0 0, .bool false]) (by simp [results, Tryz.results24, go_sem]) rfl ?_
                exact ⟨_, _, by rw [Hany.out], by rw [Hany.out]; exact DigR.empty (ownsRow_bx0 x0 hz5), by rw [Hany.out]; exact DigR.empty (ownsRow_bx0 x1 (by omega)), hb6⟩
              · have hB5 := hb5
                go_wp2_with (first
                  | (refine wpList_load_mid rfl 67 (.tmp 59) rfl b (off + q * 65) (by first | rfl | (simp)) ck.cells _ Hra.out Tryz.underlying67 rfl (by rw [sizeCl, Hcl.out]) ?_)
                  | (refine wpList_value rfl (.bool (!ck.eqB Cl.zero)) (run_neq_cl _ (.tmp 60) (.tmp 61) rfl ck Cl.zero Hck.out Cl.zero_ok rfl rfl) ?_; rw [hcz]))
                go_roundw
                case rel =>
                  refine ⟨q + 1, by omega, by go_num, fun j hj => ?_, hB5⟩
                  rcases Nat.lt_succ_iff_lt_or_eq.1 hj with h1 | rfl
                  · exact Hz.out j h1
                  · rw [Hgd.out]; exact hcz
                case measure => simp [intOf]; omega
            · have hqn : q = n := by omega
              have Hany : Hid (peelT t = (sortD st.p, sortD st.m, true)) := Lib.hid (by
                rw [Hpt2.out, if_neg]
                rw [any_false (fun i hi => by rw [hz i (by omega)]; rfl)]
                decide)
              have hlt2' : ¬ (q : Int) < (n : Int) := by omega
              have hB5 := Below.then hB4 hb5 hB4.size
              have HP5 := Lib.hid (ownsRow_belowAll HP4.out hb5)
              have HM5 := Lib.hid (ownsRow_belowAll HM4.out hb5)
              clear hqn hz
              go_wp2
              refine bodyPost_ret (v := .tuple #[.slice (some ⟨g5, 0, none⟩) st.p.length c5, .slice (some ⟨g6, 0, none⟩) st.m.length c6, .bool true]) (by simp [results, Tryz.results24, go_sem]) rfl ?_
              exact ⟨_, _, by rw [Hany.out], by rw [Hany.out]; exact DigR.owns (l := sortD st.p) (by rw [sortD_len]; exact HP5.out) (sortD_ok Hok.out.2.1), by rw [Hany.out]; exact DigR.owns (l := sortD st.m) (by rw [sortD_len]; exact HM5.out) (sortD_ok Hok.out.2.2), hB5⟩
        | some p =>
          obtain ⟨hpn, hpp⟩ := firstP_is hfp
          rw [hstl] at hpn
          have hfi : firstI st.t = (p : Int) := by unfold firstI; rw [hfp]
          rw [hfi] at hf
          have Hf := Lib.hid hf
          have Hfp := Lib.hid hfp
          have hcn := pureB_n hpp
          have HT := Lib.hid hT
          have HP := Lib.hid hP
          have HM := Lib.hid hM
          have hpneg : ¬ (p : Int) < 0 := by omega
          clear hf hfi hfp hpp hT hP hM
          go_wp2_with fail
          refine Hf.out.mono ?_
          rintro e w3 ⟨rfl, hb3⟩
          have hT3 := HT.out.below hb3
          have hP3 := ownsRow_belowAll HP.out hb3
          have hM3 := ownsRow_belowAll HM.out hb3
          have hB3 := Below.then hB hb3 hB.size
          clear HT HP HM hB hb3
          obtain ⟨b, off, c', e', _, _, hSb, hbl, hra⟩ := hT3.at (i := p) (by omega)
          rw [hstl] at e'
          obtain ⟨rfl, rfl⟩ : o2 = some ⟨b, off, none⟩ ∧ c2 = c' := by simpa using e'
          have hckk : st.t[p].ok := hok.1 _ (List.getElem_mem _)
          have hgd : st.t.getD p Cl.zero = st.t[p] := by simp [List.getD_eq_getElem?_getD, List.getElem?_eq_getElem (show p < st.t.length by omega)]
          rw [hgd] at hcn
          have hpa : peelAt st p = ⟨putT st.t st.t[p].k (wrap64 (-st.t[p].n)), if st.t[p].n = 1 then st.p ++ [st.t[p].k] else st.p, if st.t[p].n = 1 then st.m else st.m ++ [st.t[p].k]⟩ := by unfold peelAt; rw [hgd]
          have hokn := peelAt_ok hok p
          have hnx : peelN (k + 1) ⟨t, [], []⟩ = peelAt st p := by
            show peel1 (peelN k ⟨t, [], []⟩) = _
            rw [Hst.out]; unfold peel1; rw [Hfp.out]
          generalize st.t[p] = ck at *
          have hkl : (bytesV ck.k).length = 32 := by rw [bytesV_len, hckk.1]
          have Hkl := Lib.hid hkl
          have Hck := Lib.hid hckk
          have Hcn := Lib.hid hcn
          have Hone : Hid (∀ u ∈ bytesV ck.k, u.oneCell' = true) := Lib.hid (bytesV_one ck.k)
          have hb6 : Below w3.heap.size w3 ((w3.alloc (.cells z0 39)).setCells w3.heap.size 0 (bytesV ck.k).toArray.toList) := below_setCells (Nat.le_refl _) _ _ _ (Below.one w3 (.cells z0 39))
          have xd := (Bx.new w3 z0 39).setAll (cx := (bytesV ck.k).toArray) (by rw [Hzl.out, List.size_toArray, Hkl.out])
          have HkR := Lib.hid (Cl.keys_at Hck.out hra)
          have cN := Cl.count_at (rangeAt_below hra hb6 hbl)
          have HT6 := Lib.hid (hT3.below hb6)
          have HP6 := Lib.hid (ownsRow_belowAll hP3 hb6)
          have HM6 := Lib.hid (ownsRow_belowAll hM3 hb6)
          have HB6 := Lib.hid (Below.then hB3 hb6 hB3.size)
          have Hxd := Lib.hid xd.range
          have HXD := Lib.hid xd
          have Hnx := Lib.hid hnx
          have Hpa := Lib.hid hpa
          have Hokn := Lib.hid hokn
          have Hb6 := Lib.hid hb6
          clear hkl hra e' hgd hpa hnx hokn hckk hT3 hP3 hM3 hB3 hSb Hlen Hst Hfp hcn xd hb6
          have Hokm := Lib.hid hok.2
          clear hok
          cases hq : (ck.n == 1)
          · have hn1 : ck.n = -1 := by
              rcases Hcn.out with h | h
              · rw [h] at hq; cases hq
              · exact h
            have Hpa2 : Hid (peelAt st p = ⟨putT st.t ck.k 1, st.p, st.m ++ [ck.k]⟩) := Lib.hid (by
              rw [Hpa.out, hn1]
              rw [if_neg (by decide), if_neg (by decide), show wrap64 (- -1) = 1 from by unfold wrap64; omega])
            have Hn1 := Lib.hid hn1
            clear hn1
            go_wp2_with (first
              | (refine wpList_load_mid rfl 39 (.tmp 31) rfl b (off + p * 65 + 1) (by first | rfl | (simp)) (bytesV ck.k) _ HkR.out Tryz.underlying39 rfl (by rw [sizeDg, Hkl.out]) ?_)
              | (refine wpList_alloc_row rfl 39 rfl z0 Hzi.out ?_)
              | (refine wpList_store_mid rfl 39 (.tmp 9) (.tmp 32) rfl w3.heap.size 0 (bytesV ck.k).toArray rfl rfl (there_bx (Bx.new w3 z0 39) (by rw [Hzl.out, List.size_toArray, Hkl.out]; exact Nat.le_refl _)) (by rw [sizeDg, List.size_toArray, Hkl.out]) (by simpa using Hone.out) ?_; generalize (w3.alloc (.cells z0 39)).setCells w3.heap.size 0 (bytesV ck.k).toArray.toList = w6 at *)
              | (refine wpList_load_mid rfl 39 (.tmp 9) rfl w3.heap.size 0 (by first | rfl | (simp)) (bytesV ck.k) _ (by simpa using Hxd.out) Tryz.underlying39 rfl (by rw [sizeDg, Hkl.out]) ?_))
            have hso := ref47_Sorted w6 g6 c6 (sortD st.m) ck.k (by rw [sortD_len]; exact DigR.owns (l := sortD st.m) (by rw [sortD_len]; exact HM6.out) (sortD_ok Hokm.out.2)) Hck.out.1 (by rw [sortD_len]; omega) (by rw [sortD_len]; exact owns_cap HM6.out)
            rw [sortD_len, insD_sort, sortD_len] at hso
            refine hso.mono ?_
            rintro e w8 ⟨g8, c8, rfl, ho8, hb8⟩
            have HT8 := Lib.hid (HT6.out.below hb8)
            have HN8 := Lib.hid (ownsRow_lower ho8 HB6.out.size)
            have HO8 := Lib.hid (ownsRow_belowAll HP6.out hb8)
            have HB8 := Lib.hid (Below.then HB6.out hb8 HB6.out.size)
            have Hxd8 := Lib.hid (HXD.out.belowAll hb8).range
            clear hso ho8 hb8 HT6 HP6 HM6 HB6
            go_wp2_with (refine wpList_load_mid rfl 39 (.tmp 9) rfl w3.heap.size 0 (by first | rfl | (simp)) (bytesV ck.k) _ (by simpa using Hxd8.out) Tryz.underlying39 rfl (by rw [sizeDg, Hkl.out]) ?_)
            have hadd := ref47_added w8 _ st.t ck.k 1 HT8.out (by omega) (by omega) Hck.out.1
            rw [hstl] at hadd
            refine hadd.mono ?_
            rintro e w9 ⟨g9, c9, rfl, ho9, hb9⟩
            have HT9 : Hid (∃ S' : Nat → Prop, TabR S' w9 (.slice (some ⟨g9, 0, none⟩) n c9) (peelAt st p).t) := Lib.hid ⟨_, by
              have hl8 := putT_len st.t ck.k 1
              rw [hstl] at hl8
              rw [Hpa2.out]
              exact TabR.owns (by rw [hl8]; exact ho9) (by have := Hokn.out.1; rw [Hpa2.out] at this; exact this)⟩
            have HN9 := Lib.hid (ownsRow_belowAll HN8.out hb9)
            have HO9 := Lib.hid (ownsRow_belowAll HO8.out hb9)
            have HB9 := Lib.hid (Below.then HB8.out hb9 HB8.out.size)
            clear hadd ho9 hb9 HT8 HN8 HO8 HB8 Hxd8
            go_wp2
            go_roundw
            case rel =>
              refine ⟨k + 1, peelAt st p, some ⟨g9, 0, none⟩, c9, g5, c5, g8, c8, by omega, by go_num, rfl, by rw [Hpa2.out], by rw [Hpa2.out]; simp, Lib.hid Hnx.out, Hokn.out, HT9.out, ?_, ?_, ?_, ?_, HB9.out⟩
              · rw [Hpa2.out]; show st.p.length ≤ k + 1; omega
              · rw [Hpa2.out]; simp; omega
              · rw [Hpa2.out]; exact HO9.out
              · rw [Hpa2.out]; have h9 := HN9.out; rw [List.length_append] at h9; rw [List.length_append]; exact h9
            case measure => simp [intOf]; omega
          · have hn1 : ck.n = 1 := by
              rcases Hcn.out with h | h
              · exact h
              · rw [h] at hq; cases hq
            have Hpa2 : Hid (peelAt st p = ⟨putT st.t ck.k (-1), st.p ++ [ck.k], st.m⟩) := Lib.hid (by
              rw [Hpa.out, hn1]
              rw [if_pos rfl, if_pos rfl, show wrap64 (-1) = -1 from by unfold wrap64; omega])
            have Hn1 := Lib.hid hn1
            clear hn1
            go_wp2_with (first
              | (refine wpList_load_mid rfl 39 (.tmp 31) rfl b (off + p * 65 + 1) (by first | rfl | (simp)) (bytesV ck.k) _ HkR.out Tryz.underlying39 rfl (by rw [sizeDg, Hkl.out]) ?_)
              | (refine wpList_alloc_row rfl 39 rfl z0 Hzi.out ?_)
              | (refine wpList_store_mid rfl 39 (.tmp 9) (.tmp 32) rfl w3.heap.size 0 (bytesV ck.k).toArray rfl rfl (there_bx (Bx.new w3 z0 39) (by rw [Hzl.out, List.size_toArray, Hkl.out]; exact Nat.le_refl _)) (by rw [sizeDg, List.size_toArray, Hkl.out]) (by simpa using Hone.out) ?_; generalize (w3.alloc (.cells z0 39)).setCells w3.heap.size 0 (bytesV ck.k).toArray.toList = w6 at *)
              | (refine wpList_load_mid rfl 39 (.tmp 9) rfl w3.heap.size 0 (by first | rfl | (simp)) (bytesV ck.k) _ (by simpa using Hxd.out) Tryz.underlying39 rfl (by rw [sizeDg, Hkl.out]) ?_))
            have hso := ref47_Sorted w6 g5 c5 (sortD st.p) ck.k (by rw [sortD_len]; exact DigR.owns (l := sortD st.p) (by rw [sortD_len]; exact HP6.out) (sortD_ok Hokm.out.1)) Hck.out.1 (by rw [sortD_len]; omega) (by rw [sortD_len]; exact owns_cap HP6.out)
            rw [sortD_len, insD_sort, sortD_len] at hso
            refine hso.mono ?_
            rintro e w8 ⟨g8, c8, rfl, ho8, hb8⟩
            have HT8 := Lib.hid (HT6.out.below hb8)
            have HN8 := Lib.hid (ownsRow_lower ho8 HB6.out.size)
            have HO8 := Lib.hid (ownsRow_belowAll HM6.out hb8)
            have HB8 := Lib.hid (Below.then HB6.out hb8 HB6.out.size)
            have Hxd8 := Lib.hid (HXD.out.belowAll hb8).range
            clear hso ho8 hb8 HT6 HP6 HM6 HB6
            go_wp2_with (refine wpList_load_mid rfl 39 (.tmp 9) rfl w3.heap.size 0 (by first | rfl | (simp)) (bytesV ck.k) _ (by simpa using Hxd8.out) Tryz.underlying39 rfl (by rw [sizeDg, Hkl.out]) ?_)
            have hadd := ref47_added w8 _ st.t ck.k (-1) HT8.out (by omega) (by omega) Hck.out.1
            rw [hstl] at hadd
            refine hadd.mono ?_
            rintro e w9 ⟨g9, c9, rfl, ho9, hb9⟩
            have HT9 : Hid (∃ S' : Nat → Prop, TabR S' w9 (.slice (some ⟨g9, 0, none⟩) n c9) (peelAt st p).t) := Lib.hid ⟨_, by
              have hl8 := putT_len st.t ck.k (-1)
              rw [hstl] at hl8
              rw [Hpa2.out]
              exact TabR.owns (by rw [hl8]; exact ho9) (by have := Hokn.out.1; rw [Hpa2.out] at this; exact this)⟩
            have HN9 := Lib.hid (ownsRow_belowAll HN8.out hb9)
            have HO9 := Lib.hid (ownsRow_belowAll HO8.out hb9)
            have HB9 := Lib.hid (Below.then HB8.out hb9 HB8.out.size)
            clear hadd ho9 hb9 HT8 HN8 HO8 HB8 Hxd8
            go_wp2
            go_roundw
            case rel =>
              refine ⟨k + 1, peelAt st p, some ⟨g9, 0, none⟩, c9, g8, c8, g6, c6, by omega, by go_num, rfl, by rw [Hpa2.out]; simp, by rw [Hpa2.out], Lib.hid Hnx.out, Hokn.out, HT9.out, ?_, ?_, ?_, ?_, HB9.out⟩
              · rw [Hpa2.out]; simp; omega
              · rw [Hpa2.out]; show st.m.length ≤ k + 1; omega
              · rw [Hpa2.out]; have h9 := HN9.out; rw [List.length_append] at h9; rw [List.length_append]; exact h9
              · rw [Hpa2.out]; exact HO9.out
            case measure => simp [intOf]; omega
      · obtain rfl : n = k := by omega
        have hlt' : ¬ (n : Int) < (n : Int) := by omega
        have hfin : peelN n ⟨t, [], []⟩ = st := Hst.out
        generalize hwe : w2 = w4 at *
        clear hwe
        have hT4 := hT
        have hP4 := hP
        have hM4 := hM
        have hB4 := hB
        clear hT hP hM hB
        have Hpt2 : Hid (peelT t = if st.t.any (fun c => !c.eqB Cl.zero) then ([], [], false) else (sortD st.p, sortD st.m, true)) := Lib.hid (by rw [Hpt.out, hfin])
        have HT4 := Lib.hid hT4
        have HP4 := Lib.hid hP4
        have HM4 := Lib.hid hM4
        have Hok := Lib.hid hok
        clear hfin hT4 hP4 hM4 hok
        go_wp2
        go_loopw [10] (fun i wr => ∃ q : Nat, q ≤ n ∧ i = .int .i64 q ∧ (∀ j, j < q → (st.t.getD j Cl.zero).eqB Cl.zero = true) ∧ Below w4.heap.size w4 wr) (fun i _ => n - (intOf i).toNat)
        case atStart => exact ⟨0, by omega, rfl, (fun j h => by omega), Below.refl _ _⟩
        case round =>
          obtain ⟨q, hq, rfl, hz, hb5⟩ := hrel
          by_cases hlt2 : q < n
          · have hlt2' : (q : Int) < (n : Int) := by omega
            obtain ⟨b, off, c', e', _, _, _, hbl, hra⟩ := (HT4.out.below hb5).at (i := q) (by omega)
            rw [hstl] at e'
            obtain ⟨rfl, rfl⟩ : o2 = some ⟨b, off, none⟩ ∧ c2 = c' := by simpa using e'
            have hgd : st.t.getD q Cl.zero = st.t[q] := by simp [List.getD_eq_getElem?_getD, List.getElem?_eq_getElem (show q < st.t.length by omega)]
            have Hck := Lib.hid (Hok.out.1 _ (List.getElem_mem (show q < st.t.length by omega)))
            generalize st.t[q] = ck at *
            have Hcl := Lib.hid (Cl.len Hck.out)
            have Hra := Lib.hid hra
            have Hz := Lib.hid hz
            have Hgd := Lib.hid hgd
            clear hra e' hgd hz
            cases hcz : ck.eqB Cl.zero
            · have Hany : Hid (peelT t = ([], [], false)) := Lib.hid (by
                rw [Hpt2.out, if_pos]
                rw [List.any_eq_true]
                refine ⟨st.t.getD q Cl.zero, ?_, by rw [Hgd.out, hcz]; rfl⟩
                rw [List.getD_eq_getElem?_getD, List.getElem?_eq_getElem (show q < st.t.length by omega)]
                exact List.getElem_mem _)
              have hB5 := Below.then hB4 hb5 hB4.size
              go_wp2_with (first
                | (refine wpList_load_mid rfl 67 (.tmp 59) rfl b (off + q * 65) (by first | rfl | (simp)) ck.cells _ Hra.out Tryz.underlying67 rfl (by rw [sizeCl, Hcl.out]) ?_)
                | (refine wpList_value rfl (.bool (!ck.eqB Cl.zero)) (run_neq_cl _ (.tmp 60) (.tmp 61) rfl ck Cl.zero Hck.out Cl.zero_ok rfl rfl) ?_; rw [hcz]))
              have hb6 : Below w.heap.size w ((wr.alloc (.cells #[] 39)).alloc (.cells #[] 39)) := (hB5.alloc hB5.size _).alloc (hB5.alloc hB5.size _).size _
              have hz5 := hB5.size
              have x0 : Bx ((wr.alloc (.cells #[] 39)).alloc (.cells #[] 39)) wr.heap.size #[] 39 := (Bx.new wr #[] 39).alloc _
              have x1 : Bx ((wr.alloc (.cells #[] 39)).alloc (.cells #[] 39)) (wr.heap.size + 1) #[] 39 := Bx.newAt (wr.alloc (.cells #[] 39)) _ _ _ (by simp)
              refine bodyPost_ret (v := .tuple #[.slice (some ⟨wr.heap.size, 0, none⟩) 0 0, .slice (some ⟨wr.heap.size + 1, 0, none⟩) 0 0, .bool false]) (by simp [results, Tryz.results24, go_sem]) rfl ?_
              exact ⟨_, _, by rw [Hany.out], by rw [Hany.out]; exact DigR.empty (ownsRow_bx0 x0 hz5), by rw [Hany.out]; exact DigR.empty (ownsRow_bx0 x1 (by omega)), hb6⟩
            · have hB5 := hb5
              go_wp2_with (first
                | (refine wpList_load_mid rfl 67 (.tmp 59) rfl b (off + q * 65) (by first | rfl | (simp)) ck.cells _ Hra.out Tryz.underlying67 rfl (by rw [sizeCl, Hcl.out]) ?_)
                | (refine wpList_value rfl (.bool (!ck.eqB Cl.zero)) (run_neq_cl _ (.tmp 60) (.tmp 61) rfl ck Cl.zero Hck.out Cl.zero_ok rfl rfl) ?_; rw [hcz]))
              go_roundw
              case rel =>
                refine ⟨q + 1, by omega, by go_num, fun j hj => ?_, hB5⟩
                rcases Nat.lt_succ_iff_lt_or_eq.1 hj with h1 | rfl
                · exact Hz.out j h1
                · rw [Hgd.out]; exact hcz
              case measure => simp [intOf]; omega
          · have hqn : q = n := by omega
            have Hany : Hid (peelT t = (sortD st.p, sortD st.m, true)) := Lib.hid (by
              rw [Hpt2.out, if_neg]
              rw [any_false (fun i hi => by rw [hz i (by omega)]; rfl)]
              decide)
            have hlt2' : ¬ (q : Int) < (n : Int) := by omega
            have hB5 := Below.then hB4 hb5 hB4.size
            have HP5 := Lib.hid (ownsRow_belowAll HP4.out hb5)
            have HM5 := Lib.hid (ownsRow_belowAll HM4.out hb5)
            clear hqn hz
            go_wp2
            refine bodyPost_ret (v := .tuple #[.slice (some ⟨g5, 0, none⟩) st.p.length c5, .slice (some ⟨g6, 0, none⟩) st.m.length c6, .bool true]) (by simp [results, Tryz.results24, go_sem]) rfl ?_
            exact ⟨_, _, by rw [Hany.out], by rw [Hany.out]; exact DigR.owns (l := sortD st.p) (by rw [sortD_len]; exact HP5.out) (sortD_ok Hok.out.2.1), by rw [Hany.out]; exact DigR.owns (l := sortD st.m) (by rw [sortD_len]; exact HM5.out) (sortD_ok Hok.out.2.2), hB5⟩
  · rw [hck]
    have Hpt : Hid (peelT t = ([], [], false)) := Lib.hid (by unfold peelT; rw [hck]; rfl)
    clear hck
    go_wp2
    refine bodyPost_ret (v := .tuple #[.slice (some ⟨w.heap.size, 0, none⟩) 0 0, .slice (some ⟨w.heap.size + 1, 0, none⟩) 0 0, .bool false]) (by simp [results, Tryz.results24, go_sem]) rfl ?_
    exact ⟨_, _, by rw [Hpt.out], by rw [Hpt.out]; exact DigR.empty HP0.out, by rw [Hpt.out]; exact DigR.empty HM0.out, Hb0.out⟩
end Go.Proofs.YtebgopdmeghmhaaGreat
