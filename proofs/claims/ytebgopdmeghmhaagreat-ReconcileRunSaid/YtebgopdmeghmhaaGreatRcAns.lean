/- reconcile.Answer. -/
import Derived.Test.YtebgopdmeghmhaaGreatRcAdd4
import Derived.Test.YtebgopdmeghmhaaGreatRcCheck
namespace Go.Proofs.YtebgopdmeghmhaaGreat
open Go.RowKit

theorem RgO.new {w w' : World} {base : Nat} {vr vw vg v : Value} {R : List Rg} (h : RgO w' base (Far base vr vw vg) v R) (hb : w.heap.size ≤ base) : RgsR (New w w') w' v R := by
  obtain ⟨vs, h1, h2, h3, h4⟩ := h
  obtain ⟨o, c, e, hs, hr, _⟩ := ownsRow_at h2
  exact ⟨o, c, vs, e, hs, h1, hr.mono fun b hb2 => ⟨Nat.le_trans hb hb2.1, hb2.2⟩, fun i hi => (h3 i hi).lt.mono fun b hb2 => ⟨Nat.le_trans hb hb2.1.1, hb2.2⟩, h4⟩
def AnsP (w : World) (A : Ans) (e : Ending) (w' : World) : Prop :=
  ∃ u x y, e = .returned (.tuple #[u, x, y, .int .i64 A.e]) ∧ RgsR (New w w') w' u A.r ∧ DigR (New w w') w' x A.w ∧ DigR (New w w') w' y A.g ∧ Below w.heap.size w w'
theorem flat_take {β : Type} {l : List Rg} {k : Nat} (hk : k < l.length) (f : Rg → List β) : (l.take (k + 1)).flatMap f = (l.take k).flatMap f ++ f l[k] := by
  rw [List.take_succ_eq_append_getElem hk, List.flatMap_append]
  simp
theorem flat_bound {β : Type} {l : List Rg} {f : Rg → List β} {m : Nat} (h : ∀ r ∈ l, (f r).length ≤ m) : (l.flatMap f).length ≤ l.length * m := by
  induction l with
  | nil => simp
  | cons r l ih =>
    rw [List.flatMap_cons, List.length_append, List.length_cons, Nat.add_mul]
    have := h r (by simp)
    have := ih fun r hr => h r (by simp [hr])
    omega
theorem partR_len (r : Rg) (o : List (List UInt8)) : (partR r o).length ≤ 2 := by
  unfold partR
  split
  · simp
  · split
    · simp
    · split <;> simp
theorem partW_len (r : Rg) (o : List (List UInt8)) : (partW r o).length ≤ r.ids.length := by
  unfold partW
  split
  · exact List.length_filter_le _ _
  · simp
theorem partG_len (r : Rg) (o : List (List UInt8)) : (partG r o).length ≤ o.length := by
  unfold partG
  split
  · exact List.length_filter_le _ _
  · simp
set_option maxRecDepth 100000 in
set_option maxHeartbeats 8000000 in
theorem rc_Answer {S1 S2 : Nat → Prop} (w : World) (v v2 : Value) (ids : List (List UInt8)) (l : List Rg) (h : DigR S1 w v ids) (h2 : RgsR S2 w v2 l) (hm : ids.length ≤ 1000000) (hl : l.length ≤ 4611686018427387904) (hmi : ∀ r ∈ l, r.ids.length ≤ 1000000) :
    Calls Tryz.prog 12 #[v, v2] w (AnsP w (ansD ids l)) := by
  obtain ⟨o, c, rfl⟩ : ∃ o c, v = .slice o ids.length c := by obtain ⟨⟨o, c, e, _⟩, _⟩ := h; rw [digC_size] at e; exact ⟨o, c, e⟩
  obtain ⟨o2, c2, rfl⟩ := h2.slice
  obtain ⟨z1, hz1⟩ : ∃ z, ((⟨zeroD, zeroD, false, 0, zeroD, []⟩ : Rg).cells (.slice none 0 0)).toArray = z := ⟨_, rfl⟩
  have hzl : z1.size = 99 := by rw [← hz1]; rfl
  have Hzi : Hid ((Tryz.prog.info? 41).map (·.zero) = some (some (.agg z1))) := Lib.hid (by
    have := infoRg
    rw [hz1] at this
    obtain ⟨i, hi, hj⟩ := Option.map_eq_some_iff.1 this
    rw [hi]
    simp only [Option.map_some]
    rw [(Prod.mk.inj hj).1])
  have Hzl := Lib.hid hzl
  have Hasc := Lib.hid (rc_ascending w _ ids h hm)
  have HI := Lib.hid h
  have HL := Lib.hid h2
  have Hmi := Lib.hid hmi
  have Hck := Lib.hid (fun W (hW : Below w.heap.size w W) => rc_Check W _ l (h2.below hW) hl hmi)
  obtain ⟨n, hn⟩ : ∃ n, l.length = n := ⟨_, rfl⟩
  have Hn := Lib.hid hn
  obtain ⟨m, hmm⟩ : ∃ m, ids.length = m := ⟨_, rfl⟩
  have Hm := Lib.hid hmm
  rw [hn] at Hck HL hl ⊢
  rw [hmm] at Hasc HI hm ⊢
  clear h h2 hmi hn hmm hz1 hzl
  go_enter Tryz.func12, Tryz.ntmps12
  cases ha : ascB ids
  · rw [ha] at Hasc
    have Hres : Hid (ansD ids l = ⟨[], [], [], 9⟩) := Lib.hid (by unfold ansD; rw [ha]; rfl)
    go_wp2_with fail
    refine Hasc.out.mono ?_
    rintro e w1 ⟨rfl, hb1⟩
    go_wp2
    rw [Hres.out]
    exact bodyPost_ret (v := .tuple #[.slice none 0 0, .slice none 0 0, .slice none 0 0, .int .i64 9]) (by simp [results, Tryz.results12, go_sem]) rfl ⟨_, _, _, rfl, RgsR.nil _ _, DigR.nil0 _ _, DigR.nil0 _ _, hb1⟩
  · rw [ha] at Hasc
    go_wp2_with fail
    refine Hasc.out.mono ?_
    rintro e w1 ⟨rfl, hb1⟩
    have Hck1 := Lib.hid (Hck.out w1 hb1)
    clear Hck
    cases hc : (checkR l != 0)
    · have hc0 : checkR l = 0 := by simpa using hc
      have Hres : Hid (ansD ids l = ⟨l.flatMap fun r => partR r (ownR ids r), l.flatMap fun r => partW r (ownR ids r), l.flatMap fun r => partG r (ownR ids r), 0⟩) := Lib.hid (by unfold ansD; rw [ha, if_pos rfl, if_pos hc0])
      have hlen : n ≤ 1000 := by have := (of_checkR hc0).2.2; rwa [Hn.out] at this
      rw [hc0] at Hck1
      clear hc hc0
      go_wp2_with fail
      refine Hck1.out.mono ?_
      rintro e w2 ⟨rfl, hb2⟩
      have hB2 := Below.then hb1 hb2 hb1.size
      clear hb1 hb2 Hck1
      have xa := Bx.new w2 #[.slice none 0 0, .slice none 0 0, .slice none 0 0] 52
      have hB3 := hB2.alloc hB2.size (.cells #[.slice none 0 0, .slice none 0 0, .slice none 0 0] 52)
      have Xa := Lib.hid xa
      have hg2 := hB2.size
      have hA0 := Lib.hid (Acc.start (w2.alloc (.cells #[.slice none 0 0, .slice none 0 0, .slice none 0 0] 52)) (w2.heap.size + 1))
      clear xa
      go_wp2
      generalize w2.alloc (.cells #[.slice none 0 0, .slice none 0 0, .slice none 0 0] 52) = w3 at *
      go_loopw [22] (fun i wr => ∃ (k : Nat) (vr vw vg : Value), k ≤ n ∧ i = .int .i64 k ∧ Bx wr w2.heap.size #[vr, vw, vg] 52 ∧ Acc wr (w2.heap.size + 1) vr vw vg ((l.take k).flatMap fun r => partR r (ownR ids r)) ((l.take k).flatMap fun r => partW r (ownR ids r)) ((l.take k).flatMap fun r => partG r (ownR ids r)) ∧ Below w.heap.size w wr) (fun i _ => n - (intOf i).toNat)
      case atStart => exact ⟨0, _, _, _, by omega, rfl, Xa.out, hA0.out, hB3⟩
      case round =>
        clear Xa hA0 hB3
        obtain ⟨k, vr, vw, vg, hk, rfl, hX, hA, hB⟩ := hrel
        have HX := Lib.hid hX
        have HA := Lib.hid hA
        clear hX hA
        by_cases hlt : k < n
        · have hltl : k < l.length := by rw [Hn.out]; exact hlt
          have hlt' : (k : Int) < (n : Int) := by omega
          obtain ⟨b, off, c', vi, e', _, _, _, hb0, hra, hd, hok⟩ := (by have := HL.out; rw [← Hn.out] at this; exact this.at hltl)
          rw [Hn.out] at e'
          obtain ⟨rfl, rfl⟩ : o2 = some ⟨b, off, none⟩ ∧ c2 = c' := by simpa using e'
          have hvi : vi.oneCell' = true := by obtain ⟨⟨o, c, e, _⟩, _⟩ := hd; rw [e]; rfl
          have Hlen := Lib.hid (Rg.len hok vi)
          have Hone1 := Lib.hid (Rg.one l[k] vi hvi)
          have Hra := Lib.hid (rangeAt_below hra hB hb0)
          have hb := Nat.lt_of_lt_of_le hb0 hB.size
          have hb6 : Below wr.heap.size wr ((wr.alloc (.cells z1 41)).setCells wr.heap.size 0 (l[k].cells vi).toArray.toList) := below_setCells (Nat.le_refl _) _ _ _ (Below.one wr (.cells z1 41))
          have xd := (Bx.new wr z1 41).setAll (cx := (l[k].cells vi).toArray) (by rw [Hzl.out, List.size_toArray, Hlen.out])
          have Xd := Lib.hid xd
          have hdl := hd.lt
          have Hd0 := Lib.hid hdl
          have H6 := Lib.hid hb6
          have lX := xd.lt
          have Hok := Lib.hid hok
          have Hml : Hid (l[k].ids.length ≤ 1000000) := Lib.hid (Hmi.out _ (List.getElem_mem hltl))
          have Hf1 := Lib.hid (flat_take hltl fun r => partR r (ownR ids r))
          have Hf2 := Lib.hid (flat_take hltl fun r => partW r (ownR ids r))
          have Hf3 := Lib.hid (flat_take hltl fun r => partG r (ownR ids r))
          have hs6 := hb6.size
          clear hra hd hok e' hvi xd hb6 hdl hb0
          generalize hx : l[k] = x at *
          clear hx hltl
          go_wp2_with (first
            | (refine wpList_load_mid rfl 41 (.tmp 24) rfl b (off + k * 99) rfl (x.cells vi) _ Hra.out Tryz.underlying41 rfl (by rw [sizeRg, Hlen.out]) ?_)
            | (refine wpList_alloc_row rfl 41 rfl z1 Hzi.out ?_)
            | (refine wpList_store_mid rfl 41 (.tmp 11) (.tmp 25) rfl wr.heap.size 0 (x.cells vi).toArray rfl rfl (there_bx (Bx.new wr z1 41) (by rw [Hzl.out, List.size_toArray, Hlen.out]; exact Nat.le_refl _)) (by rw [sizeRg, List.size_toArray, Hlen.out]) (by simpa using Hone1.out) ?_; generalize (wr.alloc (.cells z1 41)).setCells wr.heap.size 0 (x.cells vi).toArray.toList = w6 at *))
          (try simp only [Act.put, List.setIfInBounds_toArray, List.set_cons_zero, List.set_cons_succ])
          refine wp_region_start #[false, false, false, false, false, false] 6 (by kernel_rfl) (by rfl) rfl ?_
          have hbd : Below wr.heap.size wr w6.drew := H6.out.drew
          have Xd' := Lib.hid (Bx.drew Xd.out)
          have hzd : w6.drew.heap.size = w6.heap.size := rfl
          have lXd : wr.heap.size < w6.drew.heap.size := lX
          clear H6 Xd lX hs6 Hra hzd
          generalize w6.drew = wd at *
          have HId : Hid (DigR S1 wd (.slice o ids.length c) ids) := Lib.hid (by have h1 := (HI.out.below hB).below hbd; rw [← Hm.out] at h1; exact h1)
          have Hcl := Lib.hid (sl_Clone wd _ ids HId.out (by rw [Hm.out]; exact hm))
          rw [Hm.out] at Hcl
          have HAd := Lib.hid (HA.out.below hbd)
          have HXd := Lib.hid (HX.out.belowAll hbd)
          have hBd := Below.then hB hbd hB.size
          have lg := HX.out.lt
          refine wpAny_tk1 (v := .slice o m c) #[false, true, false, false, false, false] (by kernel_rfl) (by kernel_rfl) (by kernel_rfl) (fun _ _ _ h => h) (by rfl) (fun w => by rfl) (by rfl) ?_
          simp only [Act.put, List.setIfInBounds_toArray, List.set_cons_zero, List.set_cons_succ]
          refine wpAny_tk3 (v := .func (.func 30) #[] #[.pointer (some ⟨wr.heap.size, 0, none⟩)]) #[false, true, false, true, false, false] (by kernel_rfl) (by kernel_rfl) (by kernel_rfl) (fun _ _ _ h => h) (by rfl) (fun w => by go_simp; try with_reducible rfl) (by rfl) ?_
          simp only [Act.put, List.setIfInBounds_toArray, List.set_cons_zero, List.set_cons_succ]
          refine wpAny_ready (rs := [0, 2]) (by kernel_rfl) (by simp) ?_
          refine AllReady.cons rfl (fun K hK => ?_) (AllReady.cons rfl (fun K hK => ?_) AllReady.nil)
          · refine wp_load_mid 41 (.tmp 11) rfl wr.heap.size 0 rfl (x.cells vi) _ (by have := Xd'.out.range; simpa using this) Tryz.underlying41 rfl (by rw [sizeRg, Hlen.out]) ?_
            refine hK _ _ ?_
            clear hK K
            simp only [Act.put, List.setIfInBounds_toArray, List.set_cons_zero]
            refine wpAny_ready (rs := [2]) (by kernel_rfl) (by simp) ?_
            refine AllReady.cons rfl (fun K hK => ?_) AllReady.nil
            go_simp
            refine Hcl.out.mono ?_
            rintro e w7 ⟨u, rfl, ho7, hb7⟩
            refine hK _ _ ?_
            clear hK K
            have Ho7 := Lib.hid ho7
            have HX7 := Lib.hid (Xd'.out.belowAll hb7)
            have hbw7 := Below.then hbd hb7 hbd.size
            have Hdel := Lib.hid (sl_DeleteFunc w7 u ids ho7 (by rw [Hm.out]; exact hm) hb7.size (fun d => !insB x.low x.high d) 30 #[.pointer (some ⟨wr.heap.size, 0, none⟩)] (fun args W => rfl) (fun W d hg hd => rc_Answer1 d hd wr.heap.size x vi Hok.out W (HX7.out.grown hg (fun e => by have := (Ho7.out.lt e.symm).1; omega))))
            have hz7 := hbd.size
            clear ho7 hb7 Hcl
            refine wpAny_ready (rs := [4]) (by kernel_rfl) (by simp) ?_
            refine AllReady.cons rfl (fun K hK => ?_) AllReady.nil
            go_simp
            refine Hdel.out.mono ?_
            rintro e w8 ⟨u8, rfl, ho8, hg8⟩
            refine hK _ _ ?_
            clear hK K
            have Ho8 : Hid (DgO w8 wd.heap.size u8 (ownR ids x)) := Lib.hid (by
              have e1 : (ids.filter fun d => !(!insB x.low x.high d)) = ownR ids x := by simp [ownR, own]
              rw [← e1]; exact ho8)
            have hbw8 : Below wr.heap.size wr w8 := hbw7.grown hg8 hbw7.size (fun q e => by have := (Ho7.out.lt e).1; omega)
            have HX8 := Lib.hid (HX7.out.grown hg8 (fun e => by have := (Ho7.out.lt e.symm).1; omega))
            clear ho8 hg8 Hdel
            refine wpAny_ready (rs := [5]) (by kernel_rfl) (by simp) ?_
            refine AllReady.cons rfl (fun K hK => ?_) AllReady.nil
            have HA8 := HA.out.below hbw8
            have hx8 := HX.out.belowAll hbw8
            have hg8 := hx8.lt
            have hoff : ∀ q, wr.heap.size ≤ q → Off w2.heap.size vr vw vg q := fun q hq => ⟨by omega, fun e => by have := (HA.out.rs.lt e).2; omega, fun e => by have := (HA.out.ws.lt e).2; omega, fun e => by have := (HA.out.gs.lt e).2; omega⟩
            have hoff2 : ∀ q, q < w.heap.size → Off w2.heap.size vr vw vg q := fun q hq => ⟨by omega, fun e => by have := (HA.out.rs.lt e).1; omega, fun e => by have := (HA.out.ws.lt e).1; omega, fun e => by have := (HA.out.gs.lt e).1; omega⟩
            have hfb : ∀ {f : Rg → List (List UInt8)}, (∀ r ∈ l, (f r).length ≤ 1000000) → ((l.take k).flatMap f).length ≤ 1000000000 := fun {f} hf => by
              have h1 := flat_bound (l := l.take k) (f := f) (m := 1000000) (fun r hr => hf r (List.mem_of_mem_take hr))
              have h2 : (l.take k).length ≤ 1000 := by rw [List.length_take]; omega
              have h3 := Nat.mul_le_mul_right 1000000 h2
              omega
            have hfr : ((l.take k).flatMap fun r => partR r (ownR ids r)).length ≤ 1000000000 := by
              have h1 := flat_bound (l := l.take k) (f := fun r => partR r (ownR ids r)) (m := 2) (fun r _ => partR_len _ _)
              have h2 : (l.take k).length ≤ 1000 := by rw [List.length_take]; omega
              omega
            have hol : ∀ r : Rg, (ownR ids r).length ≤ 1000000 := fun r => Nat.le_trans (List.length_filter_le _ _) (by rw [Hm.out]; exact hm)
            have hadd := rc_add w8 (w2.heap.size + 1) w2.heap.size vr vw vg _ _ _ x vi u8 (ownR ids x) hx8 (Nat.lt_succ_self _) hg8 HA8 Hok.out ((Hd0.out.below (hB.trans (hbw8.mono hB.size))).mono fun q hq => hoff2 q hq.2) (Ho8.out.dig.mono fun q hq => hoff q (Nat.le_trans hbd.size hq.1)) Hml.out (hol x) (hfb fun r hr => Nat.le_trans (partW_len _ _) (Hmi.out r hr)) (hfb fun r _ => Nat.le_trans (partG_len _ _) (hol r)) hfr
            go_simp
            refine hadd.mono ?_
            rintro e w9 ⟨rfl, vr', vw', vg', hx9, hA9, hb9⟩
            refine hK _ _ ?_
            clear hK K
            refine wpAny_done (by kernel_rfl) ?_ _
            rw [← Hf1.out, ← Hf2.out, ← Hf3.out] at hA9
            have Hx9 := Lib.hid hx9
            have HA9 := Lib.hid hA9
            have hB9 : Below w.heap.size w w9 := (hB.trans (hbw8.mono hB.size)).trans (hb9.mono hg2)
            clear hx9 hA9 hb9 hadd hfr hfb hol hoff hoff2 HA8 hx8
            go_wp2
            go_roundw
            case rel => exact ⟨k + 1, vr', vw', vg', by omega, by go_num, Hx9.out, HA9.out, hB9⟩
            case measure => simp [intOf]; omega
          · go_simp
            refine Hcl.out.mono ?_
            rintro e w7 ⟨u, rfl, ho7, hb7⟩
            refine hK _ _ ?_
            clear hK K
            have Ho7 := Lib.hid ho7
            have HX7 := Lib.hid (Xd'.out.belowAll hb7)
            have hbw7 := Below.then hbd hb7 hbd.size
            have Hdel := Lib.hid (sl_DeleteFunc w7 u ids ho7 (by rw [Hm.out]; exact hm) hb7.size (fun d => !insB x.low x.high d) 30 #[.pointer (some ⟨wr.heap.size, 0, none⟩)] (fun args W => rfl) (fun W d hg hd => rc_Answer1 d hd wr.heap.size x vi Hok.out W (HX7.out.grown hg (fun e => by have := (Ho7.out.lt e.symm).1; omega))))
            have hz7 := hbd.size
            clear ho7 hb7 Hcl
            refine wpAny_ready (rs := [0, 4]) (by kernel_rfl) (by simp) ?_
            refine AllReady.cons rfl (fun K hK => ?_) (AllReady.cons rfl (fun K hK => ?_) AllReady.nil)
            · refine wp_load_mid 41 (.tmp 11) rfl wr.heap.size 0 rfl (x.cells vi) _ (by have := HX7.out.range; simpa using this) Tryz.underlying41 rfl (by rw [sizeRg, Hlen.out]) ?_
              refine hK _ _ ?_
              clear hK K
              simp only [Act.put, List.setIfInBounds_toArray, List.set_cons_zero, List.set_cons_succ]
              refine wpAny_ready (rs := [4]) (by kernel_rfl) (by simp) ?_
              refine AllReady.cons rfl (fun K hK => ?_) AllReady.nil
              go_simp
              refine Hdel.out.mono ?_
              rintro e w8 ⟨u8, rfl, ho8, hg8⟩
              refine hK _ _ ?_
              clear hK K
              have Ho8 : Hid (DgO w8 wd.heap.size u8 (ownR ids x)) := Lib.hid (by
                have e1 : (ids.filter fun d => !(!insB x.low x.high d)) = ownR ids x := by simp [ownR, own]
                rw [← e1]; exact ho8)
              have hbw8 : Below wr.heap.size wr w8 := hbw7.grown hg8 hbw7.size (fun q e => by have := (Ho7.out.lt e).1; omega)
              have HX8 := Lib.hid (HX7.out.grown hg8 (fun e => by have := (Ho7.out.lt e.symm).1; omega))
              clear ho8 hg8 Hdel
              refine wpAny_ready (rs := [5]) (by kernel_rfl) (by simp) ?_
              refine AllReady.cons rfl (fun K hK => ?_) AllReady.nil
              have HA8 := HA.out.below hbw8
              have hx8 := HX.out.belowAll hbw8
              have hg8 := hx8.lt
              have hoff : ∀ q, wr.heap.size ≤ q → Off w2.heap.size vr vw vg q := fun q hq => ⟨by omega, fun e => by have := (HA.out.rs.lt e).2; omega, fun e => by have := (HA.out.ws.lt e).2; omega, fun e => by have := (HA.out.gs.lt e).2; omega⟩
              have hoff2 : ∀ q, q < w.heap.size → Off w2.heap.size vr vw vg q := fun q hq => ⟨by omega, fun e => by have := (HA.out.rs.lt e).1; omega, fun e => by have := (HA.out.ws.lt e).1; omega, fun e => by have := (HA.out.gs.lt e).1; omega⟩
              have hfb : ∀ {f : Rg → List (List UInt8)}, (∀ r ∈ l, (f r).length ≤ 1000000) → ((l.take k).flatMap f).length ≤ 1000000000 := fun {f} hf => by
                have h1 := flat_bound (l := l.take k) (f := f) (m := 1000000) (fun r hr => hf r (List.mem_of_mem_take hr))
                have h2 : (l.take k).length ≤ 1000 := by rw [List.length_take]; omega
                have h3 := Nat.mul_le_mul_right 1000000 h2
                omega
              have hfr : ((l.take k).flatMap fun r => partR r (ownR ids r)).length ≤ 1000000000 := by
                have h1 := flat_bound (l := l.take k) (f := fun r => partR r (ownR ids r)) (m := 2) (fun r _ => partR_len _ _)
                have h2 : (l.take k).length ≤ 1000 := by rw [List.length_take]; omega
                omega
              have hol : ∀ r : Rg, (ownR ids r).length ≤ 1000000 := fun r => Nat.le_trans (List.length_filter_le _ _) (by rw [Hm.out]; exact hm)
              have hadd := rc_add w8 (w2.heap.size + 1) w2.heap.size vr vw vg _ _ _ x vi u8 (ownR ids x) hx8 (Nat.lt_succ_self _) hg8 HA8 Hok.out ((Hd0.out.below (hB.trans (hbw8.mono hB.size))).mono fun q hq => hoff2 q hq.2) (Ho8.out.dig.mono fun q hq => hoff q (Nat.le_trans hbd.size hq.1)) Hml.out (hol x) (hfb fun r hr => Nat.le_trans (partW_len _ _) (Hmi.out r hr)) (hfb fun r _ => Nat.le_trans (partG_len _ _) (hol r)) hfr
              go_simp
              refine hadd.mono ?_
              rintro e w9 ⟨rfl, vr', vw', vg', hx9, hA9, hb9⟩
              refine hK _ _ ?_
              clear hK K
              refine wpAny_done (by kernel_rfl) ?_ _
              rw [← Hf1.out, ← Hf2.out, ← Hf3.out] at hA9
              have Hx9 := Lib.hid hx9
              have HA9 := Lib.hid hA9
              have hB9 : Below w.heap.size w w9 := (hB.trans (hbw8.mono hB.size)).trans (hb9.mono hg2)
              clear hx9 hA9 hb9 hadd hfr hfb hol hoff hoff2 HA8 hx8
              go_wp2
              go_roundw
              case rel => exact ⟨k + 1, vr', vw', vg', by omega, by go_num, Hx9.out, HA9.out, hB9⟩
              case measure => simp [intOf]; omega
            · go_simp
              refine Hdel.out.mono ?_
              rintro e w8 ⟨u8, rfl, ho8, hg8⟩
              refine hK _ _ ?_
              clear hK K
              have Ho8 : Hid (DgO w8 wd.heap.size u8 (ownR ids x)) := Lib.hid (by
                have e1 : (ids.filter fun d => !(!insB x.low x.high d)) = ownR ids x := by simp [ownR, own]
                rw [← e1]; exact ho8)
              have hbw8 : Below wr.heap.size wr w8 := hbw7.grown hg8 hbw7.size (fun q e => by have := (Ho7.out.lt e).1; omega)
              have HX8 := Lib.hid (HX7.out.grown hg8 (fun e => by have := (Ho7.out.lt e.symm).1; omega))
              clear ho8 hg8 Hdel
              refine wpAny_ready (rs := [0]) (by kernel_rfl) (by simp) ?_
              refine AllReady.cons rfl (fun K hK => ?_) AllReady.nil
              refine wp_load_mid 41 (.tmp 11) rfl wr.heap.size 0 rfl (x.cells vi) _ (by have := HX8.out.range; simpa using this) Tryz.underlying41 rfl (by rw [sizeRg, Hlen.out]) ?_
              refine hK _ _ ?_
              clear hK K
              simp only [Act.put, List.setIfInBounds_toArray, List.set_cons_zero, List.set_cons_succ]
              refine wpAny_ready (rs := [5]) (by kernel_rfl) (by simp) ?_
              refine AllReady.cons rfl (fun K hK => ?_) AllReady.nil
              have HA8 := HA.out.below hbw8
              have hx8 := HX.out.belowAll hbw8
              have hg8 := hx8.lt
              have hoff : ∀ q, wr.heap.size ≤ q → Off w2.heap.size vr vw vg q := fun q hq => ⟨by omega, fun e => by have := (HA.out.rs.lt e).2; omega, fun e => by have := (HA.out.ws.lt e).2; omega, fun e => by have := (HA.out.gs.lt e).2; omega⟩
              have hoff2 : ∀ q, q < w.heap.size → Off w2.heap.size vr vw vg q := fun q hq => ⟨by omega, fun e => by have := (HA.out.rs.lt e).1; omega, fun e => by have := (HA.out.ws.lt e).1; omega, fun e => by have := (HA.out.gs.lt e).1; omega⟩
              have hfb : ∀ {f : Rg → List (List UInt8)}, (∀ r ∈ l, (f r).length ≤ 1000000) → ((l.take k).flatMap f).length ≤ 1000000000 := fun {f} hf => by
                have h1 := flat_bound (l := l.take k) (f := f) (m := 1000000) (fun r hr => hf r (List.mem_of_mem_take hr))
                have h2 : (l.take k).length ≤ 1000 := by rw [List.length_take]; omega
                have h3 := Nat.mul_le_mul_right 1000000 h2
                omega
              have hfr : ((l.take k).flatMap fun r => partR r (ownR ids r)).length ≤ 1000000000 := by
                have h1 := flat_bound (l := l.take k) (f := fun r => partR r (ownR ids r)) (m := 2) (fun r _ => partR_len _ _)
                have h2 : (l.take k).length ≤ 1000 := by rw [List.length_take]; omega
                omega
              have hol : ∀ r : Rg, (ownR ids r).length ≤ 1000000 := fun r => Nat.le_trans (List.length_filter_le _ _) (by rw [Hm.out]; exact hm)
              have hadd := rc_add w8 (w2.heap.size + 1) w2.heap.size vr vw vg _ _ _ x vi u8 (ownR ids x) hx8 (Nat.lt_succ_self _) hg8 HA8 Hok.out ((Hd0.out.below (hB.trans (hbw8.mono hB.size))).mono fun q hq => hoff2 q hq.2) (Ho8.out.dig.mono fun q hq => hoff q (Nat.le_trans hbd.size hq.1)) Hml.out (hol x) (hfb fun r hr => Nat.le_trans (partW_len _ _) (Hmi.out r hr)) (hfb fun r _ => Nat.le_trans (partG_len _ _) (hol r)) hfr
              go_simp
              refine hadd.mono ?_
              rintro e w9 ⟨rfl, vr', vw', vg', hx9, hA9, hb9⟩
              refine hK _ _ ?_
              clear hK K
              refine wpAny_done (by kernel_rfl) ?_ _
              rw [← Hf1.out, ← Hf2.out, ← Hf3.out] at hA9
              have Hx9 := Lib.hid hx9
              have HA9 := Lib.hid hA9
              have hB9 : Below w.heap.size w w9 := (hB.trans (hbw8.mono hB.size)).trans (hb9.mono hg2)
              clear hx9 hA9 hb9 hadd hfr hfb hol hoff hoff2 HA8 hx8
              go_wp2
              go_roundw
              case rel => exact ⟨k + 1, vr', vw', vg', by omega, by go_num, Hx9.out, HA9.out, hB9⟩
              case measure => simp [intOf]; omega
        · obtain rfl : k = n := by omega
          have hlt' : ¬ (k : Int) < (k : Int) := by omega
          have hall : l.take k = l := List.take_of_length_le (by rw [Hn.out]; exact Nat.le_refl _)
          rw [hall] at HA
          have cQ := Lat.cells wr
          have lg := HX.out.lt
          have a0 : wr.cell? ⟨w2.heap.size, 0, none⟩ = some vr := by rw [HX.out.cell]; rfl
          have a1 : wr.cell? ⟨w2.heap.size, 1, none⟩ = some vw := by rw [HX.out.cell]; rfl
          have a2 : wr.cell? ⟨w2.heap.size, 2, none⟩ = some vg := by rw [HX.out.cell]; rfl
          clear hall
          go_wp2
          refine wp_region_lat (by kernel_rfl) (by kernel_rfl) ?_
          repeat (first | go_big_quiet_skip | (go_big_quiet_want; first | ((fail); simp only [Act.put, List.setIfInBounds_toArray, List.set_cons_zero, List.set_cons_succ]; go_big_quiet_on) | (go_big_quiet_op; first | go_big_quiet_on | go_big_quiet_call ((fail)))))
          refine wpQuiet_nil ?_
          rintro W4 ⟨⟨_, hb4⟩, rfl⟩
          have hB4 := Below.then hB hb4 hB.size
          have HA4 := Lib.hid (HA.out.below hb4)
          clear cQ a0 a1 a2
          go_wp2
          rw [Hres.out]
          refine bodyPost_ret (v := .tuple #[vr, vw, vg, .int .i64 0]) (by simp [results, Tryz.results12, go_sem]) rfl ⟨_, _, _, rfl, HA4.out.rs.new (by omega), HA4.out.ws.dig.mono fun b hb => ⟨by have := hb.1; omega, hb.2⟩, HA4.out.gs.dig.mono fun b hb => ⟨by have := hb.1; omega, hb.2⟩, hB4⟩
    · have Hres : Hid (ansD ids l = ⟨[], [], [], checkR l⟩) := Lib.hid (by unfold ansD; rw [ha, if_pos rfl, if_neg (by simpa using hc)])
      go_wp2_with fail
      refine Hck1.out.mono ?_
      rintro e w2 ⟨rfl, hb2⟩
      have hB2 := Below.then hb1 hb2 hb1.size
      clear hb1 hb2 Hck1
      go_wp2
      rw [Hres.out]
      exact bodyPost_ret (v := .tuple #[.slice none 0 0, .slice none 0 0, .slice none 0 0, .int .i64 (checkR l)]) (by simp [results, Tryz.results12, go_sem]) rfl ⟨_, _, _, rfl, RgsR.nil _ _, DigR.nil0 _ _, DigR.nil0 _ _, hB2⟩
end Go.Proofs.YtebgopdmeghmhaaGreat
