/- quiltref48.marked. reconcile.Start and quiltref48.Start. -/
import Derived.Test.YtebgopdmeghmhaaGreatRcCheck
import Derived.Test.YtebgopdmeghmhaaGreatRcDesc
import Derived.Test.YtebgopdmeghmhaaGreatRcSpec
namespace Go.Proofs.YtebgopdmeghmhaaGreat
open Go.RowKit

set_option maxRecDepth 100000 in
set_option maxHeartbeats 2000000 in
theorem rf_marked {S : Nat → Prop} (w : World) (x y : List UInt8) (hx : x.length = 32) (hy : y.length = 32) (v : Value) (l : List (List UInt8)) (h : DigR S w v l) (hm : l.length ≤ 1000000) :
    Calls Tryz.prog 37 #[dgV x, dgV y, v] w fun e w' => e = .returned ((summR x y l).V (.slice none 0 0)) ∧ Below w.heap.size w w' := by
  obtain ⟨o, c, rfl⟩ : ∃ o c, v = .slice o l.length c := by obtain ⟨⟨o, c, e, _⟩, _⟩ := h; rw [digC_size] at e; exact ⟨o, c, e⟩
  obtain ⟨z1, hz1⟩ : ∃ z, ((⟨zeroD, zeroD, false, 0, zeroD, []⟩ : Rg).cells (.slice none 0 0)).toArray = z := ⟨_, rfl⟩
  have hzl : z1.size = 99 := by rw [← hz1]; rfl
  have Hzi : Hid ((Tryz.prog.info? 41).map (·.zero) = some (some (.agg z1))) := Lib.hid (by
    have := infoRg
    rw [hz1] at this
    obtain ⟨i, hi, hj⟩ := Option.map_eq_some_iff.1 this
    rw [hi]
    simp only [Option.map_some]
    rw [(Prod.mk.inj hj).1])
  have Hzl := Lib.hid hzl
  have hok : (summR x y l).ok := ⟨hx, hy, printD_len l, fun _ h => by cases h⟩
  have Hlen := Lib.hid (Rg.len hok (.slice none 0 0))
  have Hone := Lib.hid (Rg.one (summR x y l) (.slice none 0 0) rfl)
  have Hfill := Lib.hid (rg_fill_marked (c := (l.length : Int)) hx hy (printD_len l))
  have Hxl : Hid ((bytesV x).length = 32) := Lib.hid (by rw [bytesV_len, hx])
  have Hyl : Hid ((bytesV y).length = 32) := Lib.hid (by rw [bytesV_len, hy])
  have xx := ((Bx.new w (bytesV x).toArray 39).alloc (.cells (bytesV y).toArray 39)).alloc (.cells z1 41)
  have xy := (Bx.newAt (w.alloc (.cells (bytesV x).toArray 39)) (bytesV y).toArray 39 (w.heap.size + 1) (by simp)).alloc (.cells z1 41)
  have xz := Bx.newAt ((w.alloc (.cells (bytesV x).toArray 39)).alloc (.cells (bytesV y).toArray 39)) z1 41 (w.heap.size + 2) (by simp)
  have hB3 : Below w.heap.size w (((w.alloc (.cells (bytesV x).toArray 39)).alloc (.cells (bytesV y).toArray 39)).alloc (.cells z1 41)) := ((Below.one w _).alloc (by simp) _).alloc (by simp; omega) _
  have HXx : Hid ((((w.alloc (.cells (bytesV x).toArray 39)).alloc (.cells (bytesV y).toArray 39)).alloc (.cells z1 41)).rangeAt w.heap.size 0 (bytesV x)) := Lib.hid (by simpa using xx.range)
  have HXy : Hid ((((w.alloc (.cells (bytesV x).toArray 39)).alloc (.cells (bytesV y).toArray 39)).alloc (.cells z1 41)).rangeAt (w.heap.size + 1) 0 (bytesV y)) := Lib.hid (by simpa using xy.range)
  have HXz := Lib.hid xz
  have hs2 : ((w.alloc (.cells (bytesV x).toArray 39)).alloc (.cells (bytesV y).toArray 39)).heap.size = w.heap.size + 2 := by simp
  have Hs2 := Lib.hid hs2
  have HD := Lib.hid (h.below hB3)
  obtain ⟨cx, hcx⟩ : ∃ c, (bytesV x).toArray = c := ⟨_, rfl⟩
  obtain ⟨cy, hcy⟩ : ∃ c, (bytesV y).toArray = c := ⟨_, rfl⟩
  have Hcx : Hid (dgV x = .agg cx) := Lib.hid (by unfold dgV; rw [hcx])
  have Hcy : Hid (dgV y = .agg cy) := Lib.hid (by unfold dgV; rw [hcy])
  rw [Hcx.out, Hcy.out]
  rw [hcx, hcy] at hB3 HXx HXy HXz Hs2 HD
  clear xx xy xz hcx hcy hz1 hzl hs2 hok hx hy h
  go_enter Tryz.func37, Tryz.ntmps37
  go_wp2_with (refine wpList_alloc_row rfl 41 rfl z1 Hzi.out ?_; rw [Hs2.out]; generalize ((w.alloc (.cells cx 39)).alloc (.cells cy 39)).alloc (.cells z1 41) = w3 at *)
  (try simp only [Act.put, List.setIfInBounds_toArray, List.set_cons_zero, List.set_cons_succ])
  have cQ := Lat.cells w3
  have l0 : w.heap.size < w3.heap.size := Nat.lt_of_lt_of_le (by omega) (Nat.le_of_lt HXz.out.lt)
  have l1 : w.heap.size + 1 < w3.heap.size := Nat.lt_of_lt_of_le (by omega) (Nat.le_of_lt HXz.out.lt)
  have l2 := HXz.out.lt
  refine wp_region_lz 7 1 #[true, true, true, true, true, true, true, false] (fun i => if i = 5 then some (annK (dgV (printD l))) else if i = 6 then some (annK ((summR x y l).V (.slice none 0 0))) else none) (by kernel_rfl) (by rfl) (by rfl) (by kernel_rfl) ?_
  simp only [List.take_succ_cons, List.take_zero]
  refine LW.block 5 5 (by rfl) (by kernel_rfl) (by kernel_rfl) ?_
  simp only [List.take_succ_cons, List.take_zero, List.drop_succ_cons, List.drop_zero]
  repeat (first | go_big_quiet_skip | (go_big_quiet_want; first | ((first | (refine quiet_load_row 39 (.tmp 3) rfl w.heap.size 0 rfl (bytesV x) _ (lat_range HXx.out l0) Tryz.underlying39 rfl (by rw [sizeDg, Hxl.out]) ?_) | (refine quiet_load_row 39 (.tmp 4) rfl (w.heap.size + 1) 0 rfl (bytesV y) _ (lat_range HXy.out l1) Tryz.underlying39 rfl (by rw [sizeDg, Hyl.out]) ?_)); simp only [Act.put, List.setIfInBounds_toArray, List.set_cons_zero, List.set_cons_succ]; go_big_quiet_on) | (go_big_quiet_op; go_big_quiet_on)))
  refine wpQuiet_nil ?_
  refine LW.lzy _ (by rfl) (by rfl) ?_ ?_
  · intro yL _
    unfold lzAt
    go_simp
    exact lz_constB (rf_Print _ _ l (HD.out.below yL.h) hm)
  intro _
  simp only [Act.put, List.setIfInBounds_toArray, List.set_cons_zero, List.set_cons_succ]
  (try simp only [annK])
  refine LW.lzy _ (by rfl) (by rfl) ?_ ?_
  · intro yL _
    exact lz_value (run_build_op _ rfl (fs := [(0, dgV x), (1, dgV y), (3, .int .i64 l.length), (4, dgV (printD l))]) (by simp [Act.eval, dgV]) Hfill.out)
  intro _
  simp only [Act.put, List.setIfInBounds_toArray, List.set_cons_zero, List.set_cons_succ]
  (try simp only [annK])
  refine LW.done ?_
  intro W' hG
  have hB4 := Below.then hB3 hG.below hB3.size
  have HX4 := HXz.out.belowAll hG.below
  clear hG cQ l0 l1 l2
  refine wpAny_ready (rs := [7]) (by kernel_rfl) (by simp) ?_
  refine AllReady.cons rfl (fun K hK => ?_) AllReady.nil
  refine wp_store_mid 41 (.tmp 6) (.tmp 13) rfl (w.heap.size + 2) 0 ((summR x y l).cells (.slice none 0 0)).toArray rfl rfl (there_bx HX4 (by rw [Hzl.out, List.size_toArray, Hlen.out]; exact Nat.le_refl _)) (by rw [sizeRg, List.size_toArray, Hlen.out]) (by simpa using Hone.out) ?_
  refine hK _ _ ?_
  clear hK K
  refine wpAny_done (by kernel_rfl) ?_ _
  have xd2 := HX4.setAll (cx := ((summR x y l).cells (.slice none 0 0)).toArray) (by rw [Hzl.out, List.size_toArray, Hlen.out])
  go_wp2
  refine bodyPost_ret (v := (summR x y l).V (.slice none 0 0)) (results_cell_row (d := .struct (Tryz.prog.fieldsOf 41)) Tryz.results37 _ _ (w.heap.size + 2) _ _ _ rfl xd2 (by kernel_rfl) rfl (by rw [sizeRg, List.size_toArray, Hlen.out])) rfl ?_
  exact ⟨rfl, below_setCells (by omega) _ _ _ hB4⟩
end Go.Proofs.YtebgopdmeghmhaaGreat
namespace Go.Proofs.YtebgopdmeghmhaaGreat
open Go.RowKit

theorem Bx.rgs {S : Nat → Prop} {w : World} {b : Nat} {r : Rg} {vi : Value} (h : Bx w b (r.cells vi).toArray 41) (hd : DigR S w vi r.ids) (hok : r.ok) : RgsR (fun k => k = b ∨ S k) w (.slice (some ⟨b, 0, none⟩) 1 1) [r] := by
  refine ⟨some ⟨b, 0, none⟩, 1, [vi], rfl, .inr ⟨_, rfl, Nat.le_refl _, by unfold maxLen; decide⟩, rfl, ?_, fun i hi => ?_, fun q hq => by rw [List.mem_singleton.1 hq]; exact hok⟩
  · have h1 := RowAt.bx h
    have e : (rgsC [r] [vi]).flatten = (r.cells vi).toArray.toList := by simp [rgsC]
    rw [e]
    exact h1.mono fun k hk => .inl hk
  · obtain rfl : i = 0 := by simpa using hi
    exact hd.mono fun k hk => .inr hk
theorem RgsR.none0 (S : Nat → Prop) (w : World) (b : Nat) : RgsR S w (.slice (some ⟨b, 0, none⟩) 0 0) [] := ⟨some ⟨b, 0, none⟩, 0, [], rfl, .inr ⟨_, rfl, Nat.le_refl _, by unfold maxLen; decide⟩, rfl, RowAt.nil _ _ _, fun i h => absurd h (Nat.not_lt_zero _), fun _ h => by cases h⟩
theorem zero32 : zeroD.length = 32 := rfl
theorem infoRgP : ∃ i, Tryz.prog.info? 41 = some i ∧ i.zero = some (.agg (Rg.zero.cells (.slice none 0 0)).toArray) ∧ i.size = 99 := by
  have h := infoRg
  obtain ⟨i, hi, hj⟩ := Option.map_eq_some_iff.1 h
  exact ⟨i, hi, (Prod.mk.inj hj).1, (Prod.mk.inj hj).2⟩
theorem zeroRg_len : (Rg.zero.cells (.slice none 0 0)).length = 99 := rfl
theorem descR_ok {x y : List UInt8} {l : List (List UInt8)} (hx : x.length = 32) (hy : y.length = 32) (hl : Dok l) : (descR x y l).ok := by
  unfold descR
  split
  · exact ⟨hx, hy, printD_len l, fun _ h => by cases h⟩
  · exact ⟨hx, hy, zero32, hl⟩
set_option maxRecDepth 100000 in
set_option maxHeartbeats 2000000 in
theorem rc_Start {S : Nat → Prop} (w : World) (v : Value) (l : List (List UInt8)) (h : DigR S w v l) (hm : l.length ≤ 1000000) :
    Calls Tryz.prog 10 #[v] w fun e w' => ∃ u, e = .returned u ∧ RgsR (New w w') w' u (startR l) ∧ Below w.heap.size w w' := by
  obtain ⟨o, c, rfl⟩ : ∃ o c, v = .slice o l.length c := by obtain ⟨⟨o, c, e, _⟩, _⟩ := h; rw [digC_size] at e; exact ⟨o, c, e⟩
  have Hasc := Lib.hid (rc_ascending w _ l h hm)
  have HD := Lib.hid h
  obtain ⟨ir, hir, hzr, hsr⟩ := infoRgP
  have Hir := Lib.hid (And.intro hir (And.intro hzr hsr))
  clear h hir hzr hsr
  cases ha : ascB l
  · rw [ha] at Hasc
    have Hres : Hid (startR l = []) := Lib.hid (by unfold startR; rw [ha]; rfl)
    go_enter Tryz.func10, Tryz.ntmps10
    go_wp2_with fail
    refine Hasc.out.mono ?_
    rintro e w1 ⟨rfl, hb1⟩
    go_wp2
    go_ret
    exact ⟨_, rfl, by rw [Hres.out]; exact RgsR.nil _ _, hb1⟩
  · rw [ha] at Hasc
    have Hres : Hid (startR l = [descR zeroD zeroD l]) := Lib.hid (by unfold startR; rw [ha]; rfl)
    go_enter Tryz.func10, Tryz.ntmps10
    go_wp2_with fail
    refine Hasc.out.mono ?_
    rintro e w1 ⟨rfl, hb1⟩
    have Hds := Lib.hid (rc_describe w1 zeroD zeroD zero32 zero32 _ l (HD.out.below hb1) hm)
    go_wp2_with fail
    refine Hds.out.mono ?_
    rintro e w2 ⟨vi, rfl, hd2, hb2⟩
    have hB2 := Below.then hb1 hb2 hb1.size
    have Hok := Lib.hid (descR_ok zero32 zero32 HD.out.2)
    have Hlen := Lib.hid (Rg.len Hok.out vi)
    have Hd2 := Lib.hid hd2
    have hz1 := hb1.size
    have hz2 := hb2.size
    clear hd2 hb1 hb2 Hds
    generalize descR zeroD zeroD l = q at *
    go_wp2_with (refine wpList_build1 rfl 32 (.tmp 9) rfl 41 ir (Rg.zero.cells (.slice none 0 0)) 99 Tryz.underlying32 Hir.out.1 Hir.out.2.1 Hir.out.2.2 zeroRg_len (by decide) (q.cells vi) Hlen.out rfl ?_)
    go_ret
    refine ⟨_, rfl, ?_, hB2.alloc hB2.size _⟩
    rw [Hres.out]
    refine (Bx.rgs (Bx.new w2 (q.cells vi).toArray 41) (Hd2.out.below (Below.one w2 _)) Hok.out).mono fun b hb => ?_
    rcases hb with rfl | hb
    · exact ⟨by omega, by simp⟩
    · exact ⟨Nat.le_trans hz1 hb.1, Nat.lt_of_lt_of_le hb.2 (by simp)⟩
set_option maxRecDepth 100000 in
set_option maxHeartbeats 2000000 in
theorem rf_Start {S : Nat → Prop} (w : World) (v : Value) (l : List (List UInt8)) (h : DigR S w v l) (hm : l.length ≤ 1000000) :
    Calls Tryz.prog 16 #[v] w fun e w' => ∃ u, e = .returned u ∧ RgsR (Gr S w w') w' u (startR l) ∧ Below w.heap.size w w' := by
  obtain ⟨o, c, rfl⟩ : ∃ o c, v = .slice o l.length c := by obtain ⟨⟨o, c, e, _⟩, _⟩ := h; rw [digC_size] at e; exact ⟨o, c, e⟩
  have Hasc := Lib.hid (rf_ascending w _ l h hm)
  have HD := Lib.hid h
  obtain ⟨ir, hir, hzr, hsr⟩ := infoRgP
  have Hir := Lib.hid (And.intro hir (And.intro hzr hsr))
  clear h hir hzr hsr
  cases ha : ascB l
  · rw [ha] at Hasc
    have Hres : Hid (startR l = []) := Lib.hid (by unfold startR; rw [ha]; rfl)
    go_enter Tryz.func16, Tryz.ntmps16
    go_wp2_with fail
    refine Hasc.out.mono ?_
    rintro e w1 ⟨rfl, hb1⟩
    go_wp2
    go_ret
    exact ⟨_, rfl, by rw [Hres.out]; exact RgsR.none0 _ _ _, hb1.alloc hb1.size _⟩
  · rw [ha] at Hasc
    obtain ⟨n, hln⟩ : ∃ n, l.length = n := ⟨_, rfl⟩
    have Hn := Lib.hid hln
    rw [hln] at Hasc HD hm ⊢
    clear hln
    go_enter Tryz.func16, Tryz.ntmps16
    by_cases h8 : 8 < n
    · have h8' : ¬ (n : Int) ≤ 8 := by omega
      have Hres : Hid (startR l = [summR zeroD zeroD l]) := Lib.hid (by unfold startR descR; rw [ha, if_pos rfl, if_pos (by rw [Hn.out]; exact h8)])
      have Hok : Hid ((summR zeroD zeroD l).ok) := Lib.hid ⟨zero32, zero32, printD_len l, fun _ h => by cases h⟩
      have Hlen := Lib.hid (Rg.len Hok.out (.slice none 0 0))
      go_wp2_with fail
      refine Hasc.out.mono ?_
      rintro e w1 ⟨rfl, hb1⟩
      have hmk := rf_marked w1 zeroD zeroD zero32 zero32 (.slice o l.length c) l (by have h1 := HD.out.below hb1; rw [← Hn.out] at h1; exact h1) (by rw [Hn.out]; exact hm)
      rw [Hn.out] at hmk
      have Hmk := Lib.hid hmk
      clear hmk
      go_wp2_with fail
      refine Hmk.out.mono ?_
      rintro e w2 ⟨rfl, hb2⟩
      have hB2 := Below.then hb1 hb2 hb1.size
      have hz1 := hb1.size
      clear hb1 hb2 Hmk
      have Hids : Hid ((summR zeroD zeroD l).ids = []) := Lib.hid rfl
      generalize summR zeroD zeroD l = q at *
      go_wp2_with (refine wpList_build1 rfl 32 (.tmp 18) rfl 41 ir (Rg.zero.cells (.slice none 0 0)) 99 Tryz.underlying32 Hir.out.1 Hir.out.2.1 Hir.out.2.2 zeroRg_len (by decide) (q.cells (.slice none 0 0)) Hlen.out rfl ?_)
      go_ret
      refine ⟨_, rfl, ?_, hB2.alloc hB2.size _⟩
      rw [Hres.out]
      have hd : DigR (fun _ => False) (w2.alloc (.cells (q.cells (.slice none 0 0)).toArray 41)) (.slice none 0 0) q.ids := by rw [Hids.out]; exact DigR.nil0 _ _
      refine (Bx.rgs (Bx.new w2 (q.cells (.slice none 0 0)).toArray 41) hd Hok.out).mono fun b hb => ?_
      rcases hb with rfl | hb
      · exact .inr ⟨hB2.size, by simp⟩
      · exact hb.elim
    · have h8' : (n : Int) ≤ 8 := by omega
      have Hres : Hid (startR l = [listR zeroD zeroD l]) := Lib.hid (by unfold startR descR; rw [ha, if_pos rfl, if_neg (by rw [Hn.out]; exact h8)])
      have Hok : Hid ((listR zeroD zeroD l).ok) := Lib.hid ⟨zero32, zero32, zero32, HD.out.2⟩
      have Hlen := Lib.hid (Rg.len Hok.out (.slice o n c))
      go_wp2_with fail
      refine Hasc.out.mono ?_
      rintro e w1 ⟨rfl, hb1⟩
      have Hmk := Lib.hid (rf_listed w1 zeroD zeroD zero32 zero32 o n c)
      have HD1 := Lib.hid (HD.out.below hb1)
      go_wp2_with fail
      refine Hmk.out.mono ?_
      rintro e w2 ⟨he, hb2⟩
      have he' : e = .returned ((listR zeroD zeroD l).V (.slice o n c)) := he
      clear he
      subst he'
      have hB2 := Below.then hb1 hb2 hb1.size
      have HD2 := Lib.hid (HD1.out.below hb2)
      have hz1 := hb1.size
      clear hb1 hb2 Hmk
      have Hids : Hid ((listR zeroD zeroD l).ids = l) := Lib.hid rfl
      generalize listR zeroD zeroD l = q at *
      go_wp2_with (refine wpList_build1 rfl 32 (.tmp 13) rfl 41 ir (Rg.zero.cells (.slice none 0 0)) 99 Tryz.underlying32 Hir.out.1 Hir.out.2.1 Hir.out.2.2 zeroRg_len (by decide) (q.cells (.slice o n c)) Hlen.out rfl ?_)
      go_ret
      refine ⟨_, rfl, ?_, hB2.alloc hB2.size _⟩
      rw [Hres.out]
      have hd : DigR S (w2.alloc (.cells (q.cells (.slice o n c)).toArray 41)) (.slice o n c) q.ids := by rw [Hids.out]; exact HD2.out.below (Below.one w2 _)
      refine (Bx.rgs (Bx.new w2 (q.cells (.slice o n c)).toArray 41) hd Hok.out).mono fun b hb => ?_
      rcases hb with rfl | hb
      · exact .inr ⟨hB2.size, by simp⟩
      · exact .inl hb
end Go.Proofs.YtebgopdmeghmhaaGreat
