/- law BtreeDurable: the walk. -/
import Derived.Test.YtlefmmhlpgmbjaaGreatQ28
import Derived.Test.YtlefmmhlpgmbjaaGreatQ01
namespace Go.Proofs.YtlefmmhlpgmbjaaGreat
set_option maxRecDepth 100000
open Go.RowKit
def annB (cs : Array Value) (t : TypeId) : Ann := ⟨fun r => .pointer (some ⟨r.lo, 0, none⟩), fun r W => Bx W r.lo cs t /\ r.hi = r.lo + 1⟩
theorem lz_box {cs : Array Value} {t : TypeId} (w : World) : lzPost (annB cs t) w (.pointer (some ⟨w.heap.size, 0, none⟩)) (w.alloc (.cells cs t)) :=
 ⟨Below.one _ _, fun _ => undef, rfl, fun _ hb => ⟨(Bx.new w cs t).belowAll hb, by simp⟩⟩
theorem reach_dur {p frm til : Int} {acts : List ActB} {y : Ix} {l : List Kv} (h : reachX p frm til acts = (y, l, true)) (picks : List Int) :
  ∃ F, openP (crashD y.disk picks) y.frm y.til = (F, 0) /\ scanPP F ByteArray.empty ByteArray.empty = (l, 0) /\ F.ver = y.ver /\ l.length <= 1000 /\ y.disk.cache.length <= 1000 /\ ∀ t, validP F = some t -> (pairsO t).length <= 1000000 := by
 obtain ⟨V, t, hV, hy, hI, hl, hleft, hlen⟩ := reach_good h
 obtain ⟨d, hd⟩ : ∃ d, y.disk = d := ⟨_, rfl⟩
 rw [hd] at hy hI |-
 have hC := hI.crash picks
 refine ⟨_, by rw [show y.frm = frm by rw [hy]; rfl, show y.til = til by rw [hy]; rfl]; exact hC.openP, by rw [hC.scan, hl], by rw [hy]; rfl, hlen, by rw [hI.empty]; simp, ?_⟩
 intro t' ht'
 rw [validP_X, hC.valid] at ht'
 cases ht'
 rw [<- hl]; omega
set_option maxRecDepth 100000 in
set_option maxHeartbeats 4000000 in
theorem law42_durable (w : World) (p frm til : Int) (acts : List ActB) (o : Option Addr) (c : Nat) (hA : ActsB w o acts) (hsl : SlW o acts.length c) (picks : List Int) (qo : Option Addr) (qc : Nat) (hq : IntsAt (· < w.heap.size) w qo picks) :
  Calls Tryz.prog 6 #[.agg (runC p frm til o acts.length c), .slice qo picks.length qc] w fun e w' => e = .returned (.bool true) /\ Below w.heap.size w w' := by
 obtain ⟨n, hn⟩ : ∃ n, acts.length = n := ⟨_, rfl⟩
 obtain ⟨W1, hW1⟩ : ∃ W1, w.alloc (.cells (runC p frm til o n c) 49) = W1 := ⟨_, rfl⟩
 have hB1 : Below w.heap.size w W1 := by subst hW1; exact Below.one w _
 have x1 : Bx W1 w.heap.size (runC p frm til o n c) 49 := by subst hW1; exact Bx.new w _ _
 have c0 := x1.cell
 have l0 := x1.lt
 have hrc := rn_Reached42 p frm til acts o c W1 (hA.below hB1) hsl
 obtain ⟨y, l, ok, hR⟩ : ∃ y l ok, reachX p frm til acts = (y, l, ok) := ⟨_, _, _, rfl⟩
 have hso : ok = true -> ∃ F, openP (crashD y.disk picks) y.frm y.til = (F, 0) /\ scanPP F ByteArray.empty ByteArray.empty = (l, 0) /\ F.ver = y.ver /\ l.length <= 1000 /\ y.disk.cache.length <= 1000 /\ ∀ t, validP F = some t -> (pairsO t).length <= 1000000 := by
  rintro rfl
  exact reach_dur hR picks
 rw [hR, hn] at hrc
 rw [hn]
 have HS := zhI hso
 have Hrc := zhI hrc
 clear hso hR hrc hA hsl hn
 go_enter Tryz.func6, Tryz.ntmps6
 go_wp2_with fail
 refine Hrc.out.mono ?_
 rintro e w2 ⟨v2, lo, lc, rfl, hv2, hkl, hls, hb2⟩
 simp only at hv2 hkl hls |-
 have hv := hv2
 obtain ⟨po, pc, co, cc, fo, fc, rfl, -, -, -⟩ := hv2
 have hB2 := btr hB1 hb2
 have hBo := Below.one w2 (.cells (ixC y.disk po co pc cc y.frm y.til y.ver y.root fo y.free.length fc) 33)
 have xl := Bx.new w2 (ixC y.disk po co pc cc y.frm y.til y.ver y.root fo y.free.length fc) 33
 have hV := hv.below hBo
 have hK := hkl.below hBo
 have hB := btr hB2 hBo
 clear Hrc hv hkl hBo c0 l0 x1
 go_upto_region 2 with fail
 obtain ⟨b, hbe⟩ : ∃ b, w2.heap.size = b := ⟨_, rfl⟩
 have hwb : w.heap.size <= b := by have := hB2.size; omega
 obtain ⟨W4, hW4⟩ : ∃ W4, w2.alloc (.cells (ixC y.disk po co pc cc y.frm y.til y.ver y.root fo y.free.length fc) 33) = W4 := ⟨_, rfl⟩
 simp only [hW4, hbe] at *
 clear hW4 hbe hB2 hb2
 have c0 := xl.cell
 have l0 := xl.lt
 unfold ixC at c0
 cases ok with
 | false =>
  go_wp2_with fail
  refine (law42_awake _).mono ?_
  rintro e w3 ⟨rfl, hb3⟩
  go_wp2
  go_ret
  exact ⟨rfl, btr hB hb3⟩
 | true =>
  cases g2 : decide ((40 : Int) < (picks.length : Int))
  .
   have hpl := of_decide_eq_false g2
   obtain ⟨F, hop0, hscF, hFv, hll, hcl, hvl⟩ := HS.out rfl
   obtain ⟨C, hC⟩ : ∃ C, crashD y.disk picks = C := ⟨_, rfl⟩
   rw [hC] at hop0
   have hV0 := hV
   obtain ⟨po', pc', co', cc', fo', fc', e, hD, hsl2, hst⟩ := hV
   simp only [Value.agg.injEq, Array.mk.injEq, List.cons.injEq, Value.slice.injEq, and_true, true_and] at e
   obtain ⟨⟨rfl, rfl⟩, ⟨rfl, rfl⟩, rfl, rfl⟩ := e
   have hcr := fun W (hb : Below W4.heap.size W4 W) => v_crash y.disk _ picks qo qc W (hD.below hb) (hq.below (btr hB hb)) (by omega) (by omega) hC
   have hop := fun v W (hv : DskV W v C) => bt_Open C v y.frm y.til W hv
   rw [hop0] at hop
   have Hcr := zhI hcr
   have Hop := zhI hop
   have HF := zhI (zaI hscF (zaI hFv (zaI hll hvl)))
   clear hcr hop hop0 hC hscF hFv hll hcl hvl HS hD
   have cQ := Lat.cells W4
   go_upto_region 4 with fail
   refine wp_region_late 13 11 2 #[true, true, true, true, true, true, true, true, true, true, true, false, true, false, false] #[true, true, true, true, true, true, true, true, true, true, true, true, true, false, false] (fun i => if i = 3 then some (annDv C) else if i = 8 then some (annXE F 0) else if i = 12 then some (annB ixZ 33) else none) _ (by kernel_rfl) rfl (by rfl) (by rfl) (by kernel_rfl) (by rfl) rfl (fun _ _ _ _ h => h) (extract_pure _ _ rfl) ?_
   simp only [List.take_succ_cons, List.take_zero]
   refine LW.block 3 3 (by rfl) (by kernel_rfl) (by kernel_rfl) ?_
   simp only [ztP]
   repeat (first | go_big_quiet_skip | (go_big_quiet_want; go_big_quiet_op; go_big_quiet_on))
   refine wpQuiet_nil ?_
   refine LW.lzy _ (by rfl) (by rfl) ?_ ?_
   .
    intro yL _
    unfold lzAt
    go_simp
    exact lz_dv (Hcr.out _ yL.h)
   intro r3
   simp only [Act.put, zsP, annDv]
   refine LW.block 4 8 (by rfl) (by kernel_rfl) (by kernel_rfl) ?_
   simp only [ztP]
   repeat (first | go_big_quiet_skip | (go_big_quiet_want; go_big_quiet_op; go_big_quiet_on))
   refine wpQuiet_nil ?_
   refine LW.lzy _ (by rfl) (by rfl) ?_ ?_
   .
    intro yL hf
    have hd : DskV yL.w (r3.x 0) C := (hf 3 (by kernel_rfl)).get (j := 3) rfl rfl
    unfold lzAt
    go_simp
    exact lz_xo (Hop.out _ _ hd)
   intro r8
   simp only [Act.put, zsP, annXE]
   refine LW.block 3 12 (by rfl) (by kernel_rfl) (by kernel_rfl) ?_
   simp only [ztP]
   repeat (first | go_big_quiet_skip | (go_big_quiet_want; go_big_quiet_op; go_big_quiet_on))
   refine wpQuiet_nil ?_
   refine LW.lzy _ (by rfl) (by rfl) ?_ ?_
   .
    intro yL _
    unfold lzAt
    go_simp
    exact lz_box yL.w
   intro r12
   simp only [Act.put, zsP, annB]
   refine LW.done ?_
   intro w5 hG
   have hv5 : IxT w5 (r8.x 0) F := hG.get 8 rfl rfl
   obtain ⟨xb, -⟩ : Bx w5 r12.lo ixZ 33 /\ r12.hi = r12.lo + 1 := hG.get 12 rfl rfl
   have hb5 := hG.below
   have hrange := hG.range 12 r12 rfl
   obtain ⟨b2, hb2e⟩ : ∃ b2, r12.lo = b2 := ⟨_, rfl⟩
   obtain ⟨v5, hv5e⟩ : ∃ v5, r8.x 0 = v5 := ⟨_, rfl⟩
   rw [hb2e] at hrange
   rw [hv5e] at hv5 |-
   rw [hb2e] at xb |-
   clear hG hv5e c0 l0 cQ Hcr Hop
   have hv6 := hv5
   obtain ⟨fp, gp, gc, hc, gf, hf, rfl, -, -, -⟩ := hv5
   have hlt4 := xl.lt
   have z5 := xl.belowAll hb5
   have hB5 := btr hB hb5
   have cb := xb.cell
   have lb := xb.lt
   have fb := xb.free
   unfold ixZ at cb
   obtain ⟨Wf, hWf⟩ : ∃ Wf, st9 w5 b2 (.int .i64 F.disk.size) (.slice fp F.disk.pages.length gp) (.slice gc F.disk.cache.length hc) (.int .i64 F.disk.left) (.int .i64 F.frm) (.int .i64 F.til) (.int .i64 F.ver) (.int .i64 F.root) (.slice gf F.free.length hf) = Wf := ⟨_, rfl⟩
   have ho : Only b2 w5 Wf := by subst hWf; exact Only.nine
   have hn : b ≠ b2 := by have := hrange.1; omega
   have xf : Bx Wf b2 (ixC F.disk fp gc gp hc F.frm F.til F.ver F.root gf F.free.length hf) 33 := by subst hWf; exact xb.set9
   have hBf : Below w.heap.size w Wf := by subst hWf; exact below_set9 hB5 (by have := hrange.1; have := hB.size; omega)
   have hVf := hv6.only xb (noS9 _ _ _ _ _ _ _ _ _ _ _ _ _ _ _) (by decide) ho
   have hKf := (hK.below hb5).only xb (noS9 _ _ _ _ _ _ _ _ _ _ _ _ _ _ _) ho
   have zf : Bx Wf b (ixC y.disk po co pc cc y.frm y.til y.ver y.root fo y.free.length fc) 33 := z5.only ho hn
   clear ho hv6 z5 hB5 hrange hb5 hV0 hst hsl2 hK
   unfold st9 st8 at hWf
   refine wpAny_ready (rs := [13]) (by kernel_rfl) (by simp) ?_
   refine AllReady.cons rfl (fun K hK => ?_) AllReady.nil
   go_simp
   refine hK _ _ ?_
   clear hK K
   refine wpAny_ready (rs := [14]) (by kernel_rfl) (by simp) ?_
   refine AllReady.cons rfl (fun K hK => ?_) AllReady.nil
   go_simp
   refine hK _ _ ?_
   clear hK K
   refine wpAny_done (by kernel_rfl) ?_ _
   (try rw [hWf])
   clear cb lb fb hWf xb
   have hsc := bt_Scan F _ ByteArray.empty ByteArray.empty Wf hVf.v HF.out.2.2.2
   rw [HF.out.1] at hsc
   have Hsc := zhI hsc
   have e1 : (F.ver == y.ver) = true := by rw [HF.out.2.1]; simp
   have c0 := xf.cell
   have l0 := xf.lt
   have c1 := zf.cell
   have l1 := zf.lt
   unfold ixC at c0 c1
   clear hsc hVf
   go_wp2_with fail
   refine Hsc.out.mono ?_
   rintro e w7 ⟨hb7, v7, rfl, hP⟩
   obtain ⟨mo, mc, rfl, hms, hmr⟩ := PairsR.at hP
   have hsp := rb_SamePairs l l lo mo lc mc w7 (hKf.below hb7) hmr (slw_len hls) (slw_len hms)
   rw [show decide (l = l) = true by simp] at hsp
   have Hsp := zhI hsp
   have zf := zf.belowAll hb7
   have xf := xf.belowAll hb7
   have hBf := btr hBf hb7
   clear c0 l0 c1 l1 Hsc hsp hP hmr hKf
   have c0 := xf.cell
   have l0 := xf.lt
   have c1 := zf.cell
   have l1 := zf.lt
   unfold ixC at c0 c1
   go_wp2_with fail
   refine Hsp.out.mono ?_
   rintro e w8 ⟨rfl, hb8⟩
   clear c0 l0 c1 l1 zf xf
   go_wp2_with fail
   refine (law42_awake _).mono ?_
   rintro e w9 ⟨rfl, hb9⟩
   go_wp2
   go_ret
   exact ⟨rfl, btr (btr hBf hb8) hb9⟩
  .
   go_wp2_with fail
   refine (law42_awake _).mono ?_
   rintro e w3 ⟨rfl, hb3⟩
   go_wp2
   go_ret
   exact ⟨rfl, btr hB hb3⟩
end Go.Proofs.YtlefmmhlpgmbjaaGreat
