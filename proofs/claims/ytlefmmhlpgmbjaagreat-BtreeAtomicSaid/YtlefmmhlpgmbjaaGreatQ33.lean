/- law BtreeAtomic: the walk. -/
import Derived.Test.YtlefmmhlpgmbjaaGreatQ29
import Derived.Test.YtlefmmhlpgmbjaaGreatQ01
namespace Go.Proofs.YtlefmmhlpgmbjaaGreat
set_option maxRecDepth 100000
open Go.RowKit
theorem reach_atom {p frm til : Int} {acts : List ActB} {y : Ix} {l : List Kv} (h : reachX p frm til acts = (y, l, true)) {a : ActB} (ha : fitsA a = true) {left : Nat} (hleft : left < 256) (picks : List Int) :
  ∃ Z e, commitP (powX y left) (chgsOf a l) = (Z, e) /\ (powX y left).disk.cache.length <= 1000 /\ l.length <= 1000 /\ Asc l /\ (chgsOf a l).length <= 24 /\ ((e = 0 \/ e = 18) -> Z.disk.cache.length <= 3000 /\ ((chgsOf a l).map Chg.key).Nodup /\
   ∃ F m, openP (crashD Z.disk picks) y.frm y.til = (F, 0) /\ scanPP F ByteArray.empty ByteArray.empty = (m, 0) /\ (m = applyL l (chgsOf a l) \/ (e = 18 /\ m = l)) /\ m.length <= 2000 /\ (applyL l (chgsOf a l)).length <= 2000 /\ ∀ t, validP F = some t -> (pairsO t).length <= 1000000) := by
 obtain ⟨V, t, hV, hy, hI, hl, hl1, hlen⟩ := reach_good h
 obtain ⟨d, hd⟩ : ∃ d, y.disk = d := ⟨_, rfl⟩
 rw [hd] at hy hI hl1
 subst hl
 have hx : (-1 : Int) <= (left : Int).tmod 40 := by
  have := Int.tmod_eq_emod_of_nonneg (show (0 : Int) <= (left : Int) by omega) (b := 40)
  omega
 have hI1 := hI.left hx
 have hpw : powX y left = ixOf { d with left := (left : Int).tmod 40 } frm til V t := by
  unfold powX
  rw [if_pos ⟨by rw [hd]; exact hl1, by omega⟩, hy]
  rfl
 have e1 : y.frm = frm := by rw [hy]; rfl
 have e2 : y.til = til := by rw [hy]; rfl
 rw [hpw, e1, e2]
 have hf := chgs_few ha (pairsO t)
 have hap := applyL_len (cs := chgsOf a (pairsO t)) hI.tm.asc
 obtain ⟨cs, hcs⟩ : ∃ cs, chgsOf a (pairsO t) = cs := ⟨_, rfl⟩
 rw [hcs] at hf hap |-
 obtain ⟨D, hD⟩ : ∃ D : Dsk, { d with left := (left : Int).tmod 40 } = D := ⟨_, rfl⟩
 rw [hD] at hI1 |-
 obtain ⟨R, hR⟩ : ∃ R, commitP (ixOf D frm til V t) cs = R := ⟨_, rfl⟩
 refine ⟨R.1, R.2, hR, by show D.cache.length <= 1000; rw [hI1.empty]; simp, hlen, hI.tm.asc, hf, fun he => ?_⟩
 have key : ∀ (U : Nat) (tt : Option Nd), IxS (crashD R.1.disk picks) frm til U tt -> (pairsO tt = applyL (pairsO t) cs \/ (R.2 = 18 /\ pairsO tt = pairsO t)) -> ∃ F m, openP (crashD R.1.disk picks) frm til = (F, 0) /\ scanPP F ByteArray.empty ByteArray.empty = (m, 0) /\ (m = applyL (pairsO t) cs \/ (R.2 = 18 /\ m = pairsO t)) /\ m.length <= 2000 /\ (applyL (pairsO t) cs).length <= 2000 /\ ∀ t, validP F = some t -> (pairsO t).length <= 1000000 := by
  intro U tt hC hor
  have hml : (pairsO tt).length <= 2000 := by
   rcases hor with e | ⟨_, e⟩ <;> rw [e] <;> omega
  refine ⟨_, _, hC.openP, hC.scan, hor, hml, by omega, fun t' ht' => ?_⟩
  rw [validP_X, hC.valid] at ht'
  cases ht'
  omega
 rcases commit_law hI1 (by omega) cs with ⟨h1, h2⟩ | ⟨_, _, h2⟩ | ⟨h0, _, h1, h2⟩ | ⟨_, _, _, _, h2⟩ | ⟨h0, _, _, t', p, _, _, h5, h2⟩
 .
  rw [hR] at h2
  rw [h2] at he
  have hv := chgsE_val cs none
  simp only at he
  omega
 .
  rw [hR] at h2
  rw [h2] at he
  simp at he
 .
  rw [hR] at h2
  rw [h2] at key |-
  subst h1
  exact ⟨by show D.cache.length <= 3000; rw [hI1.empty]; simp, by simp, key V t (hI1.crash picks) (.inl rfl)⟩
 .
  rw [hR] at h2
  rw [h2] at he
  simp at he
 .
  rw [hR] at h2
  have hnd := (chgsE_asc h0).1.nodup
  refine ⟨h2.few, hnd, ?_⟩
  rcases h2.res with ⟨_, r2, _⟩ | ⟨r1, _, _, r4⟩
  .
   exact key _ t' (r2.crash picks) (.inl h5)
  .
   rcases r4 picks with g | g
   .
    exact key _ t g (.inr ⟨r1, rfl⟩)
   .
    exact key _ t' g (.inl h5)
set_option maxRecDepth 100000 in
set_option maxHeartbeats 8000000 in
theorem law42_atomic (w : World) (p frm til : Int) (acts : List ActB) (o : Option Addr) (c : Nat) (hA : ActsB w o acts) (hsl : SlW o acts.length c) (a : ActB) (ao bo do_ qo : Option Addr) (ac bc dc qc : Nat) (hok : ActBOk w a ao bo do_ qo ac bc dc qc) (left : Nat) (hleft : left < 256) (picks : List Int) (ko : Option Addr) (kc : Nat) (hq : IntsAt (· < w.heap.size) w ko picks) :
  Calls Tryz.prog 7 #[.agg (runC p frm til o acts.length c), .agg (actBC a ao bo do_ qo ac bc dc qc), .int .u8 left, .slice ko picks.length kc] w fun e w' => e = .returned (.bool true) /\ Below w.heap.size w w' := by
 obtain ⟨n, hn⟩ : ∃ n, acts.length = n := ⟨_, rfl⟩
 obtain ⟨N, hN⟩ : ∃ N, w.heap.size = N := ⟨_, rfl⟩
 obtain ⟨AC, hAC⟩ : ∃ AC, AC = actBC a ao bo do_ qo ac bc dc qc := ⟨_, rfl⟩
 obtain ⟨W1, hW1⟩ : ∃ W1, (w.alloc (.cells (runC p frm til o n c) 49)).alloc (.cells (actBC a ao bo do_ qo ac bc dc qc) 54) = W1 := ⟨_, rfl⟩
 have hB1 : Below w.heap.size w W1 := by subst hW1; exact (Below.one w _).alloc (by simp) _
 have x1 : Bx W1 N (runC p frm til o n c) 49 := by subst hW1 hN; exact (Bx.new w _ _).alloc _
 have xa : Bx W1 (N + 1) (actBC a ao bo do_ qo ac bc dc qc) 54 := by subst hW1 hN; exact Bx.newAt _ _ _ _ (by simp)
 have c0 := x1.cell
 have l0 := x1.lt
 have hrc := rn_Reached42 p frm til acts o c W1 (hA.below hB1) hsl
 obtain ⟨y, l, ok, hR⟩ : ∃ y l ok, reachX p frm til acts = (y, l, ok) := ⟨_, _, _, rfl⟩
 have hso : ok = true -> fitsA a = true -> ∃ Z e, commitP (powX y left) (chgsOf a l) = (Z, e) /\ (powX y left).disk.cache.length <= 1000 /\ l.length <= 1000 /\ Asc l /\ (chgsOf a l).length <= 24 /\ ((e = 0 \/ e = 18) -> Z.disk.cache.length <= 3000 /\ ((chgsOf a l).map Chg.key).Nodup /\
   ∃ F m, openP (crashD Z.disk picks) y.frm y.til = (F, 0) /\ scanPP F ByteArray.empty ByteArray.empty = (m, 0) /\ (m = applyL l (chgsOf a l) \/ (e = 18 /\ m = l)) /\ m.length <= 2000 /\ (applyL l (chgsOf a l)).length <= 2000 /\ ∀ t, validP F = some t -> (pairsO t).length <= 1000000) := by
  rintro rfl h
  exact reach_atom hR h hleft picks
 rw [hR, hn] at hrc
 rw [hn]
 have HS := zhI hso
 have Hrc := zhI hrc
 have Hok := zhI hok
 clear hso hR hrc hA hsl hn hok hAC
 go_enter Tryz.func7, Tryz.ntmps7
 go_wp2_with fail
 refine Hrc.out.mono ?_
 rintro e w2 ⟨v2, lo, lc, rfl, hv2, hkl, hls, hb2⟩
 simp only at hv2 hkl hls |-
 have hv := hv2
 obtain ⟨po, pc, co, cc, fo, fc, rfl, -, -, -⟩ := hv2
 have hB2 := btr hB1 hb2
 have hBo := Below.one w2 (.cells (ixC y.disk po co pc cc y.frm y.til y.ver y.root fo y.free.length fc) 33)
 have xl := Bx.new w2 (ixC y.disk po co pc cc y.frm y.til y.ver y.root fo y.free.length fc) 33
 have ya := (xa.belowAll hb2).belowAll hBo
 have hV := hv.below hBo
 have hK := hkl.below hBo
 have hB := btr hB2 hBo
 clear Hrc hv hkl hBo c0 l0 x1 xa
 go_upto_region 2 with fail
 obtain ⟨b, hbe⟩ : ∃ b, w2.heap.size = b := ⟨_, rfl⟩
 obtain ⟨W4, hW4⟩ : ∃ W4, w2.alloc (.cells (ixC y.disk po co pc cc y.frm y.til y.ver y.root fo y.free.length fc) 33) = W4 := ⟨_, rfl⟩
 simp only [hW4, hbe] at *
 clear hW4 hbe hB2 hb2
 cases ok with
 | false =>
  clear HS
  go_wp2_with fail
  refine (law42_awake _).mono ?_
  rintro e w3 ⟨rfl, hb3⟩
  go_wp2
  go_ret
  exact ⟨rfl, btr hB hb3⟩
 | true =>
  have hs1 := HS.out rfl
  clear HS
  have HS := zhI hs1
  clear hs1
  cases gp : decide ((40 : Int) < (picks.length : Int))
  rotate_left
  .
   clear HS
   go_wp2_with fail
   refine (law42_awake _).mono ?_
   rintro e w3 ⟨rfl, hb3⟩
   go_wp2
   go_ret
   exact ⟨rfl, btr hB hb3⟩
  have hpl := of_decide_eq_false gp
  have hfi := rn_fits a ao bo do_ qo ac bc dc qc W4 (Hok.out.below hB)
  obtain ⟨fa, hfa⟩ : ∃ fa, fitsA a = fa := ⟨_, rfl⟩
  rw [hfa] at hfi
  have Hfi := zhI hfi
  clear hfi
  have ca := ya.cell
  have la := ya.lt
  go_wp2_with fail
  refine Hfi.out.mono ?_
  rintro e w5 ⟨rfl, hb5⟩
  have xl5 := xl.belowAll hb5
  have ya5 := ya.belowAll hb5
  have hV5 := hV.below hb5
  have hK5 := hK.below hb5
  have hB5 := btr hB hb5
  clear ca la ya xl hV hK hB hb5 Hfi
  cases fa with
  | false =>
   have hB := hB5
   clear HS
   go_wp2_with fail
   refine (law42_awake _).mono ?_
   rintro e w3 ⟨rfl, hb3⟩
   go_wp2
   go_ret
   exact ⟨rfl, btr hB hb3⟩
  | true =>
   obtain ⟨Z, e, q1, q2, q3, q4, q5, q6⟩ := HS.out hfa
   obtain ⟨cs, hcs⟩ : ∃ cs, chgsOf a l = cs := ⟨_, rfl⟩
   have hch := rn_Changes a ao bo do_ qo ac bc dc qc l lo lc w5 (Hok.out.below hB5) hfa hK5 hls
   rw [hcs] at q1 q5 q6 hch
   have Q1 := zhI q1
   have Q := zhI (zaI q2 (zaI q3 (zaI q4 (zaI q5 q6))))
   have Hch := zhI hch
   have ca := ya5.cell
   have la := ya5.lt
   clear HS hch q1 q2 q3 q4 q5 q6 hfa hcs
   go_wp2_with fail
   refine Hch.out.mono ?_
   rintro e w6 ⟨co2, cc2, rfl, hcs, hcr, hb6⟩
   have xl6 := xl5.belowAll hb6
   have hV6 := hV5.below hb6
   have hK6 := hK5.below hb6
   have hB6 := btr hB5 hb6
   have hpw := rn_power y _ left w6 hV6
   obtain ⟨P, hP⟩ : ∃ P, powX y left = P := ⟨_, rfl⟩
   rw [hP] at hpw Q1 Q
   have Hpw := zhI hpw
   have hp1 : IntKind.i64.wrap (left : Int) = (left : Int) := IntWalk.i64_in _ (by omega)
   clear ca la xl5 ya5 hV5 hK5 hB5 hb6 hpw Hch hP
   have c0 := xl6.cell
   have l0 := xl6.lt
   unfold ixC at c0
   go_wp2_with fail
   refine Hpw.out.mono ?_
   rintro e w7 ⟨u7, rfl, hP7, hb7⟩
   have hcm := bt_Commit P u7 cs co2 cc2 w7 hP7 hcs (by have := Q.out.2.2.2.1; omega) (hcr.below hb7) (by have := Q.out.1; omega)
   rw [Q1.out] at hcm
   have Hcm := zhI hcm
   have xl7 := xl6.belowAll hb7
   have hV7 := hV6.below hb7
   have hK7 := hK6.below hb7
   have hC7 := hcr.below hb7
   have hB7 := btr hB6 hb7
   clear c0 l0 xl6 hV6 hK6 hcr hB6 hcm Hpw Q1 hb7
   go_wp2_with fail
   refine Hcm.out.mono ?_
   rintro e w8 ⟨v8, rfl, hX8, hb8⟩
   simp only at hX8 |-
   have hX := hX8
   obtain ⟨zo, zc, yo, yc, xo, xc, rfl, -, -, -⟩ := hX8
   have hBo := Below.one w8 (.cells (ixC Z.disk zo yo zc yc Z.frm Z.til Z.ver Z.root xo Z.free.length xc) 33)
   have xz := Bx.new w8 (ixC Z.disk zo yo zc yc Z.frm Z.til Z.ver Z.root xo Z.free.length xc) 33
   have xl9 := (xl7.belowAll hb8).belowAll hBo
   have hK9 := (hK7.below hb8).below hBo
   have hC9 := (hC7.below hb8).below hBo
   have hZ9 := hX.below hBo
   have hB9 := btr (btr hB7 hb8) hBo
   have hbl : b < w8.heap.size := (xl7.belowAll hb8).lt
   clear hX hb8 hBo xl7 hV7 hB7 hK7 hC7 Hcm hp1 hP7
   go_upto_region 6 with fail
   obtain ⟨bz, hbz⟩ : ∃ b, w8.heap.size = b := ⟨_, rfl⟩
   obtain ⟨W9, hW9⟩ : ∃ W, w8.alloc (.cells (ixC Z.disk zo yo zc yc Z.frm Z.til Z.ver Z.root xo Z.free.length xc) 33) = W := ⟨_, rfl⟩
   simp only [hW9, hbz] at *
   clear hW9 hbz
   have hB := hB9
   cases g0 : (e != 0)
   case' false =>
    have he : e = 0 := by simpa using g0
    have Q2 := zhI (Q.out.2.2.2.2 (.inl he))
    have h18 : (e == 18) = false := by rw [he]; rfl
   case' true =>
    cases g18 : (e != 18)
    case' true =>
     clear Q xl9 hK9 hC9 hZ9 xz
     go_wp2_with fail
     refine (law42_awake _).mono ?_
     rintro e w3 ⟨rfl, hb3⟩
     go_wp2
     go_ret
     exact ⟨rfl, btr hB hb3⟩
    have he : e = 18 := by simpa using g18
    have Q2 := zhI (Q.out.2.2.2.2 (.inr he))
    have h18 : (e == 18) = true := by rw [he]; rfl
   all_goals
    have He := zhI he
    clear he
    have q1 := Q2.out
    obtain ⟨hzc, hnd, F, m, hop0, hscF, hor, hml, hal, hvl⟩ := q1
    have haf := rn_After l lo lc cs co2 cc2 W9 hK9 hls hC9 hcs (by have := Q.out.2.1; omega) (by have := Q.out.2.2.2.1; omega) Q.out.2.2.1 hnd
    obtain ⟨M, hM⟩ : ∃ M, applyL l cs = M := ⟨_, rfl⟩
    rw [hM] at haf hor hal
    obtain ⟨C, hC⟩ : ∃ C, crashD Z.disk picks = C := ⟨_, rfl⟩
    rw [hC] at hop0
    have Haf := zhI haf
    have HF := zhI (zaI hscF (zaI hor (zaI hml (zaI hal hvl))))
    have Hop0 := zhI hop0
    have HC := zhI hC
    have Hzc := zhI hzc
    clear haf hscF hor hml hal hvl hop0 hC hzc hnd hM Q Q2
    go_wp2_with fail
    refine Haf.out.mono ?_
    rintro e w10 ⟨v10, rfl, hPa, hb10⟩
    obtain ⟨mo2, mc2, rfl, hms2, hmr2⟩ := PairsR.at hPa
    have xl := xl9.belowAll hb10
    have xz := xz.belowAll hb10
    have hB := btr hB hb10
    have hK := hK9.below hb10
    have hZ := hZ9.below hb10
    have hDz : DskV w10 (.agg (dC Z.disk zo yo zc yc)) Z.disk := by
     obtain ⟨po', pc', co', cc', fo', fc', e, hD, -, -⟩ := hZ
     simp only [Value.agg.injEq, Array.mk.injEq, List.cons.injEq, Value.slice.injEq, and_true, true_and] at e
     obtain ⟨⟨rfl, rfl⟩, ⟨rfl, rfl⟩, rfl, rfl⟩ := e
     exact hD
    obtain ⟨W4, hW4⟩ : ∃ W4, W4 = w10 := ⟨_, rfl⟩
    rw [<- hW4] at xl xz hB hK hZ hmr2 hDz |-
    have hcr := fun W (hb : Below W4.heap.size W4 W) => v_crash Z.disk _ picks ko kc W (hDz.below hb) (hq.below (btr hB hb)) (by omega) (by have := Hzc.out; omega) HC.out
    have hop := fun v W (hv : DskV W v C) => bt_Open C v y.frm y.til W hv
    rw [Hop0.out] at hop
    have Hcr := zhI hcr
    have Hop := zhI hop
    clear hcr hop hDz hZ xl9 hK9 hC9 hZ9 hB9 hb10 hPa Haf Hop0 HC Hzc hW4
    have c0 := xz.cell
    have l0 := xz.lt
    have c1 := xl.cell
    have l1 := xl.lt
    unfold ixC at c0 c1
    have cQ := Lat.cells W4
    go_upto_region 9 with fail
    refine wp_region_late 13 11 2 #[true, true, true, true, true, true, true, true, true, true, true, false, true, false, false] #[true, true, true, true, true, true, true, true, true, true, true, true, true, false, false] (fun i => if i = 3 then some (annDv C) else if i = 8 then some (annXE F 0) else if i = 12 then some (annB ixZ 33) else none) _ (by kernel_rfl) rfl (by rfl) (by rfl) (by kernel_rfl) (by rfl) rfl (fun _ _ _ _ h => h) (extract_pure _ _ rfl) ?_
    simp only [List.take_succ_cons, List.take_zero]
    refine LW.block 3 3 (by rfl) (by kernel_rfl) (by kernel_rfl) ?_
    simp only [ztP]
    repeat (first | go_big_quiet_skip | (go_big_quiet_want; go_big_quiet_op; go_big_quiet_on))
    refine wpQuiet_nil ?_
    refine LW.lzy _ (by rfl) (by rfl) ?_ ?_
    .
     intro yL _
     unfold lzAt
     go_simp
     exact lz_dv (Hcr.out _ yL.h)
    intro r3
    simp only [Act.put, zsP, annDv]
    refine LW.block 4 8 (by rfl) (by kernel_rfl) (by kernel_rfl) ?_
    simp only [ztP]
    repeat (first | go_big_quiet_skip | (go_big_quiet_want; go_big_quiet_op; go_big_quiet_on))
    refine wpQuiet_nil ?_
    refine LW.lzy _ (by rfl) (by rfl) ?_ ?_
    .
     intro yL hf
     have hd : DskV yL.w (r3.x 0) C := (hf 3 (by kernel_rfl)).get (j := 3) rfl rfl
     unfold lzAt
     go_simp
     exact lz_xo (Hop.out _ _ hd)
    intro r8
    simp only [Act.put, zsP, annXE]
    refine LW.block 3 12 (by rfl) (by kernel_rfl) (by kernel_rfl) ?_
    simp only [ztP]
    repeat (first | go_big_quiet_skip | (go_big_quiet_want; go_big_quiet_op; go_big_quiet_on))
    refine wpQuiet_nil ?_
    refine LW.lzy _ (by rfl) (by rfl) ?_ ?_
    .
     intro yL _
     unfold lzAt
     go_simp
     exact lz_box yL.w
    intro r12
    simp only [Act.put, zsP, annB]
    refine LW.done ?_
    intro wD hG
    have hv5 : IxT wD (r8.x 0) F := hG.get 8 rfl rfl
    obtain ⟨xb, -⟩ : Bx wD r12.lo ixZ 33 /\ r12.hi = r12.lo + 1 := hG.get 12 rfl rfl
    have hbD := hG.below
    have hrange := hG.range 12 r12 rfl
    obtain ⟨b2, hb2e⟩ : ∃ b2, r12.lo = b2 := ⟨_, rfl⟩
    obtain ⟨v5, hv5e⟩ : ∃ v5, r8.x 0 = v5 := ⟨_, rfl⟩
    rw [hb2e] at hrange
    rw [hv5e] at hv5 |-
    rw [hb2e] at xb |-
    clear hG hv5e c0 l0 c1 l1 cQ Hcr Hop
    have hv6 := hv5
    obtain ⟨fp, gp, gc, hc, gf, hf, rfl, -, -, -⟩ := hv5
    have hlt4 := xl.lt
    have hlt5 := xz.lt
    have z5 := xl.belowAll hbD
    have hB5 := btr hB hbD
    have cb := xb.cell
    have lb := xb.lt
    have fb := xb.free
    unfold ixZ at cb
    obtain ⟨Wf, hWf⟩ : ∃ Wf, st9 wD b2 (.int .i64 F.disk.size) (.slice fp F.disk.pages.length gp) (.slice gc F.disk.cache.length hc) (.int .i64 F.disk.left) (.int .i64 F.frm) (.int .i64 F.til) (.int .i64 F.ver) (.int .i64 F.root) (.slice gf F.free.length hf) = Wf := ⟨_, rfl⟩
    have ho : Only b2 wD Wf := by subst hWf; exact Only.nine
    have hn : b ≠ b2 := by have := hrange.1; omega
    have xf : Bx Wf b2 (ixC F.disk fp gc gp hc F.frm F.til F.ver F.root gf F.free.length hf) 33 := by subst hWf; exact xb.set9
    have hBf : Below w.heap.size w Wf := by subst hWf; exact below_set9 hB5 (by have := hrange.1; have := hB.size; omega)
    have hVf := hv6.only xb (noS9 _ _ _ _ _ _ _ _ _ _ _ _ _ _ _) (by decide) ho
    have hKf := (hK.below hbD).only xb (noS9 _ _ _ _ _ _ _ _ _ _ _ _ _ _ _) ho
    have zf : Bx Wf b (ixC y.disk po co pc cc y.frm y.til y.ver y.root fo y.free.length fc) 33 := z5.only ho hn
    have hMf := (hmr2.below hbD).only xb (noS9 _ _ _ _ _ _ _ _ _ _ _ _ _ _ _) ho
    clear ho hv6 z5 hB5 hrange hbD hK hmr2
    unfold st9 st8 at hWf
    refine wpAny_ready (rs := [13]) (by kernel_rfl) (by simp) ?_
    refine AllReady.cons rfl (fun K hK => ?_) AllReady.nil
    go_simp
    refine hK _ _ ?_
    clear hK K
    refine wpAny_ready (rs := [14]) (by kernel_rfl) (by simp) ?_
    refine AllReady.cons rfl (fun K hK => ?_) AllReady.nil
    go_simp
    refine hK _ _ ?_
    clear hK K
    refine wpAny_done (by kernel_rfl) ?_ _
    (try rw [hWf])
    clear cb lb fb hWf xb
    have hsc := bt_Scan F _ ByteArray.empty ByteArray.empty Wf hVf.v HF.out.2.2.2.2
    rw [HF.out.1] at hsc
    have Hsc := zhI hsc
    have c0 := xf.cell
    have l0 := xf.lt
    unfold ixC at c0
    clear hsc hVf
    go_wp2_with fail
    refine Hsc.out.mono ?_
    rintro e w7 ⟨hb7, v7, rfl, hP⟩
    obtain ⟨mo, mc, rfl, hms, hmr⟩ := PairsR.at hP
    clear c0 l0 Hsc hP xf zf
    have hsp := rb_SamePairs m M mo mo2 mc mc2 w7 hmr (hMf.below hb7) (slw_len hms) (slw_len hms2)
    obtain ⟨eqb, heq⟩ : ∃ b, decide (m = M) = b := ⟨_, rfl⟩
    rw [heq] at hsp
    have Hsp := zhI hsp
    have Heq := zhI heq
    clear hsp heq
    go_wp2_with fail
    refine Hsp.out.mono ?_
    rintro e w9 ⟨rfl, hb9⟩
    have hB := btr hBf (btr hb7 hb9)
    cases eqb with
    | true =>
     clear Hsp HF
     go_wp2_with fail
     refine (law42_awake _).mono ?_
     rintro e w3 ⟨rfl, hb3⟩
     go_wp2
     go_ret
     exact ⟨rfl, btr hB hb3⟩
    | false =>
     rcases HF.out.2.1 with h | ⟨h, hm⟩
     .
      exact absurd h (of_decide_eq_false Heq.out)
     first | exact absurd (He.out.symm.trans h) (by decide) | skip
     all_goals
      subst hm
      have hb79 := btr hb7 hb9
      have hsp := rb_SamePairs m m mo lo mc lc w9 (hmr.below hb9) (hKf.below hb79) (slw_len hms) (slw_len hls)
      rw [show decide (m = m) = true by simp] at hsp
      have Hsp2 := zhI hsp
      clear hsp Hsp HF h
      go_wp2_with fail
      refine Hsp2.out.mono ?_
      rintro e w11 ⟨rfl, hb11⟩
      have hB := btr hB hb11
      clear Hsp2
      go_wp2_with fail
      refine (law42_awake _).mono ?_
      rintro e w3 ⟨rfl, hb3⟩
      go_wp2
      go_ret
      exact ⟨rfl, btr hB hb3⟩
end Go.Proofs.YtlefmmhlpgmbjaaGreat
