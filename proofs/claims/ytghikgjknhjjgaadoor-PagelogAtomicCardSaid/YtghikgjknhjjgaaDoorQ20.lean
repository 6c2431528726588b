/- law PagelogAtomic: the walk. -/
import Derived.Test.YtghikgjknhjjgaaDoorQ19
import Derived.Test.YtghikgjknhjjgaaDoorQ17
namespace Go.Proofs.YtghikgjknhjjgaaDoor
set_option maxRecDepth 100000
open Go.RowKit
theorem lg_strs {w : World} {l : Lg} {po co ro : Option Addr} {pc cc rc : Nat} (h : LgV w (.agg (lgC l.disk po co pc cc l.frm l.til l.ver ro l.recs.length rc)) l) : SlW ro l.recs.length rc ∧ StrsAt (· < w.heap.size) w ro l.recs := by
 obtain ⟨_, _, _, _, _, _, e, -, s1, t1⟩ := h
 simp only [Value.agg.injEq, Array.mk.injEq, List.cons.injEq, Value.slice.injEq, and_true, true_and] at e
 obtain ⟨-, -, rfl, rfl⟩ := e
 exact ⟨s1, t1⟩
set_option maxHeartbeats 8000000 in
theorem law41_atomic (w : World) (p s frm til : Int) (acts : List ActA) (o : Option Addr) (c : Nat) (hA : ActsAt w o acts) (hsl : SlW o acts.length c) (a : ActA) (so ko : Option Addr) (sc kc : Nat) (hok : ActOk w a so ko sc kc)
  (left : Nat) (hleft : left < 256) (picks : List Int) (qo : Option Addr) (qc : Nat) (hq : IntsAt (· < w.heap.size) w qo picks) (hT : TabW w) :
  Calls Tryd.prog 5 #[.agg #[.int .i64 p, .int .i64 s, .int .i64 frm, .int .i64 til, .slice o acts.length c], .agg (actC a so ko sc kc), .agg #[.int .u8 left, .slice qo picks.length qc]] w fun e w' => e = .returned (.bool true) ∧ Below w.heap.size w w' := by
 obtain ⟨N, hN⟩ : ∃ N, w.heap.size = N := ⟨_, rfl⟩
 obtain ⟨W1, hW1⟩ : ∃ W1, ((w.alloc (.cells #[.int .i64 p, .int .i64 s, .int .i64 frm, .int .i64 til, .slice o acts.length c] 24)).alloc (.cells (actC a so ko sc kc) 38)).alloc (.cells #[.int .u8 left, .slice qo picks.length qc] 48) = W1 := ⟨_, rfl⟩
 have x0 : Bx W1 N #[.int .i64 p, .int .i64 s, .int .i64 frm, .int .i64 til, .slice o acts.length c] 24 := by subst hW1 hN; exact ((Bx.new w _ _).alloc _).alloc _
 have xa : Bx W1 (N + 1) (actC a so ko sc kc) 38 := by subst hW1 hN; exact (Bx.newAt _ _ _ _ (by simp)).alloc _
 have xp : Bx W1 (N + 1 + 1) #[.int .u8 left, .slice qo picks.length qc] 48 := by subst hW1 hN; exact Bx.newAt _ _ _ _ (by simp)
 have hB1 : Below w.heap.size w W1 := by subst hW1; exact ((Below.one w _).alloc (by simp) _).alloc (by simp; omega) _
 have hso := reach_sound (p := p) (s := s) (frm := frm) (til := til) (acts := acts)
 obtain ⟨l, ok, hR⟩ : ∃ l ok, reachL p s frm til acts = (l, ok) := ⟨_, _, rfl⟩
 have hRR := Lib.hid hR
 rw [hR] at hso
 simp only at hso
 have HS := Lib.hid hso
 clear hso hR
 have c0 := x0.cell
 have l0 := x0.lt
 have cp := xp.cell
 have lp := xp.lt
 have hbase0 : N + 1 + 1 < W1.heap.size := xp.lt
 go_enter Tryd.func5, Tryd.ntmps5
 go_upto_region 1 with fail
 have cQ := Lat.cells W1
 refine wp_region_lat (by kernel_rfl) (by kernel_rfl) ?_
 repeat (any_goals (first | go_big_quiet_skip | (go_big_quiet_want; go_big_quiet_op; first | go_big_quiet_on | go_big_quiet_call ((fail))) | quiet_step ((fail))))
 refine wpQuiet_nil ?_
 rintro W1b ⟨⟨_, hb1b⟩, rfl⟩
 have y0 := x0.belowAll hb1b
 have ya := xa.belowAll hb1b
 have hB1' := btr hB1 hb1b
 have hzz := hb1b.size
 clear c0 l0 cp lp cQ x0 xa xp hB1 hb1b hW1
 have c0 := y0.cell
 have l0 := y0.lt
 have hrc := rn_Reached p s frm til acts o c W1b (hA.below hB1') hsl (hT.below hB1')
 rw [hRR.out] at hrc
 simp only at hrc
 have hbase : N + 1 + 1 < W1b.heap.size := by omega
 generalize W1b = W1 at *
 have hB1 := hB1'
 have xa := ya
 have x0 := y0
 clear hB1' ya y0 hzz
 go_wp2_with fail
 refine hrc.mono ?_
 rintro e w2 ⟨v2, rfl, hv2, hb2⟩
 have hv := hv2
 obtain ⟨po, pc, co, cc, ro, rc, rfl, -, -, -⟩ := hv2
 have hB2 := btr hB1 hb2
 have xa2 := xa.belowAll hb2
 have hBo := Below.one w2 (.cells (lgC l.disk po co pc cc l.frm l.til l.ver ro l.recs.length rc) 32)
 have xl := Bx.new w2 (lgC l.disk po co pc cc l.frm l.til l.ver ro l.recs.length rc) 32
 have ya := xa2.belowAll hBo
 have hV := hv.below hBo
 have hB := btr hB2 hBo
 have hs2 := hb2.size
 clear hrc hv hBo c0 l0 xa2 x0 xa hRR
 go_upto_region 3 with fail
 obtain ⟨b, hbe⟩ : ∃ b, w2.heap.size = b := ⟨_, rfl⟩
 have hwb : N + 2 < b := by omega
 obtain ⟨W4, hW4⟩ : ∃ W4, w2.alloc (.cells (lgC l.disk po co pc cc l.frm l.til l.ver ro l.recs.length rc) 32) = W4 := ⟨_, rfl⟩
 simp only [hW4, hbe] at *
 clear hW4 hbe hB2 hb2 hB1 hs2 hbase
 have c0 := xl.cell
 have l0 := xl.lt
 have ca := ya.cell
 have la := ya.lt
 cases ok with
 | false =>
  go_wp2_with fail
  refine (law41_awake _ (hT.below hB)).mono ?_
  rintro e w3 ⟨rfl, hb3⟩
  go_wp2
  go_ret
  exact ⟨rfl, btr hB hb3⟩
 | true =>
  cases g2 : decide ((20 : Int) < (picks.length : Int))
  rotate_left
  ·
   go_wp2_with fail
   refine (law41_awake _ (hT.below hB)).mono ?_
   rintro e w3 ⟨rfl, hb3⟩
   go_wp2
   go_ret
   exact ⟨rfl, btr hB hb3⟩
  cases g3 : decide (a.kind < 0)
  rotate_left
  ·
   go_wp2_with fail
   refine (law41_awake _ (hT.below hB)).mono ?_
   rintro e w3 ⟨rfl, hb3⟩
   go_wp2
   go_ret
   exact ⟨rfl, btr hB hb3⟩
  cases g4 : decide ((1 : Int) < a.kind)
  rotate_left
  ·
   go_wp2_with fail
   refine (law41_awake _ (hT.below hB)).mono ?_
   rintro e w3 ⟨rfl, hb3⟩
   go_wp2
   go_ret
   exact ⟨rfl, btr hB hb3⟩
  have hpl := of_decide_eq_false g2
  have hk0 := of_decide_eq_false g3
  have hk1 := of_decide_eq_false g4
  have hkk : a.kind = 0 ∨ a.kind = 1 := by omega
  go_wp2_with fail
  have xs := Bx.new W4 (actC a so ko sc kc) 38
  have hBo := Below.one W4 (.cells (actC a so ko sc kc) 38)
  have hB3 := btr hB hBo
  have hfi := rn_Fine 0 0 0 0 [a] (some ⟨W4.heap.size, 0, none⟩) 1 _ (acts_one xs (hok.below hB3)) (.inr ⟨_, rfl, by simp, by unfold maxLen; decide⟩)
  have xl3 := xl.belowAll hBo
  have ya3 := ya.belowAll hBo
  have hV3 := hV.below hBo
  simp only [List.length_cons, List.length_nil, Nat.zero_add] at hfi
  clear xs hBo c0 l0 ca la hB hV xl ya
  cases g : fineB 0 0 [a]
  ·
   rw [g] at hfi
   refine hfi.mono ?_
   rintro e w4 ⟨rfl, hb4⟩
   have hB := btr hB3 hb4
   clear hfi g hB3 xl3 ya3 hV3
   go_wp2_with fail
   refine (law41_awake _ (hT.below hB)).mono ?_
   rintro e w3 ⟨rfl, hb3⟩
   go_wp2
   go_ret
   exact ⟨rfl, btr hB hb3⟩
  rw [g] at hfi
  have haf : actFine a = true := by
   unfold fineB at g
   simpa using g
  obtain ⟨f1, f2, f3⟩ := act_fine haf
  refine hfi.mono ?_
  rintro e w4 ⟨rfl, hb4⟩
  have hB := btr hB3 hb4
  have xl := xl3.belowAll hb4
  have xa := ya3.belowAll hb4
  have hV := hV3.below hb4
  clear hfi g hB3 xl3 ya3 hb4 hV3 g2 g3 g4
  obtain ⟨hs, hbd, hbr⟩ := HS.out (by trivial)
  have hz4 := hB.size
  have c0 := xl.cell
  have l0 := xl.lt
  have ca := xa.cell
  have la := xa.lt
  cases gl : (l.disk.left != -1)
  ·
   have hl1 : l.disk.left = -1 := by simpa using gl
   have hgood : ∃ U, U ≤ 11 ∧ LogG l frm til U := by
    rcases hs with hs | ⟨_, _, h0, _⟩
    ·
     exact hs
    ·
     rw [h0] at hl1; exact absurd hl1 (by decide)
   obtain ⟨U, hU, hg⟩ := hgood
   obtain ⟨W0, hW0⟩ : ∃ W0, w4 = W0 := ⟨_, rfl⟩
   subst hW0
   have hL0 : b < w4.heap.size := xl.lt
   clear hs hbd hbr HS
   go_upto_region 9 with fail
   generalize w4 = W0 at *
   obtain ⟨bd1, bd2, bd3, bd4, bd5⟩ := hg.bd
   obtain ⟨x, hx⟩ : ∃ x : Int, (left : Int) % 20 = x := ⟨_, rfl⟩
   have hx0 : 0 ≤ x ∧ x < 20 := by omega
   obtain ⟨Wh, ew, hWh⟩ : ∃ Wh ew, doL l a = (Wh, ew) := ⟨_, _, rfl⟩
   obtain ⟨tn, htn⟩ : ∃ tn : Lg, tn = { l with disk := { l.disk with left := x } } := ⟨_, rfl⟩
   obtain ⟨T, ft, hTt⟩ : ∃ T ft, doL tn a = (T, ft) := ⟨_, _, rfl⟩
   obtain ⟨C, hC⟩ : ∃ C, crashD T.disk picks = C := ⟨_, rfl⟩
   obtain ⟨F, fe, hF⟩ : ∃ F fe, openL C l.frm l.til = (F, fe) := ⟨_, _, rfl⟩
   have hkey := atomic_key hg hl1 (by omega) haf hkk (x := x) hx0.1 picks (T := T) (f := ft) (by rw [← htn]; exact hTt)
   rw [hWh, hC, hF] at hkey
   simp only at hkey
   obtain ⟨k1, k2, k3, k4, k5⟩ := hkey
   subst k1
   have hTc : T.disk.cache.length ≤ 10000 := by
    have := (doL_bd (l := tn) (a := a) (C := 0) (by rw [htn]; simp only; omega) (M := 1100000) (by omega) (by rw [htn]; simp only; omega)).1
    rw [hTt] at this
    simp only at this
    omega
   have hd1 := fun W (hb : Below W0.heap.size W0 W) => rn_Do l _ a so ko sc kc W (hV.below hb) (hok.below (btr hB hb)) (by omega) (by omega) (by omega) (hT.below (btr hB hb)) (by omega) (by omega)
   rw [hWh] at hd1
   have hd2 := fun W v (hb : Below W0.heap.size W0 W) (hv : LgV W v tn) => rn_Do tn v a so ko sc kc W hv (hok.below (btr hB hb)) (by omega) (by omega) (by omega) (hT.below (btr hB hb)) (by rw [htn]; simp only; omega) (by rw [htn]; simp only; omega)
   rw [hTt] at hd2
   have hcr := fun v W (hb : Below W0.heap.size W0 W) (hv : DskV W v T.disk) => v_crash T.disk v picks qo qc W hv (hq.below (btr hB hb)) (by omega) (by omega) hC
   have hop := fun v W (hv : DskV W v C) => pl_Open C v l.frm l.til W hv
   rw [hF] at hop
   have H1 := Lib.hid hd1
   have H2 := Lib.hid hd2
   have Hcr := Lib.hid hcr
   have Hop := Lib.hid hop
   have K2 := Lib.hid k2
   have K3 := Lib.hid k3
   have K4 := Lib.hid k4
   have K5 := Lib.hid k5
   have Htn := Lib.hid htn
   have htf : tn.disk.size = l.disk.size ∧ tn.disk.pages = l.disk.pages ∧ tn.disk.cache = l.disk.cache ∧ tn.disk.left = x ∧ tn.frm = l.frm ∧ tn.til = l.til ∧ tn.ver = l.ver ∧ tn.recs = l.recs := by rw [htn]; exact ⟨rfl, rfl, rfl, rfl, rfl, rfl, rfl, rfl⟩
   have Htf := Lib.hid htf
   clear hd1 hd2 hcr hop k2 k3 k4 k5 hC hF hTt hWh htn htf bd1 bd2 bd3 bd4 bd5 hg f1 f2 f3 haf hkk hTc hl1
   go_wp2_with fail
   refine (H1.out _ (Below.refl _ _)).mono ?_
   rintro e w5 ⟨v5, rfl, hv5, hb5⟩
   have hv := hv5
   obtain ⟨p1, m1, q1, n1, r1, t1, rfl, -, -, -⟩ := hv5
   have hBo := Below.one w5 (.cells (lgC Wh.disk p1 q1 m1 n1 Wh.frm Wh.til Wh.ver r1 Wh.recs.length t1) 32)
   have xw := Bx.new w5 (lgC Wh.disk p1 q1 m1 n1 Wh.frm Wh.til Wh.ver r1 Wh.recs.length t1) 32
   have yl := (xl.belowAll hb5).belowAll hBo
   have ya := (xa.belowAll hb5).belowAll hBo
   have hVw := hv.below hBo
   have hVl := (hV.below hb5).below hBo
   have hB5 := btr hb5 hBo
   have hs5 := hb5.size
   clear hv hBo hb5 c0 l0 ca la H1 xl xa
   go_upto_region 10 with fail
   obtain ⟨bw, hbw⟩ : ∃ b, w5.heap.size = b := ⟨_, rfl⟩
   have hbw2 : b < bw := by have := hL0; omega
   obtain ⟨W6, hW6⟩ : ∃ W6, w5.alloc (.cells (lgC Wh.disk p1 q1 m1 n1 Wh.frm Wh.til Wh.ver r1 Wh.recs.length t1) 32) = W6 := ⟨_, rfl⟩
   simp only [hW6, hbw] at *
   clear hW6
   have c0 := yl.cell
   have l0 := yl.lt
   go_upto_region 11 with fail
   have hBo := Below.one W6 (.cells (lgC l.disk po co pc cc l.frm l.til l.ver ro l.recs.length rc) 32)
   have xt := Bx.new W6 (lgC l.disk po co pc cc l.frm l.til l.ver ro l.recs.length rc) 32
   have zl := yl.belowAll hBo
   have za := ya.belowAll hBo
   have zw := xw.belowAll hBo
   have hVw := hVw.below hBo
   have hVl := hVl.below hBo
   have hB6 := btr hB5 hBo
   have hlw := xw.lt
   obtain ⟨bt, hbt⟩ : ∃ b, W6.heap.size = b := ⟨_, rfl⟩
   have hbt2 : bw < bt := by omega
   obtain ⟨W7, hW7⟩ : ∃ W7, W6.alloc (.cells (lgC l.disk po co pc cc l.frm l.til l.ver ro l.recs.length rc) 32) = W7 := ⟨_, rfl⟩
   simp only [hW7, hbt] at *
   clear hW7 hBo c0 l0 yl ya xw hB5 hlw
   have ct := xt.cell
   have lt := xt.lt
   have ft' := xt.free
   obtain ⟨W8, hW8⟩ : ∃ W8, W7.setCell ⟨bt, 3, none⟩ (.int .i64 x) = W8 := ⟨_, rfl⟩
   have ho : Only bt W7 W8 := by subst hW8; exact Only.one
   have hnS := noS_lg l.disk.size l.disk.left l.frm l.til l.ver po co ro l.disk.pages.length l.disk.cache.length l.recs.length pc cc rc
   have yt : Bx W8 bt (lgC tn.disk po co pc cc tn.frm tn.til tn.ver ro tn.recs.length rc) 32 := by
    obtain ⟨e1, e2, e3, e4, e5, e6, e7, e8⟩ := Htf.out
    show Bx W8 bt #[.int .i64 tn.disk.size, .slice po tn.disk.pages.length pc, .slice co tn.disk.cache.length cc, .int .i64 tn.disk.left, .int .i64 tn.frm, .int .i64 tn.til, .int .i64 tn.ver, .slice ro tn.recs.length rc] _
    rw [e1, e2, e3, e4, e5, e6, e7, e8]
    subst hW8
    have := xt.set 3 (.int .i64 x)
    simpa using this
   have hVt : LgV W8 (.agg (lgC tn.disk po co pc cc tn.frm tn.til tn.ver ro tn.recs.length rc)) tn := by
    have := (hVl.left x (by omega)).only xt hnS ho
    rw [← Htn.out] at this
    obtain ⟨e1, e2, e3, e4, e5, e6, e7, e8⟩ := Htf.out
    show LgV W8 (.agg #[.int .i64 tn.disk.size, .slice po tn.disk.pages.length pc, .slice co tn.disk.cache.length cc, .int .i64 tn.disk.left, .int .i64 tn.frm, .int .i64 tn.til, .int .i64 tn.ver, .slice ro tn.recs.length rc]) tn
    rw [e1, e2, e3, e4, e5, e6, e7, e8]
    exact this
   have zl8 := zl.only ho (by omega)
   have za8 := za.only ho (by omega)
   have zw8 := zw.only ho (by omega)
   have hVw8 := hVw.only xt hnS ho
   have hVl8 := hVl.only xt hnS ho
   have hB8 : Below W0.heap.size W0 W8 := by subst hW8; exact below_set1 (b := bt) hB6 (by omega)
   clear hVw hVl zl za zw hB6 ho Htn
   have hp1 : IntKind.i64.wrap (left : Int) = (left : Int) := IntWalk.i64_in _ (by omega)
   have hmod : (left : Int).tmod 20 = x := by rw [Int.tmod_eq_emod_of_nonneg (by omega)]; exact hx
   go_upto_region 12 with fail
   have ct := yt.cell
   have lt := yt.lt
   have ca := za8.cell
   have la := za8.lt
   go_wp2_with fail
   refine (H2.out _ _ hB8 hVt).mono ?_
   rintro e w9 ⟨v9, rfl, hv9, hb9⟩
   have hv := hv9
   obtain ⟨p2, m2, q2, n2, r2, t2, rfl, -, -, -⟩ := hv9
   have zl9 := zl8.belowAll hb9
   have zw9 := zw8.belowAll hb9
   have zt9 := yt.belowAll hb9
   have hVw9 := hVw8.below hb9
   have hVl9 := hVl8.below hb9
   have hB9 := btr hB8 hb9
   clear ct lt ca la H2 zl8 za8 zw8 yt hVw8 hVl8 hB8 hVt hb9 ft' hW8
   have ct := zt9.cell
   have lt := zt9.lt
   have ft' := zt9.free
   obtain ⟨W10, hW10⟩ : ∃ Wf, st8 w9 bt (.int .i64 T.disk.size) (.slice p2 T.disk.pages.length m2) (.slice q2 T.disk.cache.length n2) (.int .i64 T.disk.left) (.int .i64 T.frm) (.int .i64 T.til) (.int .i64 T.ver) (.slice r2 T.recs.length t2) = Wf := ⟨_, rfl⟩
   have ho : Only bt w9 W10 := by subst hW10; exact Only.eight
   have hnS := noS_lg tn.disk.size tn.disk.left tn.frm tn.til tn.ver po co ro tn.disk.pages.length tn.disk.cache.length tn.recs.length pc cc rc
   have xt : Bx W10 bt (lgC T.disk p2 q2 m2 n2 T.frm T.til T.ver r2 T.recs.length t2) 32 := by subst hW10; exact zt9.set8
   have xl : Bx W10 b (lgC l.disk po co pc cc l.frm l.til l.ver ro l.recs.length rc) 32 := zl9.only ho (by omega)
   have xw := zw9.only ho (by omega)
   have hVt := hv.only zt9 hnS ho
   have hVw := hVw9.only zt9 hnS ho
   have hVl := hVl9.only zt9 hnS ho
   have hB10 : Below w.heap.size w W10 := by subst hW10; exact below_set8 (btr hB hB9) (by have := hB.size; omega)
   have hB10z : Below W0.heap.size W0 W10 := by subst hW10; exact below_set8 hB9 (by omega)
   clear zl9 zw9 hVw9 hVl9 hB9 ho hv hnS zt9
   unfold st8 at hW10
   go_upto_region 13 with fail
   clear ct lt ft' hW10
   have ct := xt.cell
   have lt := xt.lt
   have cl := xl.cell
   have ll := xl.lt
   have hDT : DskV W10 (.agg (dC T.disk p2 q2 m2 n2)) T.disk := by
    obtain ⟨_, _, _, _, _, _, e, hD, -, -⟩ := id hVt
    simp only [Value.agg.injEq, Array.mk.injEq, List.cons.injEq, Value.slice.injEq, and_true, true_and] at e
    obtain ⟨⟨rfl, rfl⟩, ⟨rfl, rfl⟩, rfl, rfl⟩ := e
    exact hD
   have HBw : Hid (∀ x : Lat W10, Below w.heap.size w x.w) := Lib.hid (fun x => btr hB10 x.h)
   have HB0 : Hid (∀ x : Lat W10, Below W0.heap.size W0 x.w) := Lib.hid (fun x => btr hB10z x.h)
   clear hB10z
   have HDw : Hid (∀ x : Lat W10, DskV x.w (.agg (dC T.disk p2 q2 m2 n2)) T.disk) := Lib.hid (fun x => hDT.below x.h)
   have cQ := Lat.cells W10
   clear hDT
   refine wp_region_late 13 11 2 #[true, true, true, true, true, true, true, true, true, true, true, false, true, false, false] #[true, true, true, true, true, true, true, true, true, true, true, true, true, false, false] (fun i => if i = 3 then some (annDv C) else if i = 8 then some (annLE F 0) else if i = 12 then some (annB lgZ 32) else none) _ (by kernel_rfl) rfl (by rfl) (by rfl) (by kernel_rfl) (by rfl) rfl (fun _ _ _ _ h => h) (extract_pure _ _ rfl) ?_
   simp only [List.take_succ_cons, List.take_zero]
   refine LW.block 3 3 (by rfl) (by kernel_rfl) (by kernel_rfl) ?_
   simp only [List.take_succ_cons, List.take_zero, List.drop_succ_cons, List.drop_zero]
   repeat (first | go_big_quiet_skip | (go_big_quiet_want; go_big_quiet_op; go_big_quiet_on))
   refine wpQuiet_nil ?_
   refine LW.lzy _ (by rfl) (by rfl) ?_ ?_
   ·
    intro yL _
    unfold lzAt
    go_simp
    exact lz_dv (Hcr.out _ _ (HB0.out yL) (HDw.out yL))
   intro r3
   simp only [Act.put, List.setIfInBounds_toArray, List.set_cons_zero, List.set_cons_succ, annDv]
   refine LW.block 4 8 (by rfl) (by kernel_rfl) (by kernel_rfl) ?_
   simp only [List.take_succ_cons, List.take_zero, List.drop_succ_cons, List.drop_zero]
   repeat (first | go_big_quiet_skip | (go_big_quiet_want; go_big_quiet_op; go_big_quiet_on))
   refine wpQuiet_nil ?_
   refine LW.lzy _ (by rfl) (by rfl) ?_ ?_
   ·
    intro yL hf
    have hd : DskV yL.w (r3.x 0) C := (hf 3 (by kernel_rfl)).get (j := 3) rfl rfl
    unfold lzAt
    go_simp
    exact lz_le (Hop.out _ _ hd)
   intro r8
   simp only [Act.put, List.setIfInBounds_toArray, List.set_cons_zero, List.set_cons_succ, annLE]
   refine LW.block 3 12 (by rfl) (by kernel_rfl) (by kernel_rfl) ?_
   simp only [List.take_succ_cons, List.take_zero, List.drop_succ_cons, List.drop_zero]
   repeat (first | go_big_quiet_skip | (go_big_quiet_want; go_big_quiet_op; go_big_quiet_on))
   refine wpQuiet_nil ?_
   refine LW.lzy _ (by rfl) (by rfl) ?_ ?_
   ·
    intro yL _
    unfold lzAt
    go_simp
    exact lz_box yL.w
   intro r12
   simp only [Act.put, List.setIfInBounds_toArray, List.set_cons_zero, List.set_cons_succ, annB]
   refine LW.done ?_
   intro w11 hG
   have hv11 : LgV w11 (r8.x 0) F := hG.get 8 rfl rfl
   obtain ⟨xb, -⟩ : Bx w11 r12.lo lgZ 32 ∧ r12.hi = r12.lo + 1 := hG.get 12 rfl rfl
   have hb11 := hG.below
   have hrange := hG.range 12 r12 rfl
   obtain ⟨b2, hb2e⟩ : ∃ b2, r12.lo = b2 := ⟨_, rfl⟩
   obtain ⟨v11, hv11e⟩ : ∃ v5, r8.x 0 = v5 := ⟨_, rfl⟩
   rw [hb2e] at hrange
   rw [hv11e] at hv11 ⊢
   rw [hb2e] at xb ⊢
   clear hG hv11e ct lt cl ll cQ Hcr Hop HDw HBw HB0
   have hv := hv11
   obtain ⟨fp, gp, fc, gc, fr, gr, rfl, -, -, -⟩ := hv11
   have hltt := xt.lt
   have zt := xt.belowAll hb11
   have zl := xl.belowAll hb11
   have zw := xw.belowAll hb11
   have hB11 := btr hB10 hb11
   have cb := xb.cell
   have lb := xb.lt
   have fb := xb.free
   obtain ⟨Wf, hWf⟩ : ∃ Wf, st8 w11 b2 (.int .i64 F.disk.size) (.slice fp F.disk.pages.length gp) (.slice fc F.disk.cache.length gc) (.int .i64 F.disk.left) (.int .i64 F.frm) (.int .i64 F.til) (.int .i64 F.ver) (.slice fr F.recs.length gr) = Wf := ⟨_, rfl⟩
   have ho : Only b2 w11 Wf := by subst hWf; exact Only.eight
   have hnS := noS_lg 0 0 0 0 0 none none none 0 0 0 0 0 0
   have hr1 := hrange.1
   have yo : Bx Wf b2 (lgC F.disk fp fc gp gc F.frm F.til F.ver fr F.recs.length gr) 32 := by subst hWf; exact xb.set8
   have yt := zt.only ho (by omega)
   have yl := zl.only ho (by omega)
   have yw := zw.only ho (by omega)
   have hBf : Below w.heap.size w Wf := by subst hWf; exact below_set8 hB11 (by have := hB10.size; omega)
   have hVo := hv.only xb (noS_lg _ _ _ _ _ _ _ _ _ _ _ _ _ _) ho
   have hVt := (hVt.below hb11).only xb (noS_lg _ _ _ _ _ _ _ _ _ _ _ _ _ _) ho
   have hVw := (hVw.below hb11).only xb (noS_lg _ _ _ _ _ _ _ _ _ _ _ _ _ _) ho
   have hVl := (hVl.below hb11).only xb (noS_lg _ _ _ _ _ _ _ _ _ _ _ _ _ _) ho
   clear ho hv zt zl zw hB11 hrange hb11 hB10 xt xl xw hltt hnS hr1
   unfold st8 at hWf
   refine wpAny_ready (rs := [13]) (by kernel_rfl) (by simp) ?_
   refine AllReady.cons rfl (fun K hK => ?_) AllReady.nil
   go_simp
   refine hK _ _ ?_
   clear hK K
   refine wpAny_ready (rs := [14]) (by kernel_rfl) (by simp) ?_
   refine AllReady.cons rfl (fun K hK => ?_) AllReady.nil
   go_simp
   refine hK _ _ ?_
   clear hK K
   refine wpAny_done (by kernel_rfl) ?_ _
   clear cb lb fb hWf xb
   have sO := lg_strs hVo
   have sT := lg_strs hVt
   have sW := lg_strs hVw
   have sL := lg_strs hVl
   clear hVo hVt hVw hVl
   have hqOL := fun W (hb : Below Wf.heap.size Wf W) => sl_equal F.recs l.recs fr ro gr rc W (sO.2.below hb) (sL.2.below hb) (slw_len sO.1) (slw_len sL.1)
   have hqTL := fun W (hb : Below Wf.heap.size Wf W) => sl_equal T.recs l.recs r2 ro t2 rc W (sT.2.below hb) (sL.2.below hb) (slw_len sT.1) (slw_len sL.1)
   have hqOW := fun W (hb : Below Wf.heap.size Wf W) => sl_equal F.recs Wh.recs fr r1 gr t1 W (sO.2.below hb) (sW.2.below hb) (slw_len sO.1) (slw_len sW.1)
   have Ha : Hid (∀ W, Below Wf.heap.size Wf W → Calls Tryd.prog 9 #[] W fun e w' => e = .returned (.bool true) ∧ Below W.heap.size W w') := Lib.hid fun W hb => law41_awake W (hT.below (btr hBf hb))
   have Q1 := Lib.hid hqOL
   have Q2 := Lib.hid hqTL
   have Q3 := Lib.hid hqOW
   clear sO sT sW sL hqOL hqTL hqOW
   by_cases h18 : ft = 18
   ·
    have hew := K3.out h18
    subst h18
    subst hew
    cases gq : decide (F.recs = l.recs)
    ·
     have hne := of_decide_eq_false gq
     have hk5 := K5.out (fun h => hne h.2)
     rw [gq] at Q1
     have Q3' : Hid (∀ W, Below Wf.heap.size Wf W → Calls Tryd.prog 14 #[.slice fr F.recs.length gr, .slice r1 Wh.recs.length t1] W fun e w' => e = .returned (.bool true) ∧ Below W.heap.size W w') := Lib.hid fun W hb => by
      have := Q3.out W hb
      rw [show decide (F.recs = Wh.recs) = true by simp [hk5]] at this
      exact this
     clear hk5 hne gq K2 K3 K4 K5 Q3
     have uo := yo
     have ut := yt
     have ul := yl
     have uw := yw
     have co := uo.cell
     have lo := uo.lt
     have ct := ut.cell
     have lt := ut.lt
     have cl := ul.cell
     have ll := ul.lt
     have cw := uw.cell
     have lw := uw.lt
     go_wp2_with fail
     refine (Q1.out _ (Below.refl _ _)).mono ?_
     rintro e wC ⟨rfl, hbC⟩
     clear uo ut ul uw co ct cl cw lo lt ll lw
     have uo := yo.belowAll hbC
     have ut := yt.belowAll hbC
     have ul := yl.belowAll hbC
     have uw := yw.belowAll hbC
     have co := uo.cell
     have lo := uo.lt
     have ct := ut.cell
     have lt := ut.lt
     have cl := ul.cell
     have ll := ul.lt
     have cw := uw.cell
     have lw := uw.lt
     go_wp2_with fail
     refine (Q3'.out _ hbC).mono ?_
     rintro e wE ⟨rfl, hbE'⟩
     have hbE := btr hbC hbE'
     clear co cw ct cl lo lw lt ll
     go_wp2_with fail
     refine (Ha.out _ hbE).mono ?_
     rintro e wY ⟨rfl, hbY⟩
     go_wp2
     go_ret
     exact ⟨rfl, btr (btr hBf hbE) hbY⟩
    ·
     have heq := of_decide_eq_true gq
     have hk4 := K4.out ⟨rfl, heq⟩
     rw [gq] at Q1
     have Q2' : Hid (∀ W, Below Wf.heap.size Wf W → Calls Tryd.prog 14 #[.slice r2 T.recs.length t2, .slice ro l.recs.length rc] W fun e w' => e = .returned (.bool true) ∧ Below W.heap.size W w') := Lib.hid fun W hb => by
      have := Q2.out W hb
      rw [show decide (T.recs = l.recs) = true by simp [hk4]] at this
      exact this
     clear hk4 heq gq K2 K3 K4 K5 Q2
     have uo := yo
     have ut := yt
     have ul := yl
     have uw := yw
     have co := uo.cell
     have lo := uo.lt
     have ct := ut.cell
     have lt := ut.lt
     have cl := ul.cell
     have ll := ul.lt
     have cw := uw.cell
     have lw := uw.lt
     go_wp2_with fail
     refine (Q1.out _ (Below.refl _ _)).mono ?_
     rintro e wC ⟨rfl, hbC⟩
     clear uo ut ul uw co ct cl cw lo lt ll lw
     have uo := yo.belowAll hbC
     have ut := yt.belowAll hbC
     have ul := yl.belowAll hbC
     have uw := yw.belowAll hbC
     have co := uo.cell
     have lo := uo.lt
     have ct := ut.cell
     have lt := ut.lt
     have cl := ul.cell
     have ll := ul.lt
     have cw := uw.cell
     have lw := uw.lt
     go_wp2_with fail
     refine (Q2'.out _ hbC).mono ?_
     rintro e wE ⟨rfl, hbE'⟩
     have hbE := btr hbC hbE'
     clear co cw ct cl lo lw lt ll
     go_wp2_with fail
     refine (Ha.out _ hbE).mono ?_
     rintro e wY ⟨rfl, hbY⟩
     go_wp2
     go_ret
     exact ⟨rfl, btr (btr hBf hbE) hbY⟩
   ·
    have hew : ew = ft := by
     rcases K2.out with h | h
     ·
      exact absurd h h18
     ·
      exact h.symm
    subst hew
    have hk5 := K5.out (fun h => h18 h.1)
    have Q3' : Hid (∀ W, Below Wf.heap.size Wf W → Calls Tryd.prog 14 #[.slice fr F.recs.length gr, .slice r1 Wh.recs.length t1] W fun e w' => e = .returned (.bool true) ∧ Below W.heap.size W w') := Lib.hid fun W hb => by
     have := Q3.out W hb
     rw [show decide (F.recs = Wh.recs) = true by simp [hk5]] at this
     exact this
    have n1 : (ew != 18) = true := by simpa using h18
    have n2 : (ew == 18) = false := by simpa using h18
    have n3 : (ew != ew) = false := by simp
    clear hk5 K2 K3 K4 K5 Q3 h18
    have uo := yo
    have ut := yt
    have ul := yl
    have uw := yw
    have co := uo.cell
    have lo := uo.lt
    have ct := ut.cell
    have lt := ut.lt
    have cl := ul.cell
    have ll := ul.lt
    have cw := uw.cell
    have lw := uw.lt
    go_wp2_with fail
    refine (Q3'.out _ (Below.refl _ _)).mono ?_
    rintro e wE ⟨rfl, hbE⟩
    clear co cw ct cl lo lw lt ll
    go_wp2_with fail
    refine (Ha.out _ hbE).mono ?_
    rintro e wY ⟨rfl, hbY⟩
    go_wp2
    go_ret
    exact ⟨rfl, btr (btr hBf hbE) hbY⟩
  ·
   have hl1 : l.disk.left ≠ -1 := by simpa using gl
   obtain ⟨a3, ha3⟩ : ∃ a3 : ActA, a3 = ⟨3, [], 0, []⟩ := ⟨_, rfl⟩
   obtain ⟨U, hU, hgw, hlw⟩ := hs.wake (a := a3) (by rw [ha3]) (by rw [ha3])
   have hok3 : ∀ W, ActOk W a3 none none 0 0 := fun W => by rw [ha3]; exact ⟨.inl ⟨rfl, rfl, rfl⟩, .inl ⟨rfl, rfl, rfl⟩, fun i hi => absurd hi (Nat.not_lt_zero _), fun i hi => absurd hi (Nat.not_lt_zero _), by simp, by simp, fun x hx => by cases hx⟩
   have hd3 := rn_Do l _ a3 none none 0 0 w4 hV (hok3 _) (by rw [ha3]; simp) (by rw [ha3]; simp [sizeL]) (by rw [ha3]; simp) (hT.below hB) (by omega) (by omega)
   obtain ⟨l, e3, hL⟩ : ∃ L e3, doL l a3 = (L, e3) := ⟨_, _, rfl⟩
   rw [hL] at hgw hlw hd3
   simp only at hgw hlw
   have hae : actC a3 none none 0 0 = #[.int .i64 3, .slice none 0 0, .int .u8 0, .slice none 0 0] := by rw [ha3]; rfl
   rw [hae] at hd3
   have HGW := Lib.hid (And.intro hgw hlw)
   clear hL ha3 hok3 hae hs hbd hbr HS hgw hlw
   go_wp2_with fail
   refine hd3.mono ?_
   rintro e w5 ⟨v5, rfl, hv5, hb5⟩
   have hv := hv5
   obtain ⟨po, pc, co, cc, ro, rc, rfl, -, -, -⟩ := hv5
   have yl := xl.belowAll hb5
   have ya := xa.belowAll hb5
   have hB5 := btr hB hb5
   have hltl := xl.lt
   clear c0 l0 ca la xl xa hd3 hB hb5
   have c0 := yl.cell
   have l0 := yl.lt
   have f0 := yl.free
   obtain ⟨Wf, hWf⟩ : ∃ Wf, st8 w5 b (.int .i64 l.disk.size) (.slice po l.disk.pages.length pc) (.slice co l.disk.cache.length cc) (.int .i64 l.disk.left) (.int .i64 l.frm) (.int .i64 l.til) (.int .i64 l.ver) (.slice ro l.recs.length rc) = Wf := ⟨_, rfl⟩
   have ho : Only b w5 Wf := by subst hWf; exact Only.eight
   have xl : Bx Wf b (lgC l.disk po co pc cc l.frm l.til l.ver ro l.recs.length rc) 32 := by subst hWf; exact yl.set8
   have xa := ya.only ho (by omega)
   have hBf : Below w.heap.size w Wf := by subst hWf; exact below_set8 hB5 (by omega)
   have hVf := hv.only yl (noS_lg _ _ _ _ _ _ _ _ _ _ _ _ _ _) ho
   clear hv yl ya hB5 ho hV hltl
   unfold st8 at hWf
   go_upto_region 7 with fail
   clear c0 l0 f0 hWf
   have c0 := xl.cell
   have l0 := xl.lt
   have ca := xa.cell
   have la := xa.lt
   have gl2 : (l.disk.left != -1) = false := by simp [HGW.out.2]
   go_upto_region 9 with fail
   clear gl gl2 hl1
   have hL0 : b < Wf.heap.size := xl.lt
   have hB := hBf
   have hV := hVf
   obtain ⟨hg, hl1⟩ := HGW.out
   clear hBf hVf HGW
   generalize Wf = W0 at *
   obtain ⟨bd1, bd2, bd3, bd4, bd5⟩ := hg.bd
   obtain ⟨x, hx⟩ : ∃ x : Int, (left : Int) % 20 = x := ⟨_, rfl⟩
   have hx0 : 0 ≤ x ∧ x < 20 := by omega
   obtain ⟨Wh, ew, hWh⟩ : ∃ Wh ew, doL l a = (Wh, ew) := ⟨_, _, rfl⟩
   obtain ⟨tn, htn⟩ : ∃ tn : Lg, tn = { l with disk := { l.disk with left := x } } := ⟨_, rfl⟩
   obtain ⟨T, ft, hTt⟩ : ∃ T ft, doL tn a = (T, ft) := ⟨_, _, rfl⟩
   obtain ⟨C, hC⟩ : ∃ C, crashD T.disk picks = C := ⟨_, rfl⟩
   obtain ⟨F, fe, hF⟩ : ∃ F fe, openL C l.frm l.til = (F, fe) := ⟨_, _, rfl⟩
   have hkey := atomic_key hg hl1 (by omega) haf hkk (x := x) hx0.1 picks (T := T) (f := ft) (by rw [← htn]; exact hTt)
   rw [hWh, hC, hF] at hkey
   simp only at hkey
   obtain ⟨k1, k2, k3, k4, k5⟩ := hkey
   subst k1
   have hTc : T.disk.cache.length ≤ 10000 := by
    have := (doL_bd (l := tn) (a := a) (C := 0) (by rw [htn]; simp only; omega) (M := 1100000) (by omega) (by rw [htn]; simp only; omega)).1
    rw [hTt] at this
    simp only at this
    omega
   have hd1 := fun W (hb : Below W0.heap.size W0 W) => rn_Do l _ a so ko sc kc W (hV.below hb) (hok.below (btr hB hb)) (by omega) (by omega) (by omega) (hT.below (btr hB hb)) (by omega) (by omega)
   rw [hWh] at hd1
   have hd2 := fun W v (hb : Below W0.heap.size W0 W) (hv : LgV W v tn) => rn_Do tn v a so ko sc kc W hv (hok.below (btr hB hb)) (by omega) (by omega) (by omega) (hT.below (btr hB hb)) (by rw [htn]; simp only; omega) (by rw [htn]; simp only; omega)
   rw [hTt] at hd2
   have hcr := fun v W (hb : Below W0.heap.size W0 W) (hv : DskV W v T.disk) => v_crash T.disk v picks qo qc W hv (hq.below (btr hB hb)) (by omega) (by omega) hC
   have hop := fun v W (hv : DskV W v C) => pl_Open C v l.frm l.til W hv
   rw [hF] at hop
   have H1 := Lib.hid hd1
   have H2 := Lib.hid hd2
   have Hcr := Lib.hid hcr
   have Hop := Lib.hid hop
   have K2 := Lib.hid k2
   have K3 := Lib.hid k3
   have K4 := Lib.hid k4
   have K5 := Lib.hid k5
   have Htn := Lib.hid htn
   have htf : tn.disk.size = l.disk.size ∧ tn.disk.pages = l.disk.pages ∧ tn.disk.cache = l.disk.cache ∧ tn.disk.left = x ∧ tn.frm = l.frm ∧ tn.til = l.til ∧ tn.ver = l.ver ∧ tn.recs = l.recs := by rw [htn]; exact ⟨rfl, rfl, rfl, rfl, rfl, rfl, rfl, rfl⟩
   have Htf := Lib.hid htf
   clear hd1 hd2 hcr hop k2 k3 k4 k5 hC hF hTt hWh htn htf bd1 bd2 bd3 bd4 bd5 hg f1 f2 f3 haf hkk hTc hl1
   go_wp2_with fail
   refine (H1.out _ (Below.refl _ _)).mono ?_
   rintro e w5 ⟨v5, rfl, hv5, hb5⟩
   have hv := hv5
   obtain ⟨p1, m1, q1, n1, r1, t1, rfl, -, -, -⟩ := hv5
   have hBo := Below.one w5 (.cells (lgC Wh.disk p1 q1 m1 n1 Wh.frm Wh.til Wh.ver r1 Wh.recs.length t1) 32)
   have xw := Bx.new w5 (lgC Wh.disk p1 q1 m1 n1 Wh.frm Wh.til Wh.ver r1 Wh.recs.length t1) 32
   have yl := (xl.belowAll hb5).belowAll hBo
   have ya := (xa.belowAll hb5).belowAll hBo
   have hVw := hv.below hBo
   have hVl := (hV.below hb5).below hBo
   have hB5 := btr hb5 hBo
   have hs5 := hb5.size
   clear hv hBo hb5 c0 l0 ca la H1 xl xa
   go_upto_region 10 with fail
   obtain ⟨bw, hbw⟩ : ∃ b, w5.heap.size = b := ⟨_, rfl⟩
   have hbw2 : b < bw := by have := hL0; omega
   obtain ⟨W6, hW6⟩ : ∃ W6, w5.alloc (.cells (lgC Wh.disk p1 q1 m1 n1 Wh.frm Wh.til Wh.ver r1 Wh.recs.length t1) 32) = W6 := ⟨_, rfl⟩
   simp only [hW6, hbw] at *
   clear hW6
   have c0 := yl.cell
   have l0 := yl.lt
   go_upto_region 11 with fail
   have hBo := Below.one W6 (.cells (lgC l.disk po co pc cc l.frm l.til l.ver ro l.recs.length rc) 32)
   have xt := Bx.new W6 (lgC l.disk po co pc cc l.frm l.til l.ver ro l.recs.length rc) 32
   have zl := yl.belowAll hBo
   have za := ya.belowAll hBo
   have zw := xw.belowAll hBo
   have hVw := hVw.below hBo
   have hVl := hVl.below hBo
   have hB6 := btr hB5 hBo
   have hlw := xw.lt
   obtain ⟨bt, hbt⟩ : ∃ b, W6.heap.size = b := ⟨_, rfl⟩
   have hbt2 : bw < bt := by omega
   obtain ⟨W7, hW7⟩ : ∃ W7, W6.alloc (.cells (lgC l.disk po co pc cc l.frm l.til l.ver ro l.recs.length rc) 32) = W7 := ⟨_, rfl⟩
   simp only [hW7, hbt] at *
   clear hW7 hBo c0 l0 yl ya xw hB5 hlw
   have ct := xt.cell
   have lt := xt.lt
   have ft' := xt.free
   obtain ⟨W8, hW8⟩ : ∃ W8, W7.setCell ⟨bt, 3, none⟩ (.int .i64 x) = W8 := ⟨_, rfl⟩
   have ho : Only bt W7 W8 := by subst hW8; exact Only.one
   have hnS := noS_lg l.disk.size l.disk.left l.frm l.til l.ver po co ro l.disk.pages.length l.disk.cache.length l.recs.length pc cc rc
   have yt : Bx W8 bt (lgC tn.disk po co pc cc tn.frm tn.til tn.ver ro tn.recs.length rc) 32 := by
    obtain ⟨e1, e2, e3, e4, e5, e6, e7, e8⟩ := Htf.out
    show Bx W8 bt #[.int .i64 tn.disk.size, .slice po tn.disk.pages.length pc, .slice co tn.disk.cache.length cc, .int .i64 tn.disk.left, .int .i64 tn.frm, .int .i64 tn.til, .int .i64 tn.ver, .slice ro tn.recs.length rc] _
    rw [e1, e2, e3, e4, e5, e6, e7, e8]
    subst hW8
    have := xt.set 3 (.int .i64 x)
    simpa using this
   have hVt : LgV W8 (.agg (lgC tn.disk po co pc cc tn.frm tn.til tn.ver ro tn.recs.length rc)) tn := by
    have := (hVl.left x (by omega)).only xt hnS ho
    rw [← Htn.out] at this
    obtain ⟨e1, e2, e3, e4, e5, e6, e7, e8⟩ := Htf.out
    show LgV W8 (.agg #[.int .i64 tn.disk.size, .slice po tn.disk.pages.length pc, .slice co tn.disk.cache.length cc, .int .i64 tn.disk.left, .int .i64 tn.frm, .int .i64 tn.til, .int .i64 tn.ver, .slice ro tn.recs.length rc]) tn
    rw [e1, e2, e3, e4, e5, e6, e7, e8]
    exact this
   have zl8 := zl.only ho (by omega)
   have za8 := za.only ho (by omega)
   have zw8 := zw.only ho (by omega)
   have hVw8 := hVw.only xt hnS ho
   have hVl8 := hVl.only xt hnS ho
   have hB8 : Below W0.heap.size W0 W8 := by subst hW8; exact below_set1 (b := bt) hB6 (by omega)
   clear hVw hVl zl za zw hB6 ho Htn
   have hp1 : IntKind.i64.wrap (left : Int) = (left : Int) := IntWalk.i64_in _ (by omega)
   have hmod : (left : Int).tmod 20 = x := by rw [Int.tmod_eq_emod_of_nonneg (by omega)]; exact hx
   go_upto_region 12 with fail
   have ct := yt.cell
   have lt := yt.lt
   have ca := za8.cell
   have la := za8.lt
   go_wp2_with fail
   refine (H2.out _ _ hB8 hVt).mono ?_
   rintro e w9 ⟨v9, rfl, hv9, hb9⟩
   have hv := hv9
   obtain ⟨p2, m2, q2, n2, r2, t2, rfl, -, -, -⟩ := hv9
   have zl9 := zl8.belowAll hb9
   have zw9 := zw8.belowAll hb9
   have zt9 := yt.belowAll hb9
   have hVw9 := hVw8.below hb9
   have hVl9 := hVl8.below hb9
   have hB9 := btr hB8 hb9
   clear ct lt ca la H2 zl8 za8 zw8 yt hVw8 hVl8 hB8 hVt hb9 ft' hW8
   have ct := zt9.cell
   have lt := zt9.lt
   have ft' := zt9.free
   obtain ⟨W10, hW10⟩ : ∃ Wf, st8 w9 bt (.int .i64 T.disk.size) (.slice p2 T.disk.pages.length m2) (.slice q2 T.disk.cache.length n2) (.int .i64 T.disk.left) (.int .i64 T.frm) (.int .i64 T.til) (.int .i64 T.ver) (.slice r2 T.recs.length t2) = Wf := ⟨_, rfl⟩
   have ho : Only bt w9 W10 := by subst hW10; exact Only.eight
   have hnS := noS_lg tn.disk.size tn.disk.left tn.frm tn.til tn.ver po co ro tn.disk.pages.length tn.disk.cache.length tn.recs.length pc cc rc
   have xt : Bx W10 bt (lgC T.disk p2 q2 m2 n2 T.frm T.til T.ver r2 T.recs.length t2) 32 := by subst hW10; exact zt9.set8
   have xl : Bx W10 b (lgC l.disk po co pc cc l.frm l.til l.ver ro l.recs.length rc) 32 := zl9.only ho (by omega)
   have xw := zw9.only ho (by omega)
   have hVt := hv.only zt9 hnS ho
   have hVw := hVw9.only zt9 hnS ho
   have hVl := hVl9.only zt9 hnS ho
   have hB10 : Below w.heap.size w W10 := by subst hW10; exact below_set8 (btr hB hB9) (by have := hB.size; omega)
   have hB10z : Below W0.heap.size W0 W10 := by subst hW10; exact below_set8 hB9 (by omega)
   clear zl9 zw9 hVw9 hVl9 hB9 ho hv hnS zt9
   unfold st8 at hW10
   go_upto_region 13 with fail
   clear ct lt ft' hW10
   have ct := xt.cell
   have lt := xt.lt
   have cl := xl.cell
   have ll := xl.lt
   have hDT : DskV W10 (.agg (dC T.disk p2 q2 m2 n2)) T.disk := by
    obtain ⟨_, _, _, _, _, _, e, hD, -, -⟩ := id hVt
    simp only [Value.agg.injEq, Array.mk.injEq, List.cons.injEq, Value.slice.injEq, and_true, true_and] at e
    obtain ⟨⟨rfl, rfl⟩, ⟨rfl, rfl⟩, rfl, rfl⟩ := e
    exact hD
   have HBw : Hid (∀ x : Lat W10, Below w.heap.size w x.w) := Lib.hid (fun x => btr hB10 x.h)
   have HB0 : Hid (∀ x : Lat W10, Below W0.heap.size W0 x.w) := Lib.hid (fun x => btr hB10z x.h)
   clear hB10z
   have HDw : Hid (∀ x : Lat W10, DskV x.w (.agg (dC T.disk p2 q2 m2 n2)) T.disk) := Lib.hid (fun x => hDT.below x.h)
   have cQ := Lat.cells W10
   clear hDT
   refine wp_region_late 13 11 2 #[true, true, true, true, true, true, true, true, true, true, true, false, true, false, false] #[true, true, true, true, true, true, true, true, true, true, true, true, true, false, false] (fun i => if i = 3 then some (annDv C) else if i = 8 then some (annLE F 0) else if i = 12 then some (annB lgZ 32) else none) _ (by kernel_rfl) rfl (by rfl) (by rfl) (by kernel_rfl) (by rfl) rfl (fun _ _ _ _ h => h) (extract_pure _ _ rfl) ?_
   simp only [List.take_succ_cons, List.take_zero]
   refine LW.block 3 3 (by rfl) (by kernel_rfl) (by kernel_rfl) ?_
   simp only [List.take_succ_cons, List.take_zero, List.drop_succ_cons, List.drop_zero]
   repeat (first | go_big_quiet_skip | (go_big_quiet_want; go_big_quiet_op; go_big_quiet_on))
   refine wpQuiet_nil ?_
   refine LW.lzy _ (by rfl) (by rfl) ?_ ?_
   ·
    intro yL _
    unfold lzAt
    go_simp
    exact lz_dv (Hcr.out _ _ (HB0.out yL) (HDw.out yL))
   intro r3
   simp only [Act.put, List.setIfInBounds_toArray, List.set_cons_zero, List.set_cons_succ, annDv]
   refine LW.block 4 8 (by rfl) (by kernel_rfl) (by kernel_rfl) ?_
   simp only [List.take_succ_cons, List.take_zero, List.drop_succ_cons, List.drop_zero]
   repeat (first | go_big_quiet_skip | (go_big_quiet_want; go_big_quiet_op; go_big_quiet_on))
   refine wpQuiet_nil ?_
   refine LW.lzy _ (by rfl) (by rfl) ?_ ?_
   ·
    intro yL hf
    have hd : DskV yL.w (r3.x 0) C := (hf 3 (by kernel_rfl)).get (j := 3) rfl rfl
    unfold lzAt
    go_simp
    exact lz_le (Hop.out _ _ hd)
   intro r8
   simp only [Act.put, List.setIfInBounds_toArray, List.set_cons_zero, List.set_cons_succ, annLE]
   refine LW.block 3 12 (by rfl) (by kernel_rfl) (by kernel_rfl) ?_
   simp only [List.take_succ_cons, List.take_zero, List.drop_succ_cons, List.drop_zero]
   repeat (first | go_big_quiet_skip | (go_big_quiet_want; go_big_quiet_op; go_big_quiet_on))
   refine wpQuiet_nil ?_
   refine LW.lzy _ (by rfl) (by rfl) ?_ ?_
   ·
    intro yL _
    unfold lzAt
    go_simp
    exact lz_box yL.w
   intro r12
   simp only [Act.put, List.setIfInBounds_toArray, List.set_cons_zero, List.set_cons_succ, annB]
   refine LW.done ?_
   intro w11 hG
   have hv11 : LgV w11 (r8.x 0) F := hG.get 8 rfl rfl
   obtain ⟨xb, -⟩ : Bx w11 r12.lo lgZ 32 ∧ r12.hi = r12.lo + 1 := hG.get 12 rfl rfl
   have hb11 := hG.below
   have hrange := hG.range 12 r12 rfl
   obtain ⟨b2, hb2e⟩ : ∃ b2, r12.lo = b2 := ⟨_, rfl⟩
   obtain ⟨v11, hv11e⟩ : ∃ v5, r8.x 0 = v5 := ⟨_, rfl⟩
   rw [hb2e] at hrange
   rw [hv11e] at hv11 ⊢
   rw [hb2e] at xb ⊢
   clear hG hv11e ct lt cl ll cQ Hcr Hop HDw HBw HB0
   have hv := hv11
   obtain ⟨fp, gp, fc, gc, fr, gr, rfl, -, -, -⟩ := hv11
   have hltt := xt.lt
   have zt := xt.belowAll hb11
   have zl := xl.belowAll hb11
   have zw := xw.belowAll hb11
   have hB11 := btr hB10 hb11
   have cb := xb.cell
   have lb := xb.lt
   have fb := xb.free
   obtain ⟨Wf, hWf⟩ : ∃ Wf, st8 w11 b2 (.int .i64 F.disk.size) (.slice fp F.disk.pages.length gp) (.slice fc F.disk.cache.length gc) (.int .i64 F.disk.left) (.int .i64 F.frm) (.int .i64 F.til) (.int .i64 F.ver) (.slice fr F.recs.length gr) = Wf := ⟨_, rfl⟩
   have ho : Only b2 w11 Wf := by subst hWf; exact Only.eight
   have hnS := noS_lg 0 0 0 0 0 none none none 0 0 0 0 0 0
   have hr1 := hrange.1
   have yo : Bx Wf b2 (lgC F.disk fp fc gp gc F.frm F.til F.ver fr F.recs.length gr) 32 := by subst hWf; exact xb.set8
   have yt := zt.only ho (by omega)
   have yl := zl.only ho (by omega)
   have yw := zw.only ho (by omega)
   have hBf : Below w.heap.size w Wf := by subst hWf; exact below_set8 hB11 (by have := hB10.size; omega)
   have hVo := hv.only xb (noS_lg _ _ _ _ _ _ _ _ _ _ _ _ _ _) ho
   have hVt := (hVt.below hb11).only xb (noS_lg _ _ _ _ _ _ _ _ _ _ _ _ _ _) ho
   have hVw := (hVw.below hb11).only xb (noS_lg _ _ _ _ _ _ _ _ _ _ _ _ _ _) ho
   have hVl := (hVl.below hb11).only xb (noS_lg _ _ _ _ _ _ _ _ _ _ _ _ _ _) ho
   clear ho hv zt zl zw hB11 hrange hb11 hB10 xt xl xw hltt hnS hr1
   unfold st8 at hWf
   refine wpAny_ready (rs := [13]) (by kernel_rfl) (by simp) ?_
   refine AllReady.cons rfl (fun K hK => ?_) AllReady.nil
   go_simp
   refine hK _ _ ?_
   clear hK K
   refine wpAny_ready (rs := [14]) (by kernel_rfl) (by simp) ?_
   refine AllReady.cons rfl (fun K hK => ?_) AllReady.nil
   go_simp
   refine hK _ _ ?_
   clear hK K
   refine wpAny_done (by kernel_rfl) ?_ _
   clear cb lb fb hWf xb
   have sO := lg_strs hVo
   have sT := lg_strs hVt
   have sW := lg_strs hVw
   have sL := lg_strs hVl
   clear hVo hVt hVw hVl
   have hqOL := fun W (hb : Below Wf.heap.size Wf W) => sl_equal F.recs l.recs fr ro gr rc W (sO.2.below hb) (sL.2.below hb) (slw_len sO.1) (slw_len sL.1)
   have hqTL := fun W (hb : Below Wf.heap.size Wf W) => sl_equal T.recs l.recs r2 ro t2 rc W (sT.2.below hb) (sL.2.below hb) (slw_len sT.1) (slw_len sL.1)
   have hqOW := fun W (hb : Below Wf.heap.size Wf W) => sl_equal F.recs Wh.recs fr r1 gr t1 W (sO.2.below hb) (sW.2.below hb) (slw_len sO.1) (slw_len sW.1)
   have Ha : Hid (∀ W, Below Wf.heap.size Wf W → Calls Tryd.prog 9 #[] W fun e w' => e = .returned (.bool true) ∧ Below W.heap.size W w') := Lib.hid fun W hb => law41_awake W (hT.below (btr hBf hb))
   have Q1 := Lib.hid hqOL
   have Q2 := Lib.hid hqTL
   have Q3 := Lib.hid hqOW
   clear sO sT sW sL hqOL hqTL hqOW
   by_cases h18 : ft = 18
   ·
    have hew := K3.out h18
    subst h18
    subst hew
    cases gq : decide (F.recs = l.recs)
    ·
     have hne := of_decide_eq_false gq
     have hk5 := K5.out (fun h => hne h.2)
     rw [gq] at Q1
     have Q3' : Hid (∀ W, Below Wf.heap.size Wf W → Calls Tryd.prog 14 #[.slice fr F.recs.length gr, .slice r1 Wh.recs.length t1] W fun e w' => e = .returned (.bool true) ∧ Below W.heap.size W w') := Lib.hid fun W hb => by
      have := Q3.out W hb
      rw [show decide (F.recs = Wh.recs) = true by simp [hk5]] at this
      exact this
     clear hk5 hne gq K2 K3 K4 K5 Q3
     have uo := yo
     have ut := yt
     have ul := yl
     have uw := yw
     have co := uo.cell
     have lo := uo.lt
     have ct := ut.cell
     have lt := ut.lt
     have cl := ul.cell
     have ll := ul.lt
     have cw := uw.cell
     have lw := uw.lt
     go_wp2_with fail
     refine (Q1.out _ (Below.refl _ _)).mono ?_
     rintro e wC ⟨rfl, hbC⟩
     clear uo ut ul uw co ct cl cw lo lt ll lw
     have uo := yo.belowAll hbC
     have ut := yt.belowAll hbC
     have ul := yl.belowAll hbC
     have uw := yw.belowAll hbC
     have co := uo.cell
     have lo := uo.lt
     have ct := ut.cell
     have lt := ut.lt
     have cl := ul.cell
     have ll := ul.lt
     have cw := uw.cell
     have lw := uw.lt
     go_wp2_with fail
     refine (Q3'.out _ hbC).mono ?_
     rintro e wE ⟨rfl, hbE'⟩
     have hbE := btr hbC hbE'
     clear co cw ct cl lo lw lt ll
     go_wp2_with fail
     refine (Ha.out _ hbE).mono ?_
     rintro e wY ⟨rfl, hbY⟩
     go_wp2
     go_ret
     exact ⟨rfl, btr (btr hBf hbE) hbY⟩
    ·
     have heq := of_decide_eq_true gq
     have hk4 := K4.out ⟨rfl, heq⟩
     rw [gq] at Q1
     have Q2' : Hid (∀ W, Below Wf.heap.size Wf W → Calls Tryd.prog 14 #[.slice r2 T.recs.length t2, .slice ro l.recs.length rc] W fun e w' => e = .returned (.bool true) ∧ Below W.heap.size W w') := Lib.hid fun W hb => by
      have := Q2.out W hb
      rw [show decide (T.recs = l.recs) = true by simp [hk4]] at this
      exact this
     clear hk4 heq gq K2 K3 K4 K5 Q2
     have uo := yo
     have ut := yt
     have ul := yl
     have uw := yw
     have co := uo.cell
     have lo := uo.lt
     have ct := ut.cell
     have lt := ut.lt
     have cl := ul.cell
     have ll := ul.lt
     have cw := uw.cell
     have lw := uw.lt
     go_wp2_with fail
     refine (Q1.out _ (Below.refl _ _)).mono ?_
     rintro e wC ⟨rfl, hbC⟩
     clear uo ut ul uw co ct cl cw lo lt ll lw
     have uo := yo.belowAll hbC
     have ut := yt.belowAll hbC
     have ul := yl.belowAll hbC
     have uw := yw.belowAll hbC
     have co := uo.cell
     have lo := uo.lt
     have ct := ut.cell
     have lt := ut.lt
     have cl := ul.cell
     have ll := ul.lt
     have cw := uw.cell
     have lw := uw.lt
     go_wp2_with fail
     refine (Q2'.out _ hbC).mono ?_
     rintro e wE ⟨rfl, hbE'⟩
     have hbE := btr hbC hbE'
     clear co cw ct cl lo lw lt ll
     go_wp2_with fail
     refine (Ha.out _ hbE).mono ?_
     rintro e wY ⟨rfl, hbY⟩
     go_wp2
     go_ret
     exact ⟨rfl, btr (btr hBf hbE) hbY⟩
   ·
    have hew : ew = ft := by
     rcases K2.out with h | h
     ·
      exact absurd h h18
     ·
      exact h.symm
    subst hew
    have hk5 := K5.out (fun h => h18 h.1)
    have Q3' : Hid (∀ W, Below Wf.heap.size Wf W → Calls Tryd.prog 14 #[.slice fr F.recs.length gr, .slice r1 Wh.recs.length t1] W fun e w' => e = .returned (.bool true) ∧ Below W.heap.size W w') := Lib.hid fun W hb => by
     have := Q3.out W hb
     rw [show decide (F.recs = Wh.recs) = true by simp [hk5]] at this
     exact this
    have n1 : (ew != 18) = true := by simpa using h18
    have n2 : (ew == 18) = false := by simpa using h18
    have n3 : (ew != ew) = false := by simp
    clear hk5 K2 K3 K4 K5 Q3 h18
    have uo := yo
    have ut := yt
    have ul := yl
    have uw := yw
    have co := uo.cell
    have lo := uo.lt
    have ct := ut.cell
    have lt := ut.lt
    have cl := ul.cell
    have ll := ul.lt
    have cw := uw.cell
    have lw := uw.lt
    go_wp2_with fail
    refine (Q3'.out _ (Below.refl _ _)).mono ?_
    rintro e wE ⟨rfl, hbE⟩
    clear co cw ct cl lo lw lt ll
    go_wp2_with fail
    refine (Ha.out _ hbE).mono ?_
    rintro e wY ⟨rfl, hbY⟩
    go_wp2
    go_ret
    exact ⟨rfl, btr (btr hBf hbE) hbY⟩
end Go.Proofs.YtghikgjknhjjgaaDoor
