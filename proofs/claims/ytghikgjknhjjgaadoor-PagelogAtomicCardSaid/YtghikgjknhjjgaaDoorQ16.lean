/- law41.Do and same: an act done with a log. law41.begin: the log at the beginning of a run. law PagelogLog: the walk. The sizes of the logs of a run. -/
import Derived.Test.YtghikgjknhjjgaaDoorQ15
import Derived.Test.YtghikgjknhjjgaaDoorQ14
import Derived.Test.YtghikgjknhjjgaaDoorQ12
namespace Go.Proofs.YtghikgjknhjjgaaDoor
set_option maxRecDepth 100000
open Go.RowKit
/-- the log after an act and the error, before the error is looked at -/
def actL (l : Lg) (a : ActA) : Lg × Int :=
 if a.kind = 0 then apL l a.recs
 else if a.kind = 1 then cutL l ((a.n : Int) % ((l.recs.length : Int) + 1))
 else if a.kind = 2 then (if l.disk.left = -1 then ({ l with disk := { l.disk with left := (a.n : Int) % 12 } }, 0) else (l, 0))
 else if a.kind = 3 then openL (crashD l.disk a.picks) l.frm l.til
 else (l, 0)
def doL (l : Lg) (a : ActA) : Lg × Int := if (actL l a).2 ≠ 0 ∧ (actL l a).2 ≠ 18 then (l, (actL l a).2) else actL l a
/-- the log box, the act's, the result's and the next log's -/
structure DoS (w : World) (N : Nat) (l F : Lg) (po co ro fp fc fr : Option Addr) (pc cc rc gp gc gr : Nat) (a : ActA) (qo ko : Option Addr) (qc kc : Nat) (W : World) : Prop where
 box : Bx W N (lgC l.disk po co pc cc l.frm l.til l.ver ro l.recs.length rc) 32
 act : Bx W (N + 1) (actC a qo ko qc kc) 38
 res : Bx W (N + 1 + 1) lgZ 32
 nxt : Bx W (N + 3) (lgC F.disk fp fc gp gc F.frm F.til F.ver fr F.recs.length gr) 32
 below : Below w.heap.size w W
 val : LgV W (.agg (lgC l.disk po co pc cc l.frm l.til l.ver ro l.recs.length rc)) l
 new : LgV W (.agg (lgC F.disk fp fc gp gc F.frm F.til F.ver fr F.recs.length gr)) F
theorem DoS.next {w : World} {N : Nat} {l F : Lg} {po co ro fp fc fr : Option Addr} {pc cc rc gp gc gr : Nat} {a : ActA} {qo ko : Option Addr} {qc kc : Nat} {W W' : World} (h : DoS w N l F po co ro fp fc fr pc cc rc gp gc gr a qo ko qc kc W) (hb : Below W.heap.size W W') :
  DoS w N l F po co ro fp fc fr pc cc rc gp gc gr a qo ko qc kc W' :=
 ⟨h.box.belowAll hb, h.act.belowAll hb, h.res.belowAll hb, h.nxt.belowAll hb, btr h.below hb, h.val.below hb, h.new.below hb⟩
/-- the next log is stored -/
theorem DoS.put {w : World} {N : Nat} {l F G : Lg} {po co ro fp fc fr fp' fc' fr' : Option Addr} {pc cc rc gp gc gr gp' gc' gr' : Nat} {a : ActA} {qo ko : Option Addr} {qc kc : Nat} {W Wf : World} (h : DoS w N l F po co ro fp fc fr pc cc rc gp gc gr a qo ko qc kc W)
  (hN : w.heap.size = N) (hG : LgV W (.agg (lgC G.disk fp' fc' gp' gc' G.frm G.til G.ver fr' G.recs.length gr')) G)
  (hWf : st8 W (N + 3) (.int .i64 G.disk.size) (.slice fp' G.disk.pages.length gp') (.slice fc' G.disk.cache.length gc') (.int .i64 G.disk.left) (.int .i64 G.frm) (.int .i64 G.til) (.int .i64 G.ver) (.slice fr' G.recs.length gr') = Wf) :
  DoS w N l G po co ro fp' fc' fr' pc cc rc gp' gc' gr' a qo ko qc kc Wf := by
 have ho : Only (N + 3) W Wf := by subst hWf; exact Only.eight
 have hn := noS_lg F.disk.size F.disk.left F.frm F.til F.ver fp fc fr F.disk.pages.length F.disk.cache.length F.recs.length gp gc gr
 refine ⟨h.box.only ho (by omega), h.act.only ho (by omega), h.res.only ho (by omega), by subst hWf; exact h.nxt.set8, by subst hWf; exact below_set8 h.below (by omega), h.val.only h.nxt hn ho, hG.only h.nxt hn ho⟩
def annDv (d : Dsk) : Ann := ⟨fun r => r.x 0, fun r W => DskV W (r.x 0) d⟩
theorem lz_dv {f : FuncId} {args : Array Value} {d : Dsk} {W : World} (h : Calls Tryd.prog f args W fun e w' => ∃ v, e = .returned v ∧ DskV w' v d ∧ Below W.heap.size W w') : Calls Tryd.prog f args W fun e w' => ∃ u, e = .returned u ∧ lzPost (annDv d) W u w' :=
 h.mono fun _ _ ⟨v, he, ho, hb⟩ => ⟨_, he, hb, fun _ => v, rfl, fun _ hb' => ho.below hb'⟩
theorem LgV.left {w : World} {l : Lg} {po co ro : Option Addr} {pc cc rc : Nat} (h : LgV w (.agg (lgC l.disk po co pc cc l.frm l.til l.ver ro l.recs.length rc)) l) (x : Int) (hx : -9223372036854775808 ≤ x ∧ x ≤ 9223372036854775807) :
  LgV w (.agg (lgC { l.disk with left := x } po co pc cc l.frm l.til l.ver ro l.recs.length rc)) { l with disk := { l.disk with left := x } } := by
 obtain ⟨po', pc', co', cc', ro', rc', e, hD, h2, h3⟩ := h
 simp only [Value.agg.injEq, Array.mk.injEq, List.cons.injEq, Value.slice.injEq, and_true, true_and] at e
 obtain ⟨⟨rfl, rfl⟩, ⟨rfl, rfl⟩, rfl, rfl⟩ := e
 refine ⟨po, pc, co, cc, ro, rc, rfl, ?_, h2, h3⟩
 obtain ⟨po', pc', co', cc', e, hp, hq, ok⟩ := hD
 simp only [Value.agg.injEq, Array.mk.injEq, List.cons.injEq, Value.slice.injEq, and_true, true_and] at e
 obtain ⟨⟨rfl, rfl⟩, rfl, rfl⟩ := e
 exact ⟨po, pc, co, cc, rfl, hp, hq, ⟨ok.slp, ok.slc, ok.pages, ok.cache, ok.strs, ok.datas, hx⟩⟩
theorem DoS.left {w : World} {N : Nat} {l : Lg} {po co ro : Option Addr} {pc cc rc : Nat} {a : ActA} {qo ko : Option Addr} {qc kc : Nat} {W Wf : World} (h : DoS w N l l po co ro po co ro pc cc rc pc cc rc a qo ko qc kc W)
  (hN : w.heap.size = N) (x : Int) (hx : -9223372036854775808 ≤ x ∧ x ≤ 9223372036854775807) (hWf : W.setCell ⟨N + 3, 3, none⟩ (.int .i64 x) = Wf) :
  DoS w N l { l with disk := { l.disk with left := x } } po co ro po co ro pc cc rc pc cc rc a qo ko qc kc Wf := by
 have ho : Only (N + 3) W Wf := by subst hWf; exact Only.one
 have hn := noS_lg l.disk.size l.disk.left l.frm l.til l.ver po co ro l.disk.pages.length l.disk.cache.length l.recs.length pc cc rc
 refine ⟨h.box.only ho (by omega), h.act.only ho (by omega), h.res.only ho (by omega), ?_, by subst hWf; exact below_set1 (b := N + 3) h.below (by omega), h.val.only h.nxt hn ho, (h.new.left x hx).only h.nxt hn ho⟩
 subst hWf
 have := h.nxt.set 3 (.int .i64 x)
 simpa using this
set_option maxHeartbeats 800000 in
theorem rn_Do (l : Lg) (v : Value) (a : ActA) (qo ko : Option Addr) (qc kc : Nat) (w : World) (hL : LgV w v l) (hA : ActOk w a qo ko qc kc) (hrl : a.recs.length ≤ 1000) (hrz : sizeL a.recs ≤ 50000) (hkl : a.picks.length ≤ 1000000) (hT : TabW w) (hc : l.disk.cache.length ≤ 900000) (hln : l.recs.length ≤ 1000000) :
  Calls Tryd.prog 11 #[v, .agg (actC a qo ko qc kc)] w (RetLE w (doL l a).1 (doL l a).2) := by
 obtain ⟨R, hR⟩ : ∃ R, doL l a = R := ⟨_, rfl⟩
 rw [hR]
 have hL0 := hL
 obtain ⟨po, pc, co, cc, ro, rc, rfl, hD, hsl, hst⟩ := hL
 obtain ⟨N, hN⟩ : ∃ N, w.heap.size = N := ⟨_, rfl⟩
 obtain ⟨W3, hW3⟩ : ∃ W3, ((w.alloc (.cells (lgC l.disk po co pc cc l.frm l.til l.ver ro l.recs.length rc) 32)).alloc (.cells (actC a qo ko qc kc) 38)).alloc (.cells lgZ 32) = W3 := ⟨_, rfl⟩
 have x0 : Bx W3 N (lgC l.disk po co pc cc l.frm l.til l.ver ro l.recs.length rc) 32 := by subst hW3 hN; exact ((Bx.new w _ _).alloc _).alloc _
 have x1 : Bx W3 (N + 1) (actC a qo ko qc kc) 38 := by subst hW3 hN; exact (Bx.newAt _ _ _ _ (by simp)).alloc _
 have x2 : Bx W3 (N + 1 + 1) lgZ 32 := by subst hW3 hN; exact Bx.newAt _ _ _ _ (by simp)
 have hs3 : W3.heap.size = N + 3 := by subst hW3 hN; simp
 have hB3 : Below w.heap.size w W3 := by subst hW3; exact ((Below.one w _).alloc (by simp) _).alloc (by simp; omega) _
 have c0 := x0.cell
 have l0 := x0.lt
 go_enter Tryd.func11, Tryd.ntmps11
 go_upto_region 2 with fail
 have hBB := Below.one W3 (.cells (lgC l.disk po co pc cc l.frm l.til l.ver ro l.recs.length rc) 32)
 have s4 : DoS w N l l po co ro po co ro pc cc rc pc cc rc a qo ko qc kc (W3.alloc (.cells (lgC l.disk po co pc cc l.frm l.til l.ver ro l.recs.length rc) 32)) := by
  have hB4 := btr hB3 hBB
  exact ⟨x0.alloc _, x1.alloc _, x2.alloc _, Bx.newAt _ _ _ _ hs3.symm, hB4, hL0.below hB4, hL0.below hB4⟩
 clear c0 l0 x0 x1 x2
 generalize W3.alloc (.cells (lgC l.disk po co pc cc l.frm l.til l.ver ro l.recs.length rc) 32) = W4 at *
 have c1 := s4.act.cell
 have l1 := s4.act.lt
 have c0 := s4.box.cell
 have l0 := s4.box.lt
 cases k0 : (a.kind == 0)
 ·
  have nk0 : a.kind ≠ 0 := by simpa using k0
  cases k1 : (a.kind == 1)
  ·
   have nk1 : a.kind ≠ 1 := by simpa using k1
   cases k2 : (a.kind == 2)
   ·
    have nk2 : a.kind ≠ 2 := by simpa using k2
    cases k3 : (a.kind == 3)
    ·
     have nk3 : a.kind ≠ 3 := by simpa using k3
     obtain ⟨F, fp, fc, fr, gp, gc, gr, h1, h2, h3, h4, h5, h6, h7⟩ : ∃ F fp fc fr gp gc gr, F = l ∧ fp = po ∧ fc = co ∧ fr = ro ∧ gp = pc ∧ gc = cc ∧ gr = rc := ⟨_, _, _, _, _, _, _, rfl, rfl, rfl, rfl, rfl, rfl, rfl⟩
     have hR0 : actL l a = (F, 0) := by rw [h1]; unfold actL; rw [if_neg nk0, if_neg nk1, if_neg nk2, if_neg nk3]
     have s6 : DoS w N l F po co ro fp fc fr pc cc rc gp gc gr a qo ko qc kc W4 := by rw [h1, h2, h3, h4, h5, h6, h7]; exact s4
     clear h1 h2 h3 h4 h5 h6 h7
     clear s4
     clear c0 l0
     go_upto_region 12 with fail
     generalize W4 = W6 at *
     clear c1 l1
     have z0 := s6.box
     have z2 := s6.res
     have z3 := s6.nxt
     have c0 := z0.cell
     have l0 := z0.lt
     have c2 := z2.cell
     have l2 := z2.lt
     have f2 := z2.free
     have c3 := z3.cell
     have l3 := z3.lt
     obtain ⟨G, hGF⟩ : ∃ G, G = F := ⟨_, rfl⟩
     have hRf : R = (G, 0) := by rw [← hR, hGF]; unfold doL; rw [hR0, if_neg (fun h => h.1 rfl)]
     have hG := s6.new
     obtain ⟨Wf, hWf⟩ : ∃ Wf, st8 W6 (N + 1 + 1) (.int .i64 F.disk.size) (.slice fp F.disk.pages.length gp) (.slice fc F.disk.cache.length gc) (.int .i64 F.disk.left) (.int .i64 F.frm) (.int .i64 F.til) (.int .i64 F.ver) (.slice fr F.recs.length gr) = Wf := ⟨_, rfl⟩
     rw [← hGF] at hG hWf c3
     obtain ⟨g1, g2, g3, n1, n2, n3, hg1, hg2, hg3, hn1, hn2, hn3⟩ : ∃ g1 g2 g3 n1 n2 n3, g1 = fp ∧ g2 = fc ∧ g3 = fr ∧ n1 = gp ∧ n2 = gc ∧ n3 = gr := ⟨_, _, _, _, _, _, rfl, rfl, rfl, rfl, rfl, rfl⟩
     rw [← hg1, ← hg2, ← hg3, ← hn1, ← hn2, ← hn3] at hG hWf c3
     clear hg1 hg2 hg3 hn1 hn2 hn3 hGF
     have zR : Bx Wf (N + 1 + 1) (lgC G.disk g1 g2 n1 n2 G.frm G.til G.ver g3 G.recs.length n3) 32 := by subst hWf; exact z2.set8
     have zB : Below w.heap.size w Wf := by subst hWf; exact below_set8 s6.below (by omega)
     have zL : LgV Wf (.agg (lgC G.disk g1 g2 n1 n2 G.frm G.til G.ver g3 G.recs.length n3)) G := by subst hWf; exact hG.only z2 (noS_lg _ _ _ _ _ _ _ _ _ _ _ _ _ _) Only.eight
     have HWf := Lib.hid hWf
     have HB := Lib.hid zB
     have HL := Lib.hid zL
     have HRf := Lib.hid hRf
     clear hWf zB zL hRf hG
     go_wp2
     have HW := HWf.out
     unfold st8 at HW
     rw [HW]
     have cZ := zR.cell
     refine bodyPost_ret (v := .tuple #[.agg (lgC G.disk g1 g2 n1 n2 G.frm G.til G.ver g3 G.recs.length n3), .int .i64 0]) (by simp [results, Tryd.results11, go_sem, cZ]) rfl ?_
     rw [HRf.out]
     exact ⟨_, rfl, HL.out, HB.out⟩
    ·
     have hk3 : a.kind = 3 := by simpa using k3
     have hR0 : actL l a = openL (crashD l.disk a.picks) l.frm l.til := by unfold actL; rw [if_neg nk0, if_neg nk1, if_neg nk2, if_pos hk3]
     obtain ⟨C, hC⟩ : ∃ C, crashD l.disk a.picks = C := ⟨_, rfl⟩
     obtain ⟨F, er, hF⟩ : ∃ F er, openL C l.frm l.til = (F, er) := ⟨_, _, rfl⟩
     have hcr := fun W (hb : Below w.heap.size w W) => v_crash l.disk _ a.picks ko kc W (hD.below hb) ((hA.below hb).picks) hkl (by omega) hC
     have hop := fun v W (hv : DskV W v C) => pl_Open C v l.frm l.til W hv
     rw [hC, hF] at hR0
     rw [hF] at hop
     have Hcr := Lib.hid hcr
     have Hop := Lib.hid hop
     have HBw : Hid (∀ x : Lat W4, Below w.heap.size w x.w) := Lib.hid (fun x => btr s4.below x.h)
     clear hcr hop hF hC
     have cQ := Lat.cells W4
     go_upto_region 11 with fail
     refine wp_region_late 13 12 2 #[true, true, true, true, true, true, true, true, true, true, true, true, false, false, false] #[true, true, true, true, true, true, true, true, true, true, true, true, true, false, false] (fun i => if i = 4 then some (annDv C) else if i = 9 then some (annLE F er) else none) _ (by kernel_rfl) rfl (by rfl) (by rfl) (by kernel_rfl) (by rfl) rfl (fun _ _ _ _ h => h) (extract_pure _ _ rfl) ?_
     simp only [List.take_succ_cons, List.take_zero]
     refine LW.block 4 4 (by rfl) (by kernel_rfl) (by kernel_rfl) ?_
     simp only [List.take_succ_cons, List.take_zero, List.drop_succ_cons, List.drop_zero]
     repeat (first | go_big_quiet_skip | (go_big_quiet_want; go_big_quiet_op; go_big_quiet_on))
     refine wpQuiet_nil ?_
     refine LW.lzy _ (by rfl) (by rfl) ?_ ?_
     ·
      intro yL _
      unfold lzAt
      go_simp
      exact lz_dv (Hcr.out _ (HBw.out _))
     intro r4
     simp only [Act.put, List.setIfInBounds_toArray, List.set_cons_zero, List.set_cons_succ, annDv]
     refine LW.block 4 9 (by rfl) (by kernel_rfl) (by kernel_rfl) ?_
     simp only [List.take_succ_cons, List.take_zero, List.drop_succ_cons, List.drop_zero]
     repeat (first | go_big_quiet_skip | (go_big_quiet_want; go_big_quiet_op; go_big_quiet_on))
     refine wpQuiet_nil ?_
     refine LW.lzy _ (by rfl) (by rfl) ?_ ?_
     ·
      intro yL hf
      have hd : DskV yL.w (r4.x 0) C := (hf 4 (by kernel_rfl)).get (j := 4) rfl rfl
      unfold lzAt
      go_simp
      exact lz_le (Hop.out _ _ hd)
     intro r9
     simp only [Act.put, List.setIfInBounds_toArray, List.set_cons_zero, List.set_cons_succ, annLE]
     refine LW.block 3 13 (by rfl) (by kernel_rfl) (by kernel_rfl) ?_
     simp only [List.take_succ_cons, List.take_zero, List.drop_succ_cons, List.drop_zero]
     repeat (first | go_big_quiet_skip | (go_big_quiet_want; go_big_quiet_op; go_big_quiet_on))
     refine wpQuiet_nil ?_
     refine LW.done ?_
     intro w5 hG
     have hv5 : LgV w5 (r9.x 0) F := hG.get 9 rfl rfl
     have hb5 := hG.below
     obtain ⟨v5, hv5e⟩ : ∃ v5, r9.x 0 = v5 := ⟨_, rfl⟩
     rw [hv5e] at hv5 ⊢
     clear hG hv5e c0 l0 c1 l1 cQ
     have s5 := s4.next hb5
     have hv6 := hv5
     obtain ⟨fp, gp, fc, gc, fr, gr, rfl, -, -, -⟩ := hv5
     obtain ⟨W6, hW6⟩ : ∃ W6, st8 w5 (N + 3) (.int .i64 F.disk.size) (.slice fp F.disk.pages.length gp) (.slice fc F.disk.cache.length gc) (.int .i64 F.disk.left) (.int .i64 F.frm) (.int .i64 F.til) (.int .i64 F.ver) (.slice fr F.recs.length gr) = W6 := ⟨_, rfl⟩
     have s6 := s5.put hN hv6 hW6
     have q3 := s5.nxt.cell
     have m3 := s5.nxt.lt
     have r3 := s5.nxt.free
     unfold st8 at hW6
     refine wpAny_ready (rs := [13]) (by kernel_rfl) (by simp) ?_
     refine AllReady.cons rfl (fun K hK => ?_) AllReady.nil
     go_simp
     refine hK _ _ ?_
     clear hK K
     refine wpAny_ready (rs := [14]) (by kernel_rfl) (by simp) ?_
     refine AllReady.cons rfl (fun K hK => ?_) AllReady.nil
     go_simp
     refine hK _ _ ?_
     clear hK K
     refine wpAny_done (by kernel_rfl) ?_ _
     clear s4 s5 hb5 hv6
     go_upto_region 12 with fail
     clear hW6 q3 m3 r3
     have z0 := s6.box
     have z2 := s6.res
     have z3 := s6.nxt
     have c0 := z0.cell
     have l0 := z0.lt
     have c2 := z2.cell
     have l2 := z2.lt
     have f2 := z2.free
     have c3 := z3.cell
     have l3 := z3.lt
     cases e1 : (er != 0)
     ·
      have he1 : er = 0 := by simpa using e1
      obtain ⟨G, hGF⟩ : ∃ G, G = F := ⟨_, rfl⟩
      have hRf : R = (G, er) := by rw [← hR, hGF]; unfold doL; rw [hR0, if_neg (fun h => h.1 he1)]
      clear he1
      have hG := s6.new
      obtain ⟨Wf, hWf⟩ : ∃ Wf, st8 W6 (N + 1 + 1) (.int .i64 F.disk.size) (.slice fp F.disk.pages.length gp) (.slice fc F.disk.cache.length gc) (.int .i64 F.disk.left) (.int .i64 F.frm) (.int .i64 F.til) (.int .i64 F.ver) (.slice fr F.recs.length gr) = Wf := ⟨_, rfl⟩
      rw [← hGF] at hG hWf c3
      obtain ⟨g1, g2, g3, n1, n2, n3, hg1, hg2, hg3, hn1, hn2, hn3⟩ : ∃ g1 g2 g3 n1 n2 n3, g1 = fp ∧ g2 = fc ∧ g3 = fr ∧ n1 = gp ∧ n2 = gc ∧ n3 = gr := ⟨_, _, _, _, _, _, rfl, rfl, rfl, rfl, rfl, rfl⟩
      rw [← hg1, ← hg2, ← hg3, ← hn1, ← hn2, ← hn3] at hG hWf c3
      clear hg1 hg2 hg3 hn1 hn2 hn3 hGF
      have zR : Bx Wf (N + 1 + 1) (lgC G.disk g1 g2 n1 n2 G.frm G.til G.ver g3 G.recs.length n3) 32 := by subst hWf; exact z2.set8
      have zB : Below w.heap.size w Wf := by subst hWf; exact below_set8 s6.below (by omega)
      have zL : LgV Wf (.agg (lgC G.disk g1 g2 n1 n2 G.frm G.til G.ver g3 G.recs.length n3)) G := by subst hWf; exact hG.only z2 (noS_lg _ _ _ _ _ _ _ _ _ _ _ _ _ _) Only.eight
      have HWf := Lib.hid hWf
      have HB := Lib.hid zB
      have HL := Lib.hid zL
      have HRf := Lib.hid hRf
      clear hWf zB zL hRf hG
      go_wp2
      have HW := HWf.out
      unfold st8 at HW
      rw [HW]
      have cZ := zR.cell
      refine bodyPost_ret (v := .tuple #[.agg (lgC G.disk g1 g2 n1 n2 G.frm G.til G.ver g3 G.recs.length n3), .int .i64 er]) (by simp [results, Tryd.results11, go_sem, cZ]) rfl ?_
      rw [HRf.out]
      exact ⟨_, rfl, HL.out, HB.out⟩
     ·
      have he1 : er ≠ 0 := by simpa using e1
      cases e2 : (er != 18)
      ·
       have he2 : er = 18 := by simpa using e2
       obtain ⟨G, hGF⟩ : ∃ G, G = F := ⟨_, rfl⟩
       have hRf : R = (G, er) := by rw [← hR, hGF]; unfold doL; rw [hR0, if_neg (fun h => h.2 he2)]
       clear he1 he2
       have hG := s6.new
       obtain ⟨Wf, hWf⟩ : ∃ Wf, st8 W6 (N + 1 + 1) (.int .i64 F.disk.size) (.slice fp F.disk.pages.length gp) (.slice fc F.disk.cache.length gc) (.int .i64 F.disk.left) (.int .i64 F.frm) (.int .i64 F.til) (.int .i64 F.ver) (.slice fr F.recs.length gr) = Wf := ⟨_, rfl⟩
       rw [← hGF] at hG hWf c3
       obtain ⟨g1, g2, g3, n1, n2, n3, hg1, hg2, hg3, hn1, hn2, hn3⟩ : ∃ g1 g2 g3 n1 n2 n3, g1 = fp ∧ g2 = fc ∧ g3 = fr ∧ n1 = gp ∧ n2 = gc ∧ n3 = gr := ⟨_, _, _, _, _, _, rfl, rfl, rfl, rfl, rfl, rfl⟩
       rw [← hg1, ← hg2, ← hg3, ← hn1, ← hn2, ← hn3] at hG hWf c3
       clear hg1 hg2 hg3 hn1 hn2 hn3 hGF
       have zR : Bx Wf (N + 1 + 1) (lgC G.disk g1 g2 n1 n2 G.frm G.til G.ver g3 G.recs.length n3) 32 := by subst hWf; exact z2.set8
       have zB : Below w.heap.size w Wf := by subst hWf; exact below_set8 s6.below (by omega)
       have zL : LgV Wf (.agg (lgC G.disk g1 g2 n1 n2 G.frm G.til G.ver g3 G.recs.length n3)) G := by subst hWf; exact hG.only z2 (noS_lg _ _ _ _ _ _ _ _ _ _ _ _ _ _) Only.eight
       have HWf := Lib.hid hWf
       have HB := Lib.hid zB
       have HL := Lib.hid zL
       have HRf := Lib.hid hRf
       clear hWf zB zL hRf hG
       go_wp2
       have HW := HWf.out
       unfold st8 at HW
       rw [HW]
       have cZ := zR.cell
       refine bodyPost_ret (v := .tuple #[.agg (lgC G.disk g1 g2 n1 n2 G.frm G.til G.ver g3 G.recs.length n3), .int .i64 er]) (by simp [results, Tryd.results11, go_sem, cZ]) rfl ?_
       rw [HRf.out]
       exact ⟨_, rfl, HL.out, HB.out⟩
      ·
       have he2 : er ≠ 18 := by simpa using e2
       obtain ⟨G, hGF⟩ : ∃ G, G = l := ⟨_, rfl⟩
       have hRf : R = (G, er) := by rw [← hR, hGF]; unfold doL; rw [hR0, if_pos ⟨he1, he2⟩]
       clear he1 he2
       have hG := s6.val
       obtain ⟨Wf, hWf⟩ : ∃ Wf, st8 W6 (N + 1 + 1) (.int .i64 l.disk.size) (.slice po l.disk.pages.length pc) (.slice co l.disk.cache.length cc) (.int .i64 l.disk.left) (.int .i64 l.frm) (.int .i64 l.til) (.int .i64 l.ver) (.slice ro l.recs.length rc) = Wf := ⟨_, rfl⟩
       rw [← hGF] at hG hWf c0
       obtain ⟨g1, g2, g3, n1, n2, n3, hg1, hg2, hg3, hn1, hn2, hn3⟩ : ∃ g1 g2 g3 n1 n2 n3, g1 = po ∧ g2 = co ∧ g3 = ro ∧ n1 = pc ∧ n2 = cc ∧ n3 = rc := ⟨_, _, _, _, _, _, rfl, rfl, rfl, rfl, rfl, rfl⟩
       rw [← hg1, ← hg2, ← hg3, ← hn1, ← hn2, ← hn3] at hG hWf c0
       clear hg1 hg2 hg3 hn1 hn2 hn3 hGF
       have zR : Bx Wf (N + 1 + 1) (lgC G.disk g1 g2 n1 n2 G.frm G.til G.ver g3 G.recs.length n3) 32 := by subst hWf; exact z2.set8
       have zB : Below w.heap.size w Wf := by subst hWf; exact below_set8 s6.below (by omega)
       have zL : LgV Wf (.agg (lgC G.disk g1 g2 n1 n2 G.frm G.til G.ver g3 G.recs.length n3)) G := by subst hWf; exact hG.only z2 (noS_lg _ _ _ _ _ _ _ _ _ _ _ _ _ _) Only.eight
       have HWf := Lib.hid hWf
       have HB := Lib.hid zB
       have HL := Lib.hid zL
       have HRf := Lib.hid hRf
       clear hWf zB zL hRf hG
       go_wp2
       have HW := HWf.out
       unfold st8 at HW
       rw [HW]
       have cZ := zR.cell
       refine bodyPost_ret (v := .tuple #[.agg (lgC G.disk g1 g2 n1 n2 G.frm G.til G.ver g3 G.recs.length n3), .int .i64 er]) (by simp [results, Tryd.results11, go_sem, cZ]) rfl ?_
       rw [HRf.out]
       exact ⟨_, rfl, HL.out, HB.out⟩
   ·
    have hk2 : a.kind = 2 := by simpa using k2
    cases kl : (l.disk.left == -1)
    ·
     have nkl : l.disk.left ≠ -1 := by simpa using kl
     obtain ⟨F, fp, fc, fr, gp, gc, gr, h1, h2, h3, h4, h5, h6, h7⟩ : ∃ F fp fc fr gp gc gr, F = l ∧ fp = po ∧ fc = co ∧ fr = ro ∧ gp = pc ∧ gc = cc ∧ gr = rc := ⟨_, _, _, _, _, _, _, rfl, rfl, rfl, rfl, rfl, rfl, rfl⟩
     have hR0 : actL l a = (F, 0) := by rw [h1]; unfold actL; rw [if_neg nk0, if_neg nk1, if_pos hk2, if_neg nkl]
     have s6 : DoS w N l F po co ro fp fc fr pc cc rc gp gc gr a qo ko qc kc W4 := by rw [h1, h2, h3, h4, h5, h6, h7]; exact s4
     clear h1 h2 h3 h4 h5 h6 h7
     clear s4
     go_upto_region 12 with fail
     clear c0 l0
     generalize W4 = W6 at *
     clear c1 l1
     have z0 := s6.box
     have z2 := s6.res
     have z3 := s6.nxt
     have c0 := z0.cell
     have l0 := z0.lt
     have c2 := z2.cell
     have l2 := z2.lt
     have f2 := z2.free
     have c3 := z3.cell
     have l3 := z3.lt
     obtain ⟨G, hGF⟩ : ∃ G, G = F := ⟨_, rfl⟩
     have hRf : R = (G, 0) := by rw [← hR, hGF]; unfold doL; rw [hR0, if_neg (fun h => h.1 rfl)]
     have hG := s6.new
     obtain ⟨Wf, hWf⟩ : ∃ Wf, st8 W6 (N + 1 + 1) (.int .i64 F.disk.size) (.slice fp F.disk.pages.length gp) (.slice fc F.disk.cache.length gc) (.int .i64 F.disk.left) (.int .i64 F.frm) (.int .i64 F.til) (.int .i64 F.ver) (.slice fr F.recs.length gr) = Wf := ⟨_, rfl⟩
     rw [← hGF] at hG hWf c3
     obtain ⟨g1, g2, g3, n1, n2, n3, hg1, hg2, hg3, hn1, hn2, hn3⟩ : ∃ g1 g2 g3 n1 n2 n3, g1 = fp ∧ g2 = fc ∧ g3 = fr ∧ n1 = gp ∧ n2 = gc ∧ n3 = gr := ⟨_, _, _, _, _, _, rfl, rfl, rfl, rfl, rfl, rfl⟩
     rw [← hg1, ← hg2, ← hg3, ← hn1, ← hn2, ← hn3] at hG hWf c3
     clear hg1 hg2 hg3 hn1 hn2 hn3 hGF
     have zR : Bx Wf (N + 1 + 1) (lgC G.disk g1 g2 n1 n2 G.frm G.til G.ver g3 G.recs.length n3) 32 := by subst hWf; exact z2.set8
     have zB : Below w.heap.size w Wf := by subst hWf; exact below_set8 s6.below (by omega)
     have zL : LgV Wf (.agg (lgC G.disk g1 g2 n1 n2 G.frm G.til G.ver g3 G.recs.length n3)) G := by subst hWf; exact hG.only z2 (noS_lg _ _ _ _ _ _ _ _ _ _ _ _ _ _) Only.eight
     have HWf := Lib.hid hWf
     have HB := Lib.hid zB
     have HL := Lib.hid zL
     have HRf := Lib.hid hRf
     clear hWf zB zL hRf hG
     go_wp2
     have HW := HWf.out
     unfold st8 at HW
     rw [HW]
     have cZ := zR.cell
     refine bodyPost_ret (v := .tuple #[.agg (lgC G.disk g1 g2 n1 n2 G.frm G.til G.ver g3 G.recs.length n3), .int .i64 0]) (by simp [results, Tryd.results11, go_sem, cZ]) rfl ?_
     rw [HRf.out]
     exact ⟨_, rfl, HL.out, HB.out⟩
    ·
     have ykl : l.disk.left = -1 := by simpa using kl
     obtain ⟨x, hx⟩ : ∃ x, (a.n : Int) % 12 = x := ⟨_, rfl⟩
     obtain ⟨F, fp, fc, fr, gp, gc, gr, h1, h2, h3, h4, h5, h6, h7⟩ : ∃ F fp fc fr gp gc gr, F = { l with disk := { l.disk with left := x } } ∧ fp = po ∧ fc = co ∧ fr = ro ∧ gp = pc ∧ gc = cc ∧ gr = rc := ⟨_, _, _, _, _, _, _, rfl, rfl, rfl, rfl, rfl, rfl, rfl⟩
     have hR0 : actL l a = (F, 0) := by rw [h1]; unfold actL; rw [if_neg nk0, if_neg nk1, if_pos hk2, if_pos ykl, hx]
     obtain ⟨W6, hW6⟩ : ∃ W6, W4.setCell ⟨N + 3, 3, none⟩ (.int .i64 x) = W6 := ⟨_, rfl⟩
     have s6 : DoS w N l F po co ro fp fc fr pc cc rc gp gc gr a qo ko qc kc W6 := by rw [h1, h2, h3, h4, h5, h6, h7]; exact s4.left hN x (by omega) hW6
     clear h1 h2 h3 h4 h5 h6 h7
     have q3 := s4.nxt.cell
     have m3 := s4.nxt.lt
     have r3 := s4.nxt.free
     have p4 := hA.n
     clear s4
     go_upto_region 12 with fail
     clear c0 l0 c1 l1 q3 m3 r3 p4 hW6
     have z0 := s6.box
     have z2 := s6.res
     have z3 := s6.nxt
     have c0 := z0.cell
     have l0 := z0.lt
     have c2 := z2.cell
     have l2 := z2.lt
     have f2 := z2.free
     have c3 := z3.cell
     have l3 := z3.lt
     obtain ⟨G, hGF⟩ : ∃ G, G = F := ⟨_, rfl⟩
     have hRf : R = (G, 0) := by rw [← hR, hGF]; unfold doL; rw [hR0, if_neg (fun h => h.1 rfl)]
     have hG := s6.new
     obtain ⟨Wf, hWf⟩ : ∃ Wf, st8 W6 (N + 1 + 1) (.int .i64 F.disk.size) (.slice fp F.disk.pages.length gp) (.slice fc F.disk.cache.length gc) (.int .i64 F.disk.left) (.int .i64 F.frm) (.int .i64 F.til) (.int .i64 F.ver) (.slice fr F.recs.length gr) = Wf := ⟨_, rfl⟩
     rw [← hGF] at hG hWf c3
     obtain ⟨g1, g2, g3, n1, n2, n3, hg1, hg2, hg3, hn1, hn2, hn3⟩ : ∃ g1 g2 g3 n1 n2 n3, g1 = fp ∧ g2 = fc ∧ g3 = fr ∧ n1 = gp ∧ n2 = gc ∧ n3 = gr := ⟨_, _, _, _, _, _, rfl, rfl, rfl, rfl, rfl, rfl⟩
     rw [← hg1, ← hg2, ← hg3, ← hn1, ← hn2, ← hn3] at hG hWf c3
     clear hg1 hg2 hg3 hn1 hn2 hn3 hGF
     have zR : Bx Wf (N + 1 + 1) (lgC G.disk g1 g2 n1 n2 G.frm G.til G.ver g3 G.recs.length n3) 32 := by subst hWf; exact z2.set8
     have zB : Below w.heap.size w Wf := by subst hWf; exact below_set8 s6.below (by omega)
     have zL : LgV Wf (.agg (lgC G.disk g1 g2 n1 n2 G.frm G.til G.ver g3 G.recs.length n3)) G := by subst hWf; exact hG.only z2 (noS_lg _ _ _ _ _ _ _ _ _ _ _ _ _ _) Only.eight
     have HWf := Lib.hid hWf
     have HB := Lib.hid zB
     have HL := Lib.hid zL
     have HRf := Lib.hid hRf
     clear hWf zB zL hRf hG
     go_wp2
     have HW := HWf.out
     unfold st8 at HW
     rw [HW]
     have cZ := zR.cell
     refine bodyPost_ret (v := .tuple #[.agg (lgC G.disk g1 g2 n1 n2 G.frm G.til G.ver g3 G.recs.length n3), .int .i64 0]) (by simp [results, Tryd.results11, go_sem, cZ]) rfl ?_
     rw [HRf.out]
     exact ⟨_, rfl, HL.out, HB.out⟩
  ·
   have hk1 : a.kind = 1 := by simpa using k1
   have hR0 : actL l a = cutL l ((a.n : Int) % ((l.recs.length : Int) + 1)) := by unfold actL; rw [if_neg nk0, if_pos hk1]
   obtain ⟨F, er, hF⟩ : ∃ F er, cutL l ((a.n : Int) % ((l.recs.length : Int) + 1)) = (F, er) := ⟨_, _, rfl⟩
   have hcut := fun W (hb : Below w.heap.size w W) => pl_Cut l _ ((a.n : Int) % ((l.recs.length : Int) + 1)) W (hL0.below hb) (hT.below hb) (by omega)
   rw [hF] at hcut hR0
   have Hcut := Lib.hid hcut
   have HBw : Hid (∀ x : Lat W4, Below w.heap.size w x.w) := Lib.hid (fun x => btr s4.below x.h)
   have p1 : IntKind.i64.wrap ((l.recs.length : Int) + 1) = (l.recs.length : Int) + 1 := IntWalk.i64_in _ (by omega)
   have p2 : ((l.recs.length : Int) + 1 == 0) = false := by rw [beq_eq_false_iff_ne]; omega
   have p3 : (a.n : Int) % ((l.recs.length : Int) + 1) < 1000002 ∧ 0 ≤ (a.n : Int) % ((l.recs.length : Int) + 1) := ⟨Int.lt_trans (Int.emod_lt_of_pos _ (by omega)) (by omega), Int.emod_nonneg _ (by omega)⟩
   have p4 := hA.n
   clear hcut hF
   have cQ := Lat.cells W4
   go_upto_region 6 with fail
   refine wp_region_late 13 12 2 #[true, true, true, true, true, true, true, true, true, true, true, true, false, false, false] #[true, true, true, true, true, true, true, true, true, true, true, true, true, false, false] (fun i => if i = 9 then some (annLE F er) else none) _ (by kernel_rfl) rfl (by rfl) (by rfl) (by kernel_rfl) (by rfl) rfl (fun _ _ _ _ h => h) (extract_pure _ _ rfl) ?_
   simp only [List.take_succ_cons, List.take_zero]
   refine LW.block 9 9 (by rfl) (by kernel_rfl) (by kernel_rfl) ?_
   simp only [List.take_succ_cons, List.take_zero, List.drop_succ_cons, List.drop_zero]
   repeat (first | go_big_quiet_skip | (go_big_quiet_want; go_big_quiet_op; go_big_quiet_on))
   refine wpQuiet_nil ?_
   refine LW.lzy _ (by rfl) (by rfl) ?_ ?_
   ·
    intro yL _
    unfold lzAt
    go_simp
    exact lz_le (Hcut.out _ (HBw.out _))
   intro r9
   simp only [Act.put, List.setIfInBounds_toArray, List.set_cons_zero, List.set_cons_succ, annLE]
   refine LW.block 3 13 (by rfl) (by kernel_rfl) (by kernel_rfl) ?_
   simp only [List.take_succ_cons, List.take_zero, List.drop_succ_cons, List.drop_zero]
   repeat (first | go_big_quiet_skip | (go_big_quiet_want; go_big_quiet_op; go_big_quiet_on))
   refine wpQuiet_nil ?_
   refine LW.done ?_
   intro w5 hG
   have hv5 : LgV w5 (r9.x 0) F := hG.get 9 rfl rfl
   have hb5 := hG.below
   obtain ⟨v5, hv5e⟩ : ∃ v5, r9.x 0 = v5 := ⟨_, rfl⟩
   rw [hv5e] at hv5 ⊢
   clear hG hv5e c0 l0 c1 l1 cQ
   have s5 := s4.next hb5
   have hv6 := hv5
   obtain ⟨fp, gp, fc, gc, fr, gr, rfl, -, -, -⟩ := hv5
   obtain ⟨W6, hW6⟩ : ∃ W6, st8 w5 (N + 3) (.int .i64 F.disk.size) (.slice fp F.disk.pages.length gp) (.slice fc F.disk.cache.length gc) (.int .i64 F.disk.left) (.int .i64 F.frm) (.int .i64 F.til) (.int .i64 F.ver) (.slice fr F.recs.length gr) = W6 := ⟨_, rfl⟩
   have s6 := s5.put hN hv6 hW6
   have q3 := s5.nxt.cell
   have m3 := s5.nxt.lt
   have r3 := s5.nxt.free
   unfold st8 at hW6
   refine wpAny_ready (rs := [13]) (by kernel_rfl) (by simp) ?_
   refine AllReady.cons rfl (fun K hK => ?_) AllReady.nil
   go_simp
   refine hK _ _ ?_
   clear hK K
   refine wpAny_ready (rs := [14]) (by kernel_rfl) (by simp) ?_
   refine AllReady.cons rfl (fun K hK => ?_) AllReady.nil
   go_simp
   refine hK _ _ ?_
   clear hK K
   refine wpAny_done (by kernel_rfl) ?_ _
   clear s4 s5 hb5 hv6 p1 p2 p3 p4
   go_upto_region 12 with fail
   clear hW6 q3 m3 r3
   have z0 := s6.box
   have z2 := s6.res
   have z3 := s6.nxt
   have c0 := z0.cell
   have l0 := z0.lt
   have c2 := z2.cell
   have l2 := z2.lt
   have f2 := z2.free
   have c3 := z3.cell
   have l3 := z3.lt
   cases e1 : (er != 0)
   ·
    have he1 : er = 0 := by simpa using e1
    obtain ⟨G, hGF⟩ : ∃ G, G = F := ⟨_, rfl⟩
    have hRf : R = (G, er) := by rw [← hR, hGF]; unfold doL; rw [hR0, if_neg (fun h => h.1 he1)]
    clear he1
    have hG := s6.new
    obtain ⟨Wf, hWf⟩ : ∃ Wf, st8 W6 (N + 1 + 1) (.int .i64 F.disk.size) (.slice fp F.disk.pages.length gp) (.slice fc F.disk.cache.length gc) (.int .i64 F.disk.left) (.int .i64 F.frm) (.int .i64 F.til) (.int .i64 F.ver) (.slice fr F.recs.length gr) = Wf := ⟨_, rfl⟩
    rw [← hGF] at hG hWf c3
    obtain ⟨g1, g2, g3, n1, n2, n3, hg1, hg2, hg3, hn1, hn2, hn3⟩ : ∃ g1 g2 g3 n1 n2 n3, g1 = fp ∧ g2 = fc ∧ g3 = fr ∧ n1 = gp ∧ n2 = gc ∧ n3 = gr := ⟨_, _, _, _, _, _, rfl, rfl, rfl, rfl, rfl, rfl⟩
    rw [← hg1, ← hg2, ← hg3, ← hn1, ← hn2, ← hn3] at hG hWf c3
    clear hg1 hg2 hg3 hn1 hn2 hn3 hGF
    have zR : Bx Wf (N + 1 + 1) (lgC G.disk g1 g2 n1 n2 G.frm G.til G.ver g3 G.recs.length n3) 32 := by subst hWf; exact z2.set8
    have zB : Below w.heap.size w Wf := by subst hWf; exact below_set8 s6.below (by omega)
    have zL : LgV Wf (.agg (lgC G.disk g1 g2 n1 n2 G.frm G.til G.ver g3 G.recs.length n3)) G := by subst hWf; exact hG.only z2 (noS_lg _ _ _ _ _ _ _ _ _ _ _ _ _ _) Only.eight
    have HWf := Lib.hid hWf
    have HB := Lib.hid zB
    have HL := Lib.hid zL
    have HRf := Lib.hid hRf
    clear hWf zB zL hRf hG
    go_wp2
    have HW := HWf.out
    unfold st8 at HW
    rw [HW]
    have cZ := zR.cell
    refine bodyPost_ret (v := .tuple #[.agg (lgC G.disk g1 g2 n1 n2 G.frm G.til G.ver g3 G.recs.length n3), .int .i64 er]) (by simp [results, Tryd.results11, go_sem, cZ]) rfl ?_
    rw [HRf.out]
    exact ⟨_, rfl, HL.out, HB.out⟩
   ·
    have he1 : er ≠ 0 := by simpa using e1
    cases e2 : (er != 18)
    ·
     have he2 : er = 18 := by simpa using e2
     obtain ⟨G, hGF⟩ : ∃ G, G = F := ⟨_, rfl⟩
     have hRf : R = (G, er) := by rw [← hR, hGF]; unfold doL; rw [hR0, if_neg (fun h => h.2 he2)]
     clear he1 he2
     have hG := s6.new
     obtain ⟨Wf, hWf⟩ : ∃ Wf, st8 W6 (N + 1 + 1) (.int .i64 F.disk.size) (.slice fp F.disk.pages.length gp) (.slice fc F.disk.cache.length gc) (.int .i64 F.disk.left) (.int .i64 F.frm) (.int .i64 F.til) (.int .i64 F.ver) (.slice fr F.recs.length gr) = Wf := ⟨_, rfl⟩
     rw [← hGF] at hG hWf c3
     obtain ⟨g1, g2, g3, n1, n2, n3, hg1, hg2, hg3, hn1, hn2, hn3⟩ : ∃ g1 g2 g3 n1 n2 n3, g1 = fp ∧ g2 = fc ∧ g3 = fr ∧ n1 = gp ∧ n2 = gc ∧ n3 = gr := ⟨_, _, _, _, _, _, rfl, rfl, rfl, rfl, rfl, rfl⟩
     rw [← hg1, ← hg2, ← hg3, ← hn1, ← hn2, ← hn3] at hG hWf c3
     clear hg1 hg2 hg3 hn1 hn2 hn3 hGF
     have zR : Bx Wf (N + 1 + 1) (lgC G.disk g1 g2 n1 n2 G.frm G.til G.ver g3 G.recs.length n3) 32 := by subst hWf; exact z2.set8
     have zB : Below w.heap.size w Wf := by subst hWf; exact below_set8 s6.below (by omega)
     have zL : LgV Wf (.agg (lgC G.disk g1 g2 n1 n2 G.frm G.til G.ver g3 G.recs.length n3)) G := by subst hWf; exact hG.only z2 (noS_lg _ _ _ _ _ _ _ _ _ _ _ _ _ _) Only.eight
     have HWf := Lib.hid hWf
     have HB := Lib.hid zB
     have HL := Lib.hid zL
     have HRf := Lib.hid hRf
     clear hWf zB zL hRf hG
     go_wp2
     have HW := HWf.out
     unfold st8 at HW
     rw [HW]
     have cZ := zR.cell
     refine bodyPost_ret (v := .tuple #[.agg (lgC G.disk g1 g2 n1 n2 G.frm G.til G.ver g3 G.recs.length n3), .int .i64 er]) (by simp [results, Tryd.results11, go_sem, cZ]) rfl ?_
     rw [HRf.out]
     exact ⟨_, rfl, HL.out, HB.out⟩
    ·
     have he2 : er ≠ 18 := by simpa using e2
     obtain ⟨G, hGF⟩ : ∃ G, G = l := ⟨_, rfl⟩
     have hRf : R = (G, er) := by rw [← hR, hGF]; unfold doL; rw [hR0, if_pos ⟨he1, he2⟩]
     clear he1 he2
     have hG := s6.val
     obtain ⟨Wf, hWf⟩ : ∃ Wf, st8 W6 (N + 1 + 1) (.int .i64 l.disk.size) (.slice po l.disk.pages.length pc) (.slice co l.disk.cache.length cc) (.int .i64 l.disk.left) (.int .i64 l.frm) (.int .i64 l.til) (.int .i64 l.ver) (.slice ro l.recs.length rc) = Wf := ⟨_, rfl⟩
     rw [← hGF] at hG hWf c0
     obtain ⟨g1, g2, g3, n1, n2, n3, hg1, hg2, hg3, hn1, hn2, hn3⟩ : ∃ g1 g2 g3 n1 n2 n3, g1 = po ∧ g2 = co ∧ g3 = ro ∧ n1 = pc ∧ n2 = cc ∧ n3 = rc := ⟨_, _, _, _, _, _, rfl, rfl, rfl, rfl, rfl, rfl⟩
     rw [← hg1, ← hg2, ← hg3, ← hn1, ← hn2, ← hn3] at hG hWf c0
     clear hg1 hg2 hg3 hn1 hn2 hn3 hGF
     have zR : Bx Wf (N + 1 + 1) (lgC G.disk g1 g2 n1 n2 G.frm G.til G.ver g3 G.recs.length n3) 32 := by subst hWf; exact z2.set8
     have zB : Below w.heap.size w Wf := by subst hWf; exact below_set8 s6.below (by omega)
     have zL : LgV Wf (.agg (lgC G.disk g1 g2 n1 n2 G.frm G.til G.ver g3 G.recs.length n3)) G := by subst hWf; exact hG.only z2 (noS_lg _ _ _ _ _ _ _ _ _ _ _ _ _ _) Only.eight
     have HWf := Lib.hid hWf
     have HB := Lib.hid zB
     have HL := Lib.hid zL
     have HRf := Lib.hid hRf
     clear hWf zB zL hRf hG
     go_wp2
     have HW := HWf.out
     unfold st8 at HW
     rw [HW]
     have cZ := zR.cell
     refine bodyPost_ret (v := .tuple #[.agg (lgC G.disk g1 g2 n1 n2 G.frm G.til G.ver g3 G.recs.length n3), .int .i64 er]) (by simp [results, Tryd.results11, go_sem, cZ]) rfl ?_
     rw [HRf.out]
     exact ⟨_, rfl, HL.out, HB.out⟩
 ·
  have hk0 : a.kind = 0 := by simpa using k0
  have hR0 : actL l a = apL l a.recs := by unfold actL; rw [if_pos hk0]
  obtain ⟨F, er, hF⟩ : ∃ F er, apL l a.recs = (F, er) := ⟨_, _, rfl⟩
  have hap := pl_Append l _ a.recs qo qc W4 s4.val hA.slr ((hA.recs.below s4.below).mono fun b hb => Nat.lt_of_lt_of_le hb s4.below.size) hrl hrz (hT.below s4.below) hc
  rw [hF] at hap hR0
  go_wp2_with fail
  refine hap.mono ?_
  rintro e w5 ⟨v5, rfl, hv5, hb5⟩
  have s5 := s4.next hb5
  have hv6 := hv5
  obtain ⟨fp, gp, fc, gc, fr, gr, rfl, -, -, -⟩ := hv5
  obtain ⟨W6, hW6⟩ : ∃ W6, st8 w5 (N + 3) (.int .i64 F.disk.size) (.slice fp F.disk.pages.length gp) (.slice fc F.disk.cache.length gc) (.int .i64 F.disk.left) (.int .i64 F.frm) (.int .i64 F.til) (.int .i64 F.ver) (.slice fr F.recs.length gr) = W6 := ⟨_, rfl⟩
  have s6 := s5.put hN hv6 hW6
  have q3 := s5.nxt.cell
  have m3 := s5.nxt.lt
  have r3 := s5.nxt.free
  unfold st8 at hW6
  clear c0 l0 c1 l1 s4 s5 hap hb5 hF hv6
  go_upto_region 12 with fail
  clear hW6 q3 m3 r3
  have z0 := s6.box
  have z2 := s6.res
  have z3 := s6.nxt
  have c0 := z0.cell
  have l0 := z0.lt
  have c2 := z2.cell
  have l2 := z2.lt
  have f2 := z2.free
  have c3 := z3.cell
  have l3 := z3.lt
  cases e1 : (er != 0)
  ·
   have he1 : er = 0 := by simpa using e1
   obtain ⟨G, hGF⟩ : ∃ G, G = F := ⟨_, rfl⟩
   have hRf : R = (G, er) := by rw [← hR, hGF]; unfold doL; rw [hR0, if_neg (fun h => h.1 he1)]
   clear he1
   have hG := s6.new
   obtain ⟨Wf, hWf⟩ : ∃ Wf, st8 W6 (N + 1 + 1) (.int .i64 F.disk.size) (.slice fp F.disk.pages.length gp) (.slice fc F.disk.cache.length gc) (.int .i64 F.disk.left) (.int .i64 F.frm) (.int .i64 F.til) (.int .i64 F.ver) (.slice fr F.recs.length gr) = Wf := ⟨_, rfl⟩
   rw [← hGF] at hG hWf c3
   obtain ⟨g1, g2, g3, n1, n2, n3, hg1, hg2, hg3, hn1, hn2, hn3⟩ : ∃ g1 g2 g3 n1 n2 n3, g1 = fp ∧ g2 = fc ∧ g3 = fr ∧ n1 = gp ∧ n2 = gc ∧ n3 = gr := ⟨_, _, _, _, _, _, rfl, rfl, rfl, rfl, rfl, rfl⟩
   rw [← hg1, ← hg2, ← hg3, ← hn1, ← hn2, ← hn3] at hG hWf c3
   clear hg1 hg2 hg3 hn1 hn2 hn3 hGF
   have zR : Bx Wf (N + 1 + 1) (lgC G.disk g1 g2 n1 n2 G.frm G.til G.ver g3 G.recs.length n3) 32 := by subst hWf; exact z2.set8
   have zB : Below w.heap.size w Wf := by subst hWf; exact below_set8 s6.below (by omega)
   have zL : LgV Wf (.agg (lgC G.disk g1 g2 n1 n2 G.frm G.til G.ver g3 G.recs.length n3)) G := by subst hWf; exact hG.only z2 (noS_lg _ _ _ _ _ _ _ _ _ _ _ _ _ _) Only.eight
   have HWf := Lib.hid hWf
   have HB := Lib.hid zB
   have HL := Lib.hid zL
   have HRf := Lib.hid hRf
   clear hWf zB zL hRf hG
   go_wp2
   have HW := HWf.out
   unfold st8 at HW
   rw [HW]
   have cZ := zR.cell
   refine bodyPost_ret (v := .tuple #[.agg (lgC G.disk g1 g2 n1 n2 G.frm G.til G.ver g3 G.recs.length n3), .int .i64 er]) (by simp [results, Tryd.results11, go_sem, cZ]) rfl ?_
   rw [HRf.out]
   exact ⟨_, rfl, HL.out, HB.out⟩
  ·
   have he1 : er ≠ 0 := by simpa using e1
   cases e2 : (er != 18)
   ·
    have he2 : er = 18 := by simpa using e2
    obtain ⟨G, hGF⟩ : ∃ G, G = F := ⟨_, rfl⟩
    have hRf : R = (G, er) := by rw [← hR, hGF]; unfold doL; rw [hR0, if_neg (fun h => h.2 he2)]
    clear he1 he2
    have hG := s6.new
    obtain ⟨Wf, hWf⟩ : ∃ Wf, st8 W6 (N + 1 + 1) (.int .i64 F.disk.size) (.slice fp F.disk.pages.length gp) (.slice fc F.disk.cache.length gc) (.int .i64 F.disk.left) (.int .i64 F.frm) (.int .i64 F.til) (.int .i64 F.ver) (.slice fr F.recs.length gr) = Wf := ⟨_, rfl⟩
    rw [← hGF] at hG hWf c3
    obtain ⟨g1, g2, g3, n1, n2, n3, hg1, hg2, hg3, hn1, hn2, hn3⟩ : ∃ g1 g2 g3 n1 n2 n3, g1 = fp ∧ g2 = fc ∧ g3 = fr ∧ n1 = gp ∧ n2 = gc ∧ n3 = gr := ⟨_, _, _, _, _, _, rfl, rfl, rfl, rfl, rfl, rfl⟩
    rw [← hg1, ← hg2, ← hg3, ← hn1, ← hn2, ← hn3] at hG hWf c3
    clear hg1 hg2 hg3 hn1 hn2 hn3 hGF
    have zR : Bx Wf (N + 1 + 1) (lgC G.disk g1 g2 n1 n2 G.frm G.til G.ver g3 G.recs.length n3) 32 := by subst hWf; exact z2.set8
    have zB : Below w.heap.size w Wf := by subst hWf; exact below_set8 s6.below (by omega)
    have zL : LgV Wf (.agg (lgC G.disk g1 g2 n1 n2 G.frm G.til G.ver g3 G.recs.length n3)) G := by subst hWf; exact hG.only z2 (noS_lg _ _ _ _ _ _ _ _ _ _ _ _ _ _) Only.eight
    have HWf := Lib.hid hWf
    have HB := Lib.hid zB
    have HL := Lib.hid zL
    have HRf := Lib.hid hRf
    clear hWf zB zL hRf hG
    go_wp2
    have HW := HWf.out
    unfold st8 at HW
    rw [HW]
    have cZ := zR.cell
    refine bodyPost_ret (v := .tuple #[.agg (lgC G.disk g1 g2 n1 n2 G.frm G.til G.ver g3 G.recs.length n3), .int .i64 er]) (by simp [results, Tryd.results11, go_sem, cZ]) rfl ?_
    rw [HRf.out]
    exact ⟨_, rfl, HL.out, HB.out⟩
   ·
    have he2 : er ≠ 18 := by simpa using e2
    obtain ⟨G, hGF⟩ : ∃ G, G = l := ⟨_, rfl⟩
    have hRf : R = (G, er) := by rw [← hR, hGF]; unfold doL; rw [hR0, if_pos ⟨he1, he2⟩]
    clear he1 he2
    have hG := s6.val
    obtain ⟨Wf, hWf⟩ : ∃ Wf, st8 W6 (N + 1 + 1) (.int .i64 l.disk.size) (.slice po l.disk.pages.length pc) (.slice co l.disk.cache.length cc) (.int .i64 l.disk.left) (.int .i64 l.frm) (.int .i64 l.til) (.int .i64 l.ver) (.slice ro l.recs.length rc) = Wf := ⟨_, rfl⟩
    rw [← hGF] at hG hWf c0
    obtain ⟨g1, g2, g3, n1, n2, n3, hg1, hg2, hg3, hn1, hn2, hn3⟩ : ∃ g1 g2 g3 n1 n2 n3, g1 = po ∧ g2 = co ∧ g3 = ro ∧ n1 = pc ∧ n2 = cc ∧ n3 = rc := ⟨_, _, _, _, _, _, rfl, rfl, rfl, rfl, rfl, rfl⟩
    rw [← hg1, ← hg2, ← hg3, ← hn1, ← hn2, ← hn3] at hG hWf c0
    clear hg1 hg2 hg3 hn1 hn2 hn3 hGF
    have zR : Bx Wf (N + 1 + 1) (lgC G.disk g1 g2 n1 n2 G.frm G.til G.ver g3 G.recs.length n3) 32 := by subst hWf; exact z2.set8
    have zB : Below w.heap.size w Wf := by subst hWf; exact below_set8 s6.below (by omega)
    have zL : LgV Wf (.agg (lgC G.disk g1 g2 n1 n2 G.frm G.til G.ver g3 G.recs.length n3)) G := by subst hWf; exact hG.only z2 (noS_lg _ _ _ _ _ _ _ _ _ _ _ _ _ _) Only.eight
    have HWf := Lib.hid hWf
    have HB := Lib.hid zB
    have HL := Lib.hid zL
    have HRf := Lib.hid hRf
    clear hWf zB zL hRf hG
    go_wp2
    have HW := HWf.out
    unfold st8 at HW
    rw [HW]
    have cZ := zR.cell
    refine bodyPost_ret (v := .tuple #[.agg (lgC G.disk g1 g2 n1 n2 G.frm G.til G.ver g3 G.recs.length n3), .int .i64 er]) (by simp [results, Tryd.results11, go_sem, cZ]) rfl ?_
    rw [HRf.out]
    exact ⟨_, rfl, HL.out, HB.out⟩
end Go.Proofs.YtghikgjknhjjgaaDoor
namespace Go.Proofs.YtghikgjknhjjgaaDoor
set_option maxRecDepth 100000
open Go.RowKit
def beginL (p s frm til : Int) : Lg × Int :=
 if (newD p s).2 ≠ 0 then (zeroL, (newD p s).2)
 else if (fmtL (newD p s).1 frm til).2 ≠ 0 then (zeroL, (fmtL (newD p s).1 frm til).2)
 else openL (fmtL (newD p s).1 frm til).1 frm til
theorem newD_cache (p s : Int) : (newD p s).1.cache = [] := by unfold newD; split <;> rfl
set_option maxHeartbeats 800000 in
theorem rn_begin (p s frm til : Int) (n : Nat) (o : Option Addr) (c : Nat) (w : World) :
  Calls Tryd.prog 10 #[.agg #[.int .i64 p, .int .i64 s, .int .i64 frm, .int .i64 til, .slice o n c]] w (RetLE w (beginL p s frm til).1 (beginL p s frm til).2) := by
 obtain ⟨R, hR⟩ : ∃ R, beginL p s frm til = R := ⟨_, rfl⟩
 rw [hR]
 obtain ⟨d, e0, hnd⟩ : ∃ d e0, newD p s = (d, e0) := ⟨_, _, rfl⟩
 have hcd : d.cache = [] := by have := newD_cache p s; rw [hnd] at this; exact this
 obtain ⟨f, e1, hfd⟩ : ∃ f e1, fmtL d frm til = (f, e1) := ⟨_, _, rfl⟩
 obtain ⟨F, er, hF⟩ : ∃ F er, openL f frm til = (F, er) := ⟨_, _, rfl⟩
 unfold beginL at hR
 rw [hnd] at hR
 simp only at hR
 rw [hfd] at hR
 simp only at hR
 rw [hF] at hR
 have HR := Lib.hid hR
 clear hR
 obtain ⟨N, hN⟩ : ∃ N, w.heap.size = N := ⟨_, rfl⟩
 obtain ⟨W2, hW2⟩ : ∃ W2, (w.alloc (.cells #[.int .i64 p, .int .i64 s, .int .i64 frm, .int .i64 til, .slice o n c] 24)).alloc (.cells lgZ 32) = W2 := ⟨_, rfl⟩
 have x0 : Bx W2 N #[.int .i64 p, .int .i64 s, .int .i64 frm, .int .i64 til, .slice o n c] 24 := by subst hW2 hN; exact (Bx.new w _ _).alloc _
 have x1 : Bx W2 (N + 1) lgZ 32 := by subst hW2 hN; exact Bx.newAt _ _ _ _ (by simp)
 have hB2 : Below w.heap.size w W2 := by subst hW2; exact (Below.one w _).alloc (by simp) _
 have hs2 : N + 2 ≤ W2.heap.size := by subst hW2 hN; simp
 have c0 := x0.cell
 have l0 := x0.lt
 have hnew := rv_new p s W2 hnd
 have Hcd := Lib.hid hcd
 clear hcd
 have Hfd := Lib.hid hfd
 have HF := Lib.hid hF
 clear hnd hfd hF
 go_enter Tryd.func10, Tryd.ntmps10
 go_wp2_with fail
 refine hnew.mono ?_
 rintro e w3 ⟨v3, rfl, hM3, hb3⟩
 have hM := hM3
 obtain ⟨po, pc, co, cc, rfl⟩ := hM3.agg
 have y0 := x0.belowAll hb3
 have y1 := x1.belowAll hb3
 have hB3 := btr hB2 hb3
 obtain ⟨b, hbe⟩ : ∃ b, w3.heap.size = b := ⟨_, rfl⟩
 have hNb : N + 2 ≤ b := by have := hb3.size; omega
 have hBo := Below.one w3 (.cells (dC d po co pc cc) 30)
 have xd := Bx.new w3 (dC d po co pc cc) 30
 obtain ⟨W4, hW4⟩ : ∃ W4, w3.alloc (.cells (dC d po co pc cc) 30) = W4 := ⟨_, rfl⟩
 rw [hW4, hbe] at xd
 rw [hW4] at hBo
 have z0 := y0.belowAll hBo
 have z1 := y1.belowAll hBo
 have hV4 := hM.below hBo
 have hB4 := btr hB3 hBo
 clear x0 x1 y0 y1 c0 l0 hnew hM hM3 hb3 hBo hB2 hB3 hW2 hs2
 go_upto_region 2 with fail
 (try rw [hW4])
 clear hW4
 cases g0 : (e0 != 0)
 ·
  have h0 : e0 = 0 := by simpa using g0
  have HR1 : Hid ((if e1 ≠ 0 then (zeroL, e1) else (F, er)) = R) := Lib.hid ((if_neg (c := e0 ≠ 0) (fun h => h h0)).symm.trans HR.out)
  clear HR h0
  have hfm := pl_Format d _ frm til W4 hV4 (by rw [Hcd.out]; simp)
  rw [Hfd.out] at hfm
  have c0 := z0.cell
  have l0 := z0.lt
  have cd := xd.cell
  have ld := xd.lt
  go_wp2_with fail
  refine hfm.mono ?_
  rintro e w5 ⟨v5, rfl, hM5, hb5⟩
  have hM := hM5
  obtain ⟨po5, pc5, co5, cc5, rfl⟩ := hM5.agg
  have y0 := z0.belowAll hb5
  have y1 := z1.belowAll hb5
  have yd := xd.belowAll hb5
  have hB5 := btr hB4 hb5
  clear c0 l0 cd ld z0 z1 xd hV4 hfm hM5 hb5 hB4
  obtain ⟨w6, hw6⟩ : ∃ w6, st4 w5 b (.int .i64 f.size) (.slice po5 f.pages.length pc5) (.slice co5 f.cache.length cc5) (.int .i64 f.left) = w6 := ⟨_, rfl⟩
  have ho : Only b w5 w6 := by subst hw6; exact only_st4
  have xd6 : Bx w6 b (dC f po5 co5 pc5 cc5) 30 := by subst hw6; exact yd.st4
  have hB6 : Below w.heap.size w w6 := by subst hw6; exact below_st4 hB5 (by omega)
  have hV6 : DskV w6 (.agg (dC f po5 co5 pc5 cc5)) f := hM.only yd (noS_dC _ _ _ _ _) ho
  have z0 := y0.only ho (by omega)
  have z1 := y1.only ho (by omega)
  have qd := yd.cell
  have md := yd.lt
  have rd := yd.free
  have q0 := y0.cell
  have m0 := y0.lt
  clear y0 y1 yd hM ho hB5
  unfold st4 at hw6
  go_upto_region 5 with fail
  clear hw6 qd md rd q0 m0
  cases g1 : (e1 != 0)
  ·
   have h1 : e1 = 0 := by simpa using g1
   have HRf : Hid (R = (F, er)) := Lib.hid (by rw [← HR1.out, if_neg (fun h => h h1)])
   clear HR1 h1
   have hop := pl_Open f _ frm til w6 hV6
   rw [HF.out] at hop
   have c0 := z0.cell
   have l0 := z0.lt
   have cd := xd6.cell
   have ld := xd6.lt
   go_wp2_with fail
   refine hop.mono ?_
   rintro e w7 ⟨v7, rfl, hL7, hb7⟩
   have hL := hL7
   obtain ⟨po7, pc7, co7, cc7, ro7, rc7, rfl, -, -, -⟩ := hL7
   have x7 := z1.belowAll hb7
   have hB7 := btr hB6 hb7
   clear c0 l0 cd ld z0 z1 xd6 hV6 hop hb7 hB6
   obtain ⟨Wf, hWf⟩ : ∃ Wf, st8 w7 (N + 1) (.int .i64 F.disk.size) (.slice po7 F.disk.pages.length pc7) (.slice co7 F.disk.cache.length cc7) (.int .i64 F.disk.left) (.int .i64 F.frm) (.int .i64 F.til) (.int .i64 F.ver) (.slice ro7 F.recs.length rc7) = Wf := ⟨_, rfl⟩
   have zR : Bx Wf (N + 1) (lgC F.disk po7 co7 pc7 cc7 F.frm F.til F.ver ro7 F.recs.length rc7) 32 := by subst hWf; exact x7.set8
   have zB : Below w.heap.size w Wf := by subst hWf; exact below_set8 hB7 (by omega)
   have zL : LgV Wf (.agg (lgC F.disk po7 co7 pc7 cc7 F.frm F.til F.ver ro7 F.recs.length rc7)) F := by subst hWf; exact hL.only x7 (noS_lg _ _ _ _ _ _ _ _ _ _ _ _ _ _) Only.eight
   have HWf := Lib.hid hWf
   have HB := Lib.hid zB
   have HL := Lib.hid zL
   clear hWf zB zL hL hB7
   have c1 := x7.cell
   have l1 := x7.lt
   have f1 := x7.free
   go_wp2
   have HW := HWf.out
   unfold st8 at HW
   rw [HW]
   have cZ := zR.cell
   refine bodyPost_ret (v := .tuple #[.agg (lgC F.disk po7 co7 pc7 cc7 F.frm F.til F.ver ro7 F.recs.length rc7), .int .i64 er]) (by simp [results, Tryd.results10, go_sem, cZ]) rfl ?_
   rw [HRf.out]
   exact ⟨_, rfl, HL.out, HB.out⟩
  ·
   have h1 : e1 ≠ 0 := by simpa using g1
   obtain ⟨ez, hez⟩ : ∃ ez, ez = e1 := ⟨_, rfl⟩
   have HRf : Hid (R = (zeroL, ez)) := Lib.hid (by rw [← HR1.out, if_pos h1, hez])
   have g1' : (ez != 0) = true := by rw [hez]; exact g1
   rw [← hez]
   clear HR1 h1 g1 hez
   obtain ⟨W7, hW7⟩ : ∃ W7, W7 = w6 := ⟨_, rfl⟩
   have x7 : Bx W7 (N + 1) lgZ 32 := by rw [hW7]; exact z1
   have hB7 : Below w.heap.size w W7 := by rw [hW7]; exact hB6
   clear z0 z1 xd6 hB6 hV6
   rw [← hW7]
   clear hW7
   obtain ⟨Wf, hWf⟩ : ∃ Wf, st8 W7 (N + 1) (.int .i64 0) (.slice none 0 0) (.slice none 0 0) (.int .i64 0) (.int .i64 0) (.int .i64 0) (.int .i64 0) (.slice none 0 0) = Wf := ⟨_, rfl⟩
   have zR : Bx Wf (N + 1) lgZ 32 := by subst hWf; exact x7.set8
   have zB : Below w.heap.size w Wf := by subst hWf; exact below_set8 hB7 (by omega)
   have HWf := Lib.hid hWf
   have HB := Lib.hid zB
   clear hWf zB
   have c1 := x7.cell
   have l1 := x7.lt
   have f1 := x7.free
   go_wp2
   have HW := HWf.out
   unfold st8 at HW
   rw [HW]
   have cZ := zR.cell
   refine bodyPost_ret (v := .tuple #[.agg lgZ, .int .i64 ez]) (by simp [results, Tryd.results10, go_sem, cZ]) rfl ?_
   rw [HRf.out]
   exact ⟨_, rfl, LgV.zero _, HB.out⟩
 ·
  have h0 : e0 ≠ 0 := by simpa using g0
  obtain ⟨ez, hez⟩ : ∃ ez, ez = e0 := ⟨_, rfl⟩
  have HRf : Hid (R = (zeroL, ez)) := Lib.hid (by rw [← HR.out, if_pos h0, hez])
  have g1' : (ez != 0) = true := by rw [hez]; exact g0
  rw [← hez]
  clear HR h0 g0 hez
  obtain ⟨W7, hW7⟩ : ∃ W7, W7 = W4 := ⟨_, rfl⟩
  have x7 : Bx W7 (N + 1) lgZ 32 := by rw [hW7]; exact z1
  have hB7 : Below w.heap.size w W7 := by rw [hW7]; exact hB4
  clear z0 z1 xd hB4 hV4
  rw [← hW7]
  clear hW7
  obtain ⟨Wf, hWf⟩ : ∃ Wf, st8 W7 (N + 1) (.int .i64 0) (.slice none 0 0) (.slice none 0 0) (.int .i64 0) (.int .i64 0) (.int .i64 0) (.int .i64 0) (.slice none 0 0) = Wf := ⟨_, rfl⟩
  have zR : Bx Wf (N + 1) lgZ 32 := by subst hWf; exact x7.set8
  have zB : Below w.heap.size w Wf := by subst hWf; exact below_set8 hB7 (by omega)
  have HWf := Lib.hid hWf
  have HB := Lib.hid zB
  clear hWf zB
  have c1 := x7.cell
  have l1 := x7.lt
  have f1 := x7.free
  go_wp2
  have HW := HWf.out
  unfold st8 at HW
  rw [HW]
  have cZ := zR.cell
  refine bodyPost_ret (v := .tuple #[.agg lgZ, .int .i64 ez]) (by simp [results, Tryd.results10, go_sem, cZ]) rfl ?_
  rw [HRf.out]
  exact ⟨_, rfl, LgV.zero _, HB.out⟩
end Go.Proofs.YtghikgjknhjjgaaDoor
namespace Go.Proofs.YtghikgjknhjjgaaDoor
set_option maxRecDepth 100000
open Go.RowKit
theorem dec_le (n : Nat) : (Lib.decDigits n).length ≤ n + 1 := by
 induction n using Nat.strongRecOn with
 | _ n ih =>
  unfold Lib.decDigits
  by_cases h : n < 10
  ·
   rw [dif_pos h]; simp
  ·
   rw [dif_neg h]
   have := ih (n / 10) (by omega)
   simp only [List.length_append, List.length_cons, List.length_nil]
   omega
theorem short_size : ∀ {l : List ByteArray}, shortB l = true → sizeL l ≤ l.length * 202 := by
 intro l
 induction l with
 | nil => intro _; simp [sizeL]
 | cons s l ih =>
  intro h
  unfold shortB at h ih
  simp only [List.all_cons, Bool.and_eq_true, Bool.not_eq_true', decide_eq_false_iff_not] at h
  have h1 := ih h.2
  have h2 := dec_le s.size
  have h3 : sizeL (s :: l) = ((Lib.decDigits s.size).length + 1 + s.size) + sizeL l := by simp [sizeL]
  simp only [List.length_cons]
  omega
theorem fine_one {a : ActA} (h : fineB 0 0 [a] = true) : a.recs.length ≤ 8 ∧ a.picks.length ≤ 20 ∧ shortB a.recs = true := by
 unfold fineB actFine at h
 simp only [List.all_cons, List.all_nil, Bool.and_true, Bool.and_eq_true, Bool.not_eq_true', decide_eq_false_iff_not] at h
 obtain ⟨_, _, _, h1, h2, h3⟩ := h
 exact ⟨by omega, by omega, h3⟩
theorem acts_one {W : World} {B : Nat} {t : TypeId} {a : ActA} {ro po : Option Addr} {rc pc : Nat} (x : Bx W B (actC a ro po rc pc) t) (h : ActOk W a ro po rc pc) : ActsAt W (some ⟨B, 0, none⟩) [a] := by
 intro i hi
 obtain rfl : i = 0 := by simpa using hi
 have c := x.cell
 exact ⟨B, 0, ro, rc, po, pc, rfl, by simpa using c 0, by simpa using c 1, by simpa using c 2, by simpa using c 3, h⟩
end Go.Proofs.YtghikgjknhjjgaaDoor
namespace Go.Proofs.YtghikgjknhjjgaaDoor
set_option maxRecDepth 100000
open Go.RowKit
theorem wrsP_cnt (l : Lg) : ∀ (f a : Nat) (s : List UInt8), (wrsP l f a s).length ≤ f
 | 0, _, _ => by simp [wrsP]
 | _ + 1, _, [] => by simp [wrsP]
 | f + 1, a, c :: r => by
  rw [wrsP, List.length_cons]
  exact Nat.succ_le_succ (wrsP_cnt l f _ _)
theorem finL_bd (l : Lg) (recs : List ByteArray) (ops : List DOp) : (finL l recs ops).1.disk.cache.length ≤ l.disk.cache.length + ops.length ∧ (finL l recs ops).1.recs.length ≤ max l.recs.length recs.length := by
 have h := perf_cache ops l.disk
 unfold finL
 split
 ·
  exact ⟨h, Nat.le_max_left _ _⟩
 ·
  exact ⟨h, Nat.le_max_right _ _⟩
theorem openL_bd (d : Dsk) (frm til : Int) : (openL d frm til).1.disk.cache.length ≤ d.cache.length ∧ (openL d frm til).1.recs.length ≤ 600000 := by
 by_cases h : fitE d frm til = 0
 ·
  by_cases hv : (headL d frm til).1 = 0
  ·
   rw [openL_nohead h hv]; simp [zeroL, zeroD]
  ·
   cases hr : recsOf ((areaL d frm til).take (headL d frm til).2) with
   | none => rw [openL_norecs h hv hr]; simp [zeroL, zeroD]
   | some l =>
    have hk := openL_ok h hv hr
    have hval : validL ⟨d, frm, til, (headL d frm til).1, l⟩ = true := by
     unfold validL; simp only; rw [hk]; simp
    have h1 := valid_bd hval
    have h2 := recs_len_size l
    rw [hk]
    exact ⟨Nat.le_refl _, by simp only at h1 ⊢; omega⟩
 ·
  rw [openL_bad h]; simp [zeroL, zeroD]
theorem crash_cache (d : Dsk) (picks : List Int) : (crashD d picks).cache = [] := by unfold crashD; split <;> rfl
theorem actL_bd {l : Lg} {a : ActA} {C : Nat} (hc : l.disk.cache.length ≤ C) {M : Nat} (hm : 600000 ≤ M) (hr : l.recs.length ≤ M) :
  (actL l a).1.disk.cache.length ≤ C + sizeL a.recs + 3 ∧ (actL l a).1.recs.length ≤ M + a.recs.length := by
 unfold actL
 by_cases h0 : a.kind = 0
 ·
  rw [if_pos h0]
  unfold apL
  have hz : zeroL.disk.cache.length = 0 ∧ zeroL.recs.length = 0 := ⟨rfl, rfl⟩
  split
  ·
   simp only [hz]; omega
  split
  ·
   simp only [hz]; omega
  split
  ·
   simp only; omega
  split
  ·
   simp only [hz]; omega
  ·
   have h1 := finL_bd l (l.recs ++ a.recs) (wrsL l (sizeL l.recs) (streamL a.recs) ++ .fl :: nextL l (sizeL l.recs + sizeL a.recs))
   have h2 := wrsP_cnt l (streamL a.recs).length (sizeL l.recs) (streamL a.recs)
   rw [streamL_len] at h2
   have h3 : (wrsL l (sizeL l.recs) (streamL a.recs)).length ≤ sizeL a.recs := by unfold wrsL; rw [streamL_len]; exact h2
   have h4 : (nextL l (sizeL l.recs + sizeL a.recs)).length = 2 := rfl
   simp only [List.length_append, List.length_cons, h4] at h1
   omega
 rw [if_neg h0]
 by_cases h1 : a.kind = 1
 ·
  rw [if_pos h1]
  generalize (a.n : Int) % ((l.recs.length : Int) + 1) = n
  unfold cutL
  have hz : zeroL.disk.cache.length = 0 ∧ zeroL.recs.length = 0 := ⟨rfl, rfl⟩
  split
  ·
   simp only [hz]; omega
  split
  ·
   simp only [hz]; omega
  split
  ·
   simp only; omega
  split
  ·
   simp only [hz]; omega
  ·
   have h1 := finL_bd l (l.recs.take n.toNat) (nextL l (sizeL (l.recs.take n.toNat)))
   have h4 : (nextL l (sizeL (l.recs.take n.toNat))).length = 2 := rfl
   rw [h4, List.length_take] at h1
   omega
 rw [if_neg h1]
 by_cases h2 : a.kind = 2
 ·
  rw [if_pos h2]
  split <;> (simp only; omega)
 rw [if_neg h2]
 by_cases h3 : a.kind = 3
 ·
  rw [if_pos h3]
  have h4 := openL_bd (crashD l.disk a.picks) l.frm l.til
  rw [crash_cache] at h4
  simp only [List.length_nil] at h4
  omega
 ·
  rw [if_neg h3]; simp only; omega
theorem doL_bd {l : Lg} {a : ActA} {C : Nat} (hc : l.disk.cache.length ≤ C) {M : Nat} (hm : 600000 ≤ M) (hr : l.recs.length ≤ M) :
  (doL l a).1.disk.cache.length ≤ C + sizeL a.recs + 3 ∧ (doL l a).1.recs.length ≤ M + a.recs.length := by
 unfold doL
 split
 ·
  simp only; omega
 ·
  exact actL_bd hc hm hr
theorem act_fine {a : ActA} (h : actFine a = true) : a.recs.length ≤ 8 ∧ a.picks.length ≤ 20 ∧ sizeL a.recs ≤ 1616 := by
 unfold actFine at h
 simp only [Bool.and_eq_true, Bool.not_eq_true', decide_eq_false_iff_not] at h
 have := short_size h.2.2
 omega
/-- the bounds of the logs of a run, after k acts -/
def RunB (l : Lg) (k : Nat) : Prop := l.disk.cache.length ≤ 30 + 2000 * k ∧ l.recs.length ≤ 600000 + 8 * k
theorem RunB.next {l : Lg} {k : Nat} {a : ActA} (h : RunB l k) (ha : actFine a = true) : RunB (doL l a).1 (k + 1) := by
 have h1 := doL_bd (a := a) h.1 (M := 600000 + 8 * k) (by omega) h.2
 have h2 := act_fine ha
 exact ⟨by omega, by omega⟩
theorem begin_bd (p s frm til : Int) : RunB (beginL p s frm til).1 0 := by
 unfold beginL
 split
 ·
  exact ⟨by simp [zeroL, zeroD], by simp [zeroL]⟩
 split
 ·
  exact ⟨by simp [zeroL, zeroD], by simp [zeroL]⟩
 ·
  have h1 := openL_bd (fmtL (newD p s).1 frm til).1 frm til
  refine ⟨?_, by omega⟩
  have h2 : (fmtL (newD p s).1 frm til).1.cache.length ≤ 3 := by
   unfold fmtL
   split
   ·
    simp [zeroD]
   ·
    have := perf_cache [.wr frm (bs (List.replicate (newD p s).1.size.toNat 0)), .wr (frm + 1) (bs (hdrL (newD p s).1.size.toNat 1 0)), .fl] (newD p s).1
    rw [newD_cache] at this
    simpa using this
  omega
end Go.Proofs.YtghikgjknhjjgaaDoor
