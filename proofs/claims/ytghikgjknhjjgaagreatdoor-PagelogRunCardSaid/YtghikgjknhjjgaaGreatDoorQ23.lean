/- law41.same: an act done with the reference. law PagelogRun: the walk. -/
import Derived.Test.YtghikgjknhjjgaaGreatDoorQ21
import Derived.Test.YtghikgjknhjjgaaGreatDoorQ22
namespace Go.Proofs.YtghikgjknhjjgaaGreatDoor
set_option maxRecDepth 100000
open Go.RowKit
theorem rv_crash (d : Dsk) (v : Value) (picks : List Int) (qo : Option Addr) (qc : Nat) (w : World) {T : Nat → Prop} (hD : DskV w v d) (hq : IntsAt T w qo picks) (hql : picks.length ≤ 1000000) (hn : d.cache.length ≤ 1000000) {A : Dsk} (he : crashD d picks = A) :
  Calls Tryz.prog 49 #[v, .slice qo picks.length qc] w fun e w' => ∃ v', e = .returned v' ∧ DskV w' v' A ∧ Below w.heap.size w w' := by
 refine (ref40_crash d v picks qo qc w hD hq hql hn).mono ?_
 rintro e w' ⟨v', rfl, h, hb⟩
 rw [he] at h
 exact ⟨v', rfl, .of h (gr_all hb), hb⟩
set_option maxHeartbeats 800000 in
theorem rn_same (l : Lg) (v : Value) (a : ActA) (qo ko : Option Addr) (qc kc : Nat) (w : World) (hL : LgV w v l) (hA : ActOk w a qo ko qc kc) (hrl : a.recs.length ≤ 1000) (hrz : sizeL a.recs ≤ 50000) (hkl : a.picks.length ≤ 1000000) (hc : l.disk.cache.length ≤ 900000) (hln : l.recs.length ≤ 1000000) :
  Calls Tryz.prog 19 #[v, .agg (actC a qo ko qc kc)] w (RetLE w (doL l a).1 (doL l a).2) := by
 obtain ⟨R, hR⟩ : ∃ R, doL l a = R := ⟨_, rfl⟩
 rw [hR]
 have hL0 := hL
 obtain ⟨po, pc, co, cc, ro, rc, rfl, hD, hsl, hst⟩ := hL
 obtain ⟨N, hN⟩ : ∃ N, w.heap.size = N := ⟨_, rfl⟩
 obtain ⟨W3, hW3⟩ : ∃ W3, ((w.alloc (.cells (lgC l.disk po co pc cc l.frm l.til l.ver ro l.recs.length rc) 27)).alloc (.cells (actC a qo ko qc kc) 32)).alloc (.cells lgZ 27) = W3 := ⟨_, rfl⟩
 have x0 : Bx W3 N (lgC l.disk po co pc cc l.frm l.til l.ver ro l.recs.length rc) 27 := by subst hW3 hN; exact ((Bx.new w _ _).alloc _).alloc _
 have x1 : Bx W3 (N + 1) (actC a qo ko qc kc) 32 := by subst hW3 hN; exact (Bx.newAt _ _ _ _ (by simp)).alloc _
 have x2 : Bx W3 (N + 1 + 1) lgZ 27 := by subst hW3 hN; exact Bx.newAt _ _ _ _ (by simp)
 have hs3 : W3.heap.size = N + 3 := by subst hW3 hN; simp
 have hB3 : Below w.heap.size w W3 := by subst hW3; exact ((Below.one w _).alloc (by simp) _).alloc (by simp; omega) _
 have c0 := x0.cell
 have l0 := x0.lt
 go_enter Tryz.func19, Tryz.ntmps19
 go_upto_region 2 with fail
 have hBB := Below.one W3 (.cells (lgC l.disk po co pc cc l.frm l.til l.ver ro l.recs.length rc) 27)
 have s4 : DoS w N l l po co ro po co ro pc cc rc pc cc rc a qo ko qc kc (W3.alloc (.cells (lgC l.disk po co pc cc l.frm l.til l.ver ro l.recs.length rc) 27)) := by
  have hB4 := btr hB3 hBB
  exact ⟨x0.alloc _, x1.alloc _, x2.alloc _, Bx.newAt _ _ _ _ hs3.symm, hB4, hL0.below hB4, hL0.below hB4⟩
 clear c0 l0 x0 x1 x2
 generalize W3.alloc (.cells (lgC l.disk po co pc cc l.frm l.til l.ver ro l.recs.length rc) 27) = W4 at *
 have c1 := s4.act.cell
 have l1 := s4.act.lt
 have c0 := s4.box.cell
 have l0 := s4.box.lt
 cases k0 : (a.kind == 0)
 ·
  have nk0 : a.kind ≠ 0 := by simpa using k0
  cases k1 : (a.kind == 1)
  ·
   have nk1 : a.kind ≠ 1 := by simpa using k1
   cases k2 : (a.kind == 2)
   ·
    have nk2 : a.kind ≠ 2 := by simpa using k2
    cases k3 : (a.kind == 3)
    ·
     have nk3 : a.kind ≠ 3 := by simpa using k3
     obtain ⟨F, fp, fc, fr, gp, gc, gr, h1, h2, h3, h4, h5, h6, h7⟩ : ∃ F fp fc fr gp gc gr, F = l ∧ fp = po ∧ fc = co ∧ fr = ro ∧ gp = pc ∧ gc = cc ∧ gr = rc := ⟨_, _, _, _, _, _, _, rfl, rfl, rfl, rfl, rfl, rfl, rfl⟩
     have hR0 : actL l a = (F, 0) := by rw [h1]; unfold actL; rw [if_neg nk0, if_neg nk1, if_neg nk2, if_neg nk3]
     have s6 : DoS w N l F po co ro fp fc fr pc cc rc gp gc gr a qo ko qc kc W4 := by rw [h1, h2, h3, h4, h5, h6, h7]; exact s4
     clear h1 h2 h3 h4 h5 h6 h7
     clear s4
     clear c0 l0
     go_upto_region 12 with fail
     generalize W4 = W6 at *
     clear c1 l1
     have z0 := s6.box
     have z2 := s6.res
     have z3 := s6.nxt
     have c0 := z0.cell
     have l0 := z0.lt
     have c2 := z2.cell
     have l2 := z2.lt
     have f2 := z2.free
     have c3 := z3.cell
     have l3 := z3.lt
     obtain ⟨G, hGF⟩ : ∃ G, G = F := ⟨_, rfl⟩
     have hRf : R = (G, 0) := by rw [← hR, hGF]; unfold doL; rw [hR0, if_neg (fun h => h.1 rfl)]
     have hG := s6.new
     obtain ⟨Wf, hWf⟩ : ∃ Wf, st8 W6 (N + 1 + 1) (.int .i64 F.disk.size) (.slice fp F.disk.pages.length gp) (.slice fc F.disk.cache.length gc) (.int .i64 F.disk.left) (.int .i64 F.frm) (.int .i64 F.til) (.int .i64 F.ver) (.slice fr F.recs.length gr) = Wf := ⟨_, rfl⟩
     rw [← hGF] at hG hWf c3
     obtain ⟨g1, g2, g3, n1, n2, n3, hg1, hg2, hg3, hn1, hn2, hn3⟩ : ∃ g1 g2 g3 n1 n2 n3, g1 = fp ∧ g2 = fc ∧ g3 = fr ∧ n1 = gp ∧ n2 = gc ∧ n3 = gr := ⟨_, _, _, _, _, _, rfl, rfl, rfl, rfl, rfl, rfl⟩
     rw [← hg1, ← hg2, ← hg3, ← hn1, ← hn2, ← hn3] at hG hWf c3
     clear hg1 hg2 hg3 hn1 hn2 hn3 hGF
     have zR : Bx Wf (N + 1 + 1) (lgC G.disk g1 g2 n1 n2 G.frm G.til G.ver g3 G.recs.length n3) 27 := by subst hWf; exact z2.set8
     have zB : Below w.heap.size w Wf := by subst hWf; exact below_set8 s6.below (by omega)
     have zL : LgV Wf (.agg (lgC G.disk g1 g2 n1 n2 G.frm G.til G.ver g3 G.recs.length n3)) G := by subst hWf; exact hG.only z2 (noS_lg _ _ _ _ _ _ _ _ _ _ _ _ _ _) Only.eight
     have HWf := Lib.hid hWf
     have HB := Lib.hid zB
     have HL := Lib.hid zL
     have HRf := Lib.hid hRf
     clear hWf zB zL hRf hG
     go_wp2
     have HW := HWf.out
     unfold st8 at HW
     rw [HW]
     have cZ := zR.cell
     refine bodyPost_ret (v := .tuple #[.agg (lgC G.disk g1 g2 n1 n2 G.frm G.til G.ver g3 G.recs.length n3), .int .i64 0]) (by simp [results, Tryz.results19, go_sem, cZ]) rfl ?_
     rw [HRf.out]
     exact ⟨_, rfl, HL.out, HB.out⟩
    ·
     have hk3 : a.kind = 3 := by simpa using k3
     have hR0 : actL l a = openL (crashD l.disk a.picks) l.frm l.til := by unfold actL; rw [if_neg nk0, if_neg nk1, if_neg nk2, if_pos hk3]
     obtain ⟨C, hC⟩ : ∃ C, crashD l.disk a.picks = C := ⟨_, rfl⟩
     obtain ⟨F, er, hF⟩ : ∃ F er, openL C l.frm l.til = (F, er) := ⟨_, _, rfl⟩
     have hcr := fun W (hb : Below w.heap.size w W) => rv_crash l.disk _ a.picks ko kc W (hD.below hb) ((hA.below hb).picks) hkl (by omega) hC
     have hop := fun v W (hv : DskV W v C) => rf_Open C v l.frm l.til W hv
     rw [hC, hF] at hR0
     rw [hF] at hop
     have Hcr := Lib.hid hcr
     have Hop := Lib.hid hop
     have HBw : Hid (∀ x : Lat W4, Below w.heap.size w x.w) := Lib.hid (fun x => btr s4.below x.h)
     clear hcr hop hF hC
     have cQ := Lat.cells W4
     go_upto_region 11 with fail
     refine wp_region_late 13 12 2 #[true, true, true, true, true, true, true, true, true, true, true, true, false, false, false] #[true, true, true, true, true, true, true, true, true, true, true, true, true, false, false] (fun i => if i = 4 then some (annDv C) else if i = 9 then some (annLE F er) else none) _ (by kernel_rfl) rfl (by rfl) (by rfl) (by kernel_rfl) (by rfl) rfl (fun _ _ _ _ h => h) (extract_pure _ _ rfl) ?_
     simp only [List.take_succ_cons, List.take_zero]
     refine LW.block 4 4 (by rfl) (by kernel_rfl) (by kernel_rfl) ?_
     simp only [List.take_succ_cons, List.take_zero, List.drop_succ_cons, List.drop_zero]
     repeat (first | go_big_quiet_skip | (go_big_quiet_want; go_big_quiet_op; go_big_quiet_on))
     refine wpQuiet_nil ?_
     refine LW.lzy _ (by rfl) (by rfl) ?_ ?_
     ·
      intro yL _
      unfold lzAt
      go_simp
      exact lz_dv (Hcr.out _ (HBw.out _))
     intro r4
     simp only [Act.put, List.setIfInBounds_toArray, List.set_cons_zero, List.set_cons_succ, annDv]
     refine LW.block 4 9 (by rfl) (by kernel_rfl) (by kernel_rfl) ?_
     simp only [List.take_succ_cons, List.take_zero, List.drop_succ_cons, List.drop_zero]
     repeat (first | go_big_quiet_skip | (go_big_quiet_want; go_big_quiet_op; go_big_quiet_on))
     refine wpQuiet_nil ?_
     refine LW.lzy _ (by rfl) (by rfl) ?_ ?_
     ·
      intro yL hf
      have hd : DskV yL.w (r4.x 0) C := (hf 4 (by kernel_rfl)).get (j := 4) rfl rfl
      unfold lzAt
      go_simp
      exact lz_le (Hop.out _ _ hd)
     intro r9
     simp only [Act.put, List.setIfInBounds_toArray, List.set_cons_zero, List.set_cons_succ, annLE]
     refine LW.block 3 13 (by rfl) (by kernel_rfl) (by kernel_rfl) ?_
     simp only [List.take_succ_cons, List.take_zero, List.drop_succ_cons, List.drop_zero]
     repeat (first | go_big_quiet_skip | (go_big_quiet_want; go_big_quiet_op; go_big_quiet_on))
     refine wpQuiet_nil ?_
     refine LW.done ?_
     intro w5 hG
     have hv5 : LgV w5 (r9.x 0) F := hG.get 9 rfl rfl
     have hb5 := hG.below
     obtain ⟨v5, hv5e⟩ : ∃ v5, r9.x 0 = v5 := ⟨_, rfl⟩
     rw [hv5e] at hv5 ⊢
     clear hG hv5e c0 l0 c1 l1 cQ
     have s5 := s4.next hb5
     have hv6 := hv5
     obtain ⟨fp, gp, fc, gc, fr, gr, rfl, -, -, -⟩ := hv5
     obtain ⟨W6, hW6⟩ : ∃ W6, st8 w5 (N + 3) (.int .i64 F.disk.size) (.slice fp F.disk.pages.length gp) (.slice fc F.disk.cache.length gc) (.int .i64 F.disk.left) (.int .i64 F.frm) (.int .i64 F.til) (.int .i64 F.ver) (.slice fr F.recs.length gr) = W6 := ⟨_, rfl⟩
     have s6 := s5.put hN hv6 hW6
     have q3 := s5.nxt.cell
     have m3 := s5.nxt.lt
     have r3 := s5.nxt.free
     unfold st8 at hW6
     refine wpAny_ready (rs := [13]) (by kernel_rfl) (by simp) ?_
     refine AllReady.cons rfl (fun K hK => ?_) AllReady.nil
     go_simp
     refine hK _ _ ?_
     clear hK K
     refine wpAny_ready (rs := [14]) (by kernel_rfl) (by simp) ?_
     refine AllReady.cons rfl (fun K hK => ?_) AllReady.nil
     go_simp
     refine hK _ _ ?_
     clear hK K
     refine wpAny_done (by kernel_rfl) ?_ _
     clear s4 s5 hb5 hv6
     go_upto_region 12 with fail
     clear hW6 q3 m3 r3
     have z0 := s6.box
     have z2 := s6.res
     have z3 := s6.nxt
     have c0 := z0.cell
     have l0 := z0.lt
     have c2 := z2.cell
     have l2 := z2.lt
     have f2 := z2.free
     have c3 := z3.cell
     have l3 := z3.lt
     cases e1 : (er != 0)
     ·
      have he1 : er = 0 := by simpa using e1
      obtain ⟨G, hGF⟩ : ∃ G, G = F := ⟨_, rfl⟩
      have hRf : R = (G, er) := by rw [← hR, hGF]; unfold doL; rw [hR0, if_neg (fun h => h.1 he1)]
      clear he1
      have hG := s6.new
      obtain ⟨Wf, hWf⟩ : ∃ Wf, st8 W6 (N + 1 + 1) (.int .i64 F.disk.size) (.slice fp F.disk.pages.length gp) (.slice fc F.disk.cache.length gc) (.int .i64 F.disk.left) (.int .i64 F.frm) (.int .i64 F.til) (.int .i64 F.ver) (.slice fr F.recs.length gr) = Wf := ⟨_, rfl⟩
      rw [← hGF] at hG hWf c3
      obtain ⟨g1, g2, g3, n1, n2, n3, hg1, hg2, hg3, hn1, hn2, hn3⟩ : ∃ g1 g2 g3 n1 n2 n3, g1 = fp ∧ g2 = fc ∧ g3 = fr ∧ n1 = gp ∧ n2 = gc ∧ n3 = gr := ⟨_, _, _, _, _, _, rfl, rfl, rfl, rfl, rfl, rfl⟩
      rw [← hg1, ← hg2, ← hg3, ← hn1, ← hn2, ← hn3] at hG hWf c3
      clear hg1 hg2 hg3 hn1 hn2 hn3 hGF
      have zR : Bx Wf (N + 1 + 1) (lgC G.disk g1 g2 n1 n2 G.frm G.til G.ver g3 G.recs.length n3) 27 := by subst hWf; exact z2.set8
      have zB : Below w.heap.size w Wf := by subst hWf; exact below_set8 s6.below (by omega)
      have zL : LgV Wf (.agg (lgC G.disk g1 g2 n1 n2 G.frm G.til G.ver g3 G.recs.length n3)) G := by subst hWf; exact hG.only z2 (noS_lg _ _ _ _ _ _ _ _ _ _ _ _ _ _) Only.eight
      have HWf := Lib.hid hWf
      have HB := Lib.hid zB
      have HL := Lib.hid zL
      have HRf := Lib.hid hRf
      clear hWf zB zL hRf hG
      go_wp2
      have HW := HWf.out
      unfold st8 at HW
      rw [HW]
      have cZ := zR.cell
      refine bodyPost_ret (v := .tuple #[.agg (lgC G.disk g1 g2 n1 n2 G.frm G.til G.ver g3 G.recs.length n3), .int .i64 er]) (by simp [results, Tryz.results19, go_sem, cZ]) rfl ?_
      rw [HRf.out]
      exact ⟨_, rfl, HL.out, HB.out⟩
     ·
      have he1 : er ≠ 0 := by simpa using e1
      cases e2 : (er != 18)
      ·
       have he2 : er = 18 := by simpa using e2
       obtain ⟨G, hGF⟩ : ∃ G, G = F := ⟨_, rfl⟩
       have hRf : R = (G, er) := by rw [← hR, hGF]; unfold doL; rw [hR0, if_neg (fun h => h.2 he2)]
       clear he1 he2
       have hG := s6.new
       obtain ⟨Wf, hWf⟩ : ∃ Wf, st8 W6 (N + 1 + 1) (.int .i64 F.disk.size) (.slice fp F.disk.pages.length gp) (.slice fc F.disk.cache.length gc) (.int .i64 F.disk.left) (.int .i64 F.frm) (.int .i64 F.til) (.int .i64 F.ver) (.slice fr F.recs.length gr) = Wf := ⟨_, rfl⟩
       rw [← hGF] at hG hWf c3
       obtain ⟨g1, g2, g3, n1, n2, n3, hg1, hg2, hg3, hn1, hn2, hn3⟩ : ∃ g1 g2 g3 n1 n2 n3, g1 = fp ∧ g2 = fc ∧ g3 = fr ∧ n1 = gp ∧ n2 = gc ∧ n3 = gr := ⟨_, _, _, _, _, _, rfl, rfl, rfl, rfl, rfl, rfl⟩
       rw [← hg1, ← hg2, ← hg3, ← hn1, ← hn2, ← hn3] at hG hWf c3
       clear hg1 hg2 hg3 hn1 hn2 hn3 hGF
       have zR : Bx Wf (N + 1 + 1) (lgC G.disk g1 g2 n1 n2 G.frm G.til G.ver g3 G.recs.length n3) 27 := by subst hWf; exact z2.set8
       have zB : Below w.heap.size w Wf := by subst hWf; exact below_set8 s6.below (by omega)
       have zL : LgV Wf (.agg (lgC G.disk g1 g2 n1 n2 G.frm G.til G.ver g3 G.recs.length n3)) G := by subst hWf; exact hG.only z2 (noS_lg _ _ _ _ _ _ _ _ _ _ _ _ _ _) Only.eight
       have HWf := Lib.hid hWf
       have HB := Lib.hid zB
       have HL := Lib.hid zL
       have HRf := Lib.hid hRf
       clear hWf zB zL hRf hG
       go_wp2
       have HW := HWf.out
       unfold st8 at HW
       rw [HW]
       have cZ := zR.cell
       refine bodyPost_ret (v := .tuple #[.agg (lgC G.disk g1 g2 n1 n2 G.frm G.til G.ver g3 G.recs.length n3), .int .i64 er]) (by simp [results, Tryz.results19, go_sem, cZ]) rfl ?_
       rw [HRf.out]
       exact ⟨_, rfl, HL.out, HB.out⟩
      ·
       have he2 : er ≠ 18 := by simpa using e2
       obtain ⟨G, hGF⟩ : ∃ G, G = l := ⟨_, rfl⟩
       have hRf : R = (G, er) := by rw [← hR, hGF]; unfold doL; rw [hR0, if_pos ⟨he1, he2⟩]
       clear he1 he2
       have hG := s6.val
       obtain ⟨Wf, hWf⟩ : ∃ Wf, st8 W6 (N + 1 + 1) (.int .i64 l.disk.size) (.slice po l.disk.pages.length pc) (.slice co l.disk.cache.length cc) (.int .i64 l.disk.left) (.int .i64 l.frm) (.int .i64 l.til) (.int .i64 l.ver) (.slice ro l.recs.length rc) = Wf := ⟨_, rfl⟩
       rw [← hGF] at hG hWf c0
       obtain ⟨g1, g2, g3, n1, n2, n3, hg1, hg2, hg3, hn1, hn2, hn3⟩ : ∃ g1 g2 g3 n1 n2 n3, g1 = po ∧ g2 = co ∧ g3 = ro ∧ n1 = pc ∧ n2 = cc ∧ n3 = rc := ⟨_, _, _, _, _, _, rfl, rfl, rfl, rfl, rfl, rfl⟩
       rw [← hg1, ← hg2, ← hg3, ← hn1, ← hn2, ← hn3] at hG hWf c0
       clear hg1 hg2 hg3 hn1 hn2 hn3 hGF
       have zR : Bx Wf (N + 1 + 1) (lgC G.disk g1 g2 n1 n2 G.frm G.til G.ver g3 G.recs.length n3) 27 := by subst hWf; exact z2.set8
       have zB : Below w.heap.size w Wf := by subst hWf; exact below_set8 s6.below (by omega)
       have zL : LgV Wf (.agg (lgC G.disk g1 g2 n1 n2 G.frm G.til G.ver g3 G.recs.length n3)) G := by subst hWf; exact hG.only z2 (noS_lg _ _ _ _ _ _ _ _ _ _ _ _ _ _) Only.eight
       have HWf := Lib.hid hWf
       have HB := Lib.hid zB
       have HL := Lib.hid zL
       have HRf := Lib.hid hRf
       clear hWf zB zL hRf hG
       go_wp2
       have HW := HWf.out
       unfold st8 at HW
       rw [HW]
       have cZ := zR.cell
       refine bodyPost_ret (v := .tuple #[.agg (lgC G.disk g1 g2 n1 n2 G.frm G.til G.ver g3 G.recs.length n3), .int .i64 er]) (by simp [results, Tryz.results19, go_sem, cZ]) rfl ?_
       rw [HRf.out]
       exact ⟨_, rfl, HL.out, HB.out⟩
   ·
    have hk2 : a.kind = 2 := by simpa using k2
    cases kl : (l.disk.left == -1)
    ·
     have nkl : l.disk.left ≠ -1 := by simpa using kl
     obtain ⟨F, fp, fc, fr, gp, gc, gr, h1, h2, h3, h4, h5, h6, h7⟩ : ∃ F fp fc fr gp gc gr, F = l ∧ fp = po ∧ fc = co ∧ fr = ro ∧ gp = pc ∧ gc = cc ∧ gr = rc := ⟨_, _, _, _, _, _, _, rfl, rfl, rfl, rfl, rfl, rfl, rfl⟩
     have hR0 : actL l a = (F, 0) := by rw [h1]; unfold actL; rw [if_neg nk0, if_neg nk1, if_pos hk2, if_neg nkl]
     have s6 : DoS w N l F po co ro fp fc fr pc cc rc gp gc gr a qo ko qc kc W4 := by rw [h1, h2, h3, h4, h5, h6, h7]; exact s4
     clear h1 h2 h3 h4 h5 h6 h7
     clear s4
     go_upto_region 12 with fail
     clear c0 l0
     generalize W4 = W6 at *
     clear c1 l1
     have z0 := s6.box
     have z2 := s6.res
     have z3 := s6.nxt
     have c0 := z0.cell
     have l0 := z0.lt
     have c2 := z2.cell
     have l2 := z2.lt
     have f2 := z2.free
     have c3 := z3.cell
     have l3 := z3.lt
     obtain ⟨G, hGF⟩ : ∃ G, G = F := ⟨_, rfl⟩
     have hRf : R = (G, 0) := by rw [← hR, hGF]; unfold doL; rw [hR0, if_neg (fun h => h.1 rfl)]
     have hG := s6.new
     obtain ⟨Wf, hWf⟩ : ∃ Wf, st8 W6 (N + 1 + 1) (.int .i64 F.disk.size) (.slice fp F.disk.pages.length gp) (.slice fc F.disk.cache.length gc) (.int .i64 F.disk.left) (.int .i64 F.frm) (.int .i64 F.til) (.int .i64 F.ver) (.slice fr F.recs.length gr) = Wf := ⟨_, rfl⟩
     rw [← hGF] at hG hWf c3
     obtain ⟨g1, g2, g3, n1, n2, n3, hg1, hg2, hg3, hn1, hn2, hn3⟩ : ∃ g1 g2 g3 n1 n2 n3, g1 = fp ∧ g2 = fc ∧ g3 = fr ∧ n1 = gp ∧ n2 = gc ∧ n3 = gr := ⟨_, _, _, _, _, _, rfl, rfl, rfl, rfl, rfl, rfl⟩
     rw [← hg1, ← hg2, ← hg3, ← hn1, ← hn2, ← hn3] at hG hWf c3
     clear hg1 hg2 hg3 hn1 hn2 hn3 hGF
     have zR : Bx Wf (N + 1 + 1) (lgC G.disk g1 g2 n1 n2 G.frm G.til G.ver g3 G.recs.length n3) 27 := by subst hWf; exact z2.set8
     have zB : Below w.heap.size w Wf := by subst hWf; exact below_set8 s6.below (by omega)
     have zL : LgV Wf (.agg (lgC G.disk g1 g2 n1 n2 G.frm G.til G.ver g3 G.recs.length n3)) G := by subst hWf; exact hG.only z2 (noS_lg _ _ _ _ _ _ _ _ _ _ _ _ _ _) Only.eight
     have HWf := Lib.hid hWf
     have HB := Lib.hid zB
     have HL := Lib.hid zL
     have HRf := Lib.hid hRf
     clear hWf zB zL hRf hG
     go_wp2
     have HW := HWf.out
     unfold st8 at HW
     rw [HW]
     have cZ := zR.cell
     refine bodyPost_ret (v := .tuple #[.agg (lgC G.disk g1 g2 n1 n2 G.frm G.til G.ver g3 G.recs.length n3), .int .i64 0]) (by simp [results, Tryz.results19, go_sem, cZ]) rfl ?_
     rw [HRf.out]
     exact ⟨_, rfl, HL.out, HB.out⟩
    ·
     have ykl : l.disk.left = -1 := by simpa using kl
     obtain ⟨x, hx⟩ : ∃ x, (a.n : Int) % 12 = x := ⟨_, rfl⟩
     obtain ⟨F, fp, fc, fr, gp, gc, gr, h1, h2, h3, h4, h5, h6, h7⟩ : ∃ F fp fc fr gp gc gr, F = { l with disk := { l.disk with left := x } } ∧ fp = po ∧ fc = co ∧ fr = ro ∧ gp = pc ∧ gc = cc ∧ gr = rc := ⟨_, _, _, _, _, _, _, rfl, rfl, rfl, rfl, rfl, rfl, rfl⟩
     have hR0 : actL l a = (F, 0) := by rw [h1]; unfold actL; rw [if_neg nk0, if_neg nk1, if_pos hk2, if_pos ykl, hx]
     obtain ⟨W6, hW6⟩ : ∃ W6, W4.setCell ⟨N + 3, 3, none⟩ (.int .i64 x) = W6 := ⟨_, rfl⟩
     have s6 : DoS w N l F po co ro fp fc fr pc cc rc gp gc gr a qo ko qc kc W6 := by rw [h1, h2, h3, h4, h5, h6, h7]; exact s4.left hN x (by omega) hW6
     clear h1 h2 h3 h4 h5 h6 h7
     have q3 := s4.nxt.cell
     have m3 := s4.nxt.lt
     have r3 := s4.nxt.free
     have p4 := hA.n
     clear s4
     go_upto_region 12 with fail
     clear c0 l0 c1 l1 q3 m3 r3 p4 hW6
     have z0 := s6.box
     have z2 := s6.res
     have z3 := s6.nxt
     have c0 := z0.cell
     have l0 := z0.lt
     have c2 := z2.cell
     have l2 := z2.lt
     have f2 := z2.free
     have c3 := z3.cell
     have l3 := z3.lt
     obtain ⟨G, hGF⟩ : ∃ G, G = F := ⟨_, rfl⟩
     have hRf : R = (G, 0) := by rw [← hR, hGF]; unfold doL; rw [hR0, if_neg (fun h => h.1 rfl)]
     have hG := s6.new
     obtain ⟨Wf, hWf⟩ : ∃ Wf, st8 W6 (N + 1 + 1) (.int .i64 F.disk.size) (.slice fp F.disk.pages.length gp) (.slice fc F.disk.cache.length gc) (.int .i64 F.disk.left) (.int .i64 F.frm) (.int .i64 F.til) (.int .i64 F.ver) (.slice fr F.recs.length gr) = Wf := ⟨_, rfl⟩
     rw [← hGF] at hG hWf c3
     obtain ⟨g1, g2, g3, n1, n2, n3, hg1, hg2, hg3, hn1, hn2, hn3⟩ : ∃ g1 g2 g3 n1 n2 n3, g1 = fp ∧ g2 = fc ∧ g3 = fr ∧ n1 = gp ∧ n2 = gc ∧ n3 = gr := ⟨_, _, _, _, _, _, rfl, rfl, rfl, rfl, rfl, rfl⟩
     rw [← hg1, ← hg2, ← hg3, ← hn1, ← hn2, ← hn3] at hG hWf c3
     clear hg1 hg2 hg3 hn1 hn2 hn3 hGF
     have zR : Bx Wf (N + 1 + 1) (lgC G.disk g1 g2 n1 n2 G.frm G.til G.ver g3 G.recs.length n3) 27 := by subst hWf; exact z2.set8
     have zB : Below w.heap.size w Wf := by subst hWf; exact below_set8 s6.below (by omega)
     have zL : LgV Wf (.agg (lgC G.disk g1 g2 n1 n2 G.frm G.til G.ver g3 G.recs.length n3)) G := by subst hWf; exact hG.only z2 (noS_lg _ _ _ _ _ _ _ _ _ _ _ _ _ _) Only.eight
     have HWf := Lib.hid hWf
     have HB := Lib.hid zB
     have HL := Lib.hid zL
     have HRf := Lib.hid hRf
     clear hWf zB zL hRf hG
     go_wp2
     have HW := HWf.out
     unfold st8 at HW
     rw [HW]
     have cZ := zR.cell
     refine bodyPost_ret (v := .tuple #[.agg (lgC G.disk g1 g2 n1 n2 G.frm G.til G.ver g3 G.recs.length n3), .int .i64 0]) (by simp [results, Tryz.results19, go_sem, cZ]) rfl ?_
     rw [HRf.out]
     exact ⟨_, rfl, HL.out, HB.out⟩
  ·
   have hk1 : a.kind = 1 := by simpa using k1
   have hR0 : actL l a = cutL l ((a.n : Int) % ((l.recs.length : Int) + 1)) := by unfold actL; rw [if_neg nk0, if_pos hk1]
   obtain ⟨F, er, hF⟩ : ∃ F er, cutL l ((a.n : Int) % ((l.recs.length : Int) + 1)) = (F, er) := ⟨_, _, rfl⟩
   have hcut := fun W (hb : Below w.heap.size w W) => rf_Cut l _ ((a.n : Int) % ((l.recs.length : Int) + 1)) W (hL0.below hb) (by omega)
   rw [hF] at hcut hR0
   have Hcut := Lib.hid hcut
   have HBw : Hid (∀ x : Lat W4, Below w.heap.size w x.w) := Lib.hid (fun x => btr s4.below x.h)
   have p1 : IntKind.i64.wrap ((l.recs.length : Int) + 1) = (l.recs.length : Int) + 1 := IntWalk.i64_in _ (by omega)
   have p2 : ((l.recs.length : Int) + 1 == 0) = false := by rw [beq_eq_false_iff_ne]; omega
   have p3 : (a.n : Int) % ((l.recs.length : Int) + 1) < 1000002 ∧ 0 ≤ (a.n : Int) % ((l.recs.length : Int) + 1) := ⟨Int.lt_trans (Int.emod_lt_of_pos _ (by omega)) (by omega), Int.emod_nonneg _ (by omega)⟩
   have p4 := hA.n
   clear hcut hF
   have cQ := Lat.cells W4
   go_upto_region 6 with fail
   refine wp_region_late 13 12 2 #[true, true, true, true, true, true, true, true, true, true, true, true, false, false, false] #[true, true, true, true, true, true, true, true, true, true, true, true, true, false, false] (fun i => if i = 9 then some (annLE F er) else none) _ (by kernel_rfl) rfl (by rfl) (by rfl) (by kernel_rfl) (by rfl) rfl (fun _ _ _ _ h => h) (extract_pure _ _ rfl) ?_
   simp only [List.take_succ_cons, List.take_zero]
   refine LW.block 9 9 (by rfl) (by kernel_rfl) (by kernel_rfl) ?_
   simp only [List.take_succ_cons, List.take_zero, List.drop_succ_cons, List.drop_zero]
   repeat (first | go_big_quiet_skip | (go_big_quiet_want; go_big_quiet_op; go_big_quiet_on))
   refine wpQuiet_nil ?_
   refine LW.lzy _ (by rfl) (by rfl) ?_ ?_
   ·
    intro yL _
    unfold lzAt
    go_simp
    exact lz_le (Hcut.out _ (HBw.out _))
   intro r9
   simp only [Act.put, List.setIfInBounds_toArray, List.set_cons_zero, List.set_cons_succ, annLE]
   refine LW.block 3 13 (by rfl) (by kernel_rfl) (by kernel_rfl) ?_
   simp only [List.take_succ_cons, List.take_zero, List.drop_succ_cons, List.drop_zero]
   repeat (first | go_big_quiet_skip | (go_big_quiet_want; go_big_quiet_op; go_big_quiet_on))
   refine wpQuiet_nil ?_
   refine LW.done ?_
   intro w5 hG
   have hv5 : LgV w5 (r9.x 0) F := hG.get 9 rfl rfl
   have hb5 := hG.below
   obtain ⟨v5, hv5e⟩ : ∃ v5, r9.x 0 = v5 := ⟨_, rfl⟩
   rw [hv5e] at hv5 ⊢
   clear hG hv5e c0 l0 c1 l1 cQ
   have s5 := s4.next hb5
   have hv6 := hv5
   obtain ⟨fp, gp, fc, gc, fr, gr, rfl, -, -, -⟩ := hv5
   obtain ⟨W6, hW6⟩ : ∃ W6, st8 w5 (N + 3) (.int .i64 F.disk.size) (.slice fp F.disk.pages.length gp) (.slice fc F.disk.cache.length gc) (.int .i64 F.disk.left) (.int .i64 F.frm) (.int .i64 F.til) (.int .i64 F.ver) (.slice fr F.recs.length gr) = W6 := ⟨_, rfl⟩
   have s6 := s5.put hN hv6 hW6
   have q3 := s5.nxt.cell
   have m3 := s5.nxt.lt
   have r3 := s5.nxt.free
   unfold st8 at hW6
   refine wpAny_ready (rs := [13]) (by kernel_rfl) (by simp) ?_
   refine AllReady.cons rfl (fun K hK => ?_) AllReady.nil
   go_simp
   refine hK _ _ ?_
   clear hK K
   refine wpAny_ready (rs := [14]) (by kernel_rfl) (by simp) ?_
   refine AllReady.cons rfl (fun K hK => ?_) AllReady.nil
   go_simp
   refine hK _ _ ?_
   clear hK K
   refine wpAny_done (by kernel_rfl) ?_ _
   clear s4 s5 hb5 hv6 p1 p2 p3 p4
   go_upto_region 12 with fail
   clear hW6 q3 m3 r3
   have z0 := s6.box
   have z2 := s6.res
   have z3 := s6.nxt
   have c0 := z0.cell
   have l0 := z0.lt
   have c2 := z2.cell
   have l2 := z2.lt
   have f2 := z2.free
   have c3 := z3.cell
   have l3 := z3.lt
   cases e1 : (er != 0)
   ·
    have he1 : er = 0 := by simpa using e1
    obtain ⟨G, hGF⟩ : ∃ G, G = F := ⟨_, rfl⟩
    have hRf : R = (G, er) := by rw [← hR, hGF]; unfold doL; rw [hR0, if_neg (fun h => h.1 he1)]
    clear he1
    have hG := s6.new
    obtain ⟨Wf, hWf⟩ : ∃ Wf, st8 W6 (N + 1 + 1) (.int .i64 F.disk.size) (.slice fp F.disk.pages.length gp) (.slice fc F.disk.cache.length gc) (.int .i64 F.disk.left) (.int .i64 F.frm) (.int .i64 F.til) (.int .i64 F.ver) (.slice fr F.recs.length gr) = Wf := ⟨_, rfl⟩
    rw [← hGF] at hG hWf c3
    obtain ⟨g1, g2, g3, n1, n2, n3, hg1, hg2, hg3, hn1, hn2, hn3⟩ : ∃ g1 g2 g3 n1 n2 n3, g1 = fp ∧ g2 = fc ∧ g3 = fr ∧ n1 = gp ∧ n2 = gc ∧ n3 = gr := ⟨_, _, _, _, _, _, rfl, rfl, rfl, rfl, rfl, rfl⟩
    rw [← hg1, ← hg2, ← hg3, ← hn1, ← hn2, ← hn3] at hG hWf c3
    clear hg1 hg2 hg3 hn1 hn2 hn3 hGF
    have zR : Bx Wf (N + 1 + 1) (lgC G.disk g1 g2 n1 n2 G.frm G.til G.ver g3 G.recs.length n3) 27 := by subst hWf; exact z2.set8
    have zB : Below w.heap.size w Wf := by subst hWf; exact below_set8 s6.below (by omega)
    have zL : LgV Wf (.agg (lgC G.disk g1 g2 n1 n2 G.frm G.til G.ver g3 G.recs.length n3)) G := by subst hWf; exact hG.only z2 (noS_lg _ _ _ _ _ _ _ _ _ _ _ _ _ _) Only.eight
    have HWf := Lib.hid hWf
    have HB := Lib.hid zB
    have HL := Lib.hid zL
    have HRf := Lib.hid hRf
    clear hWf zB zL hRf hG
    go_wp2
    have HW := HWf.out
    unfold st8 at HW
    rw [HW]
    have cZ := zR.cell
    refine bodyPost_ret (v := .tuple #[.agg (lgC G.disk g1 g2 n1 n2 G.frm G.til G.ver g3 G.recs.length n3), .int .i64 er]) (by simp [results, Tryz.results19, go_sem, cZ]) rfl ?_
    rw [HRf.out]
    exact ⟨_, rfl, HL.out, HB.out⟩
   ·
    have he1 : er ≠ 0 := by simpa using e1
    cases e2 : (er != 18)
    ·
     have he2 : er = 18 := by simpa using e2
     obtain ⟨G, hGF⟩ : ∃ G, G = F := ⟨_, rfl⟩
     have hRf : R = (G, er) := by rw [← hR, hGF]; unfold doL; rw [hR0, if_neg (fun h => h.2 he2)]
     clear he1 he2
     have hG := s6.new
     obtain ⟨Wf, hWf⟩ : ∃ Wf, st8 W6 (N + 1 + 1) (.int .i64 F.disk.size) (.slice fp F.disk.pages.length gp) (.slice fc F.disk.cache.length gc) (.int .i64 F.disk.left) (.int .i64 F.frm) (.int .i64 F.til) (.int .i64 F.ver) (.slice fr F.recs.length gr) = Wf := ⟨_, rfl⟩
     rw [← hGF] at hG hWf c3
     obtain ⟨g1, g2, g3, n1, n2, n3, hg1, hg2, hg3, hn1, hn2, hn3⟩ : ∃ g1 g2 g3 n1 n2 n3, g1 = fp ∧ g2 = fc ∧ g3 = fr ∧ n1 = gp ∧ n2 = gc ∧ n3 = gr := ⟨_, _, _, _, _, _, rfl, rfl, rfl, rfl, rfl, rfl⟩
     rw [← hg1, ← hg2, ← hg3, ← hn1, ← hn2, ← hn3] at hG hWf c3
     clear hg1 hg2 hg3 hn1 hn2 hn3 hGF
     have zR : Bx Wf (N + 1 + 1) (lgC G.disk g1 g2 n1 n2 G.frm G.til G.ver g3 G.recs.length n3) 27 := by subst hWf; exact z2.set8
     have zB : Below w.heap.size w Wf := by subst hWf; exact below_set8 s6.below (by omega)
     have zL : LgV Wf (.agg (lgC G.disk g1 g2 n1 n2 G.frm G.til G.ver g3 G.recs.length n3)) G := by subst hWf; exact hG.only z2 (noS_lg _ _ _ _ _ _ _ _ _ _ _ _ _ _) Only.eight
     have HWf := Lib.hid hWf
     have HB := Lib.hid zB
     have HL := Lib.hid zL
     have HRf := Lib.hid hRf
     clear hWf zB zL hRf hG
     go_wp2
     have HW := HWf.out
     unfold st8 at HW
     rw [HW]
     have cZ := zR.cell
     refine bodyPost_ret (v := .tuple #[.agg (lgC G.disk g1 g2 n1 n2 G.frm G.til G.ver g3 G.recs.length n3), .int .i64 er]) (by simp [results, Tryz.results19, go_sem, cZ]) rfl ?_
     rw [HRf.out]
     exact ⟨_, rfl, HL.out, HB.out⟩
    ·
     have he2 : er ≠ 18 := by simpa using e2
     obtain ⟨G, hGF⟩ : ∃ G, G = l := ⟨_, rfl⟩
     have hRf : R = (G, er) := by rw [← hR, hGF]; unfold doL; rw [hR0, if_pos ⟨he1, he2⟩]
     clear he1 he2
     have hG := s6.val
     obtain ⟨Wf, hWf⟩ : ∃ Wf, st8 W6 (N + 1 + 1) (.int .i64 l.disk.size) (.slice po l.disk.pages.length pc) (.slice co l.disk.cache.length cc) (.int .i64 l.disk.left) (.int .i64 l.frm) (.int .i64 l.til) (.int .i64 l.ver) (.slice ro l.recs.length rc) = Wf := ⟨_, rfl⟩
     rw [← hGF] at hG hWf c0
     obtain ⟨g1, g2, g3, n1, n2, n3, hg1, hg2, hg3, hn1, hn2, hn3⟩ : ∃ g1 g2 g3 n1 n2 n3, g1 = po ∧ g2 = co ∧ g3 = ro ∧ n1 = pc ∧ n2 = cc ∧ n3 = rc := ⟨_, _, _, _, _, _, rfl, rfl, rfl, rfl, rfl, rfl⟩
     rw [← hg1, ← hg2, ← hg3, ← hn1, ← hn2, ← hn3] at hG hWf c0
     clear hg1 hg2 hg3 hn1 hn2 hn3 hGF
     have zR : Bx Wf (N + 1 + 1) (lgC G.disk g1 g2 n1 n2 G.frm G.til G.ver g3 G.recs.length n3) 27 := by subst hWf; exact z2.set8
     have zB : Below w.heap.size w Wf := by subst hWf; exact below_set8 s6.below (by omega)
     have zL : LgV Wf (.agg (lgC G.disk g1 g2 n1 n2 G.frm G.til G.ver g3 G.recs.length n3)) G := by subst hWf; exact hG.only z2 (noS_lg _ _ _ _ _ _ _ _ _ _ _ _ _ _) Only.eight
     have HWf := Lib.hid hWf
     have HB := Lib.hid zB
     have HL := Lib.hid zL
     have HRf := Lib.hid hRf
     clear hWf zB zL hRf hG
     go_wp2
     have HW := HWf.out
     unfold st8 at HW
     rw [HW]
     have cZ := zR.cell
     refine bodyPost_ret (v := .tuple #[.agg (lgC G.disk g1 g2 n1 n2 G.frm G.til G.ver g3 G.recs.length n3), .int .i64 er]) (by simp [results, Tryz.results19, go_sem, cZ]) rfl ?_
     rw [HRf.out]
     exact ⟨_, rfl, HL.out, HB.out⟩
 ·
  have hk0 : a.kind = 0 := by simpa using k0
  have hR0 : actL l a = apL l a.recs := by unfold actL; rw [if_pos hk0]
  obtain ⟨F, er, hF⟩ : ∃ F er, apL l a.recs = (F, er) := ⟨_, _, rfl⟩
  have hap := rf_Append l _ a.recs qo qc W4 s4.val hA.slr ((hA.recs.below s4.below).mono fun b hb => Nat.lt_of_lt_of_le hb s4.below.size) hrl hrz hc
  rw [hF] at hap hR0
  go_wp2_with fail
  refine hap.mono ?_
  rintro e w5 ⟨v5, rfl, hv5, hb5⟩
  have s5 := s4.next hb5
  have hv6 := hv5
  obtain ⟨fp, gp, fc, gc, fr, gr, rfl, -, -, -⟩ := hv5
  obtain ⟨W6, hW6⟩ : ∃ W6, st8 w5 (N + 3) (.int .i64 F.disk.size) (.slice fp F.disk.pages.length gp) (.slice fc F.disk.cache.length gc) (.int .i64 F.disk.left) (.int .i64 F.frm) (.int .i64 F.til) (.int .i64 F.ver) (.slice fr F.recs.length gr) = W6 := ⟨_, rfl⟩
  have s6 := s5.put hN hv6 hW6
  have q3 := s5.nxt.cell
  have m3 := s5.nxt.lt
  have r3 := s5.nxt.free
  unfold st8 at hW6
  clear c0 l0 c1 l1 s4 s5 hap hb5 hF hv6
  go_upto_region 12 with fail
  clear hW6 q3 m3 r3
  have z0 := s6.box
  have z2 := s6.res
  have z3 := s6.nxt
  have c0 := z0.cell
  have l0 := z0.lt
  have c2 := z2.cell
  have l2 := z2.lt
  have f2 := z2.free
  have c3 := z3.cell
  have l3 := z3.lt
  cases e1 : (er != 0)
  ·
   have he1 : er = 0 := by simpa using e1
   obtain ⟨G, hGF⟩ : ∃ G, G = F := ⟨_, rfl⟩
   have hRf : R = (G, er) := by rw [← hR, hGF]; unfold doL; rw [hR0, if_neg (fun h => h.1 he1)]
   clear he1
   have hG := s6.new
   obtain ⟨Wf, hWf⟩ : ∃ Wf, st8 W6 (N + 1 + 1) (.int .i64 F.disk.size) (.slice fp F.disk.pages.length gp) (.slice fc F.disk.cache.length gc) (.int .i64 F.disk.left) (.int .i64 F.frm) (.int .i64 F.til) (.int .i64 F.ver) (.slice fr F.recs.length gr) = Wf := ⟨_, rfl⟩
   rw [← hGF] at hG hWf c3
   obtain ⟨g1, g2, g3, n1, n2, n3, hg1, hg2, hg3, hn1, hn2, hn3⟩ : ∃ g1 g2 g3 n1 n2 n3, g1 = fp ∧ g2 = fc ∧ g3 = fr ∧ n1 = gp ∧ n2 = gc ∧ n3 = gr := ⟨_, _, _, _, _, _, rfl, rfl, rfl, rfl, rfl, rfl⟩
   rw [← hg1, ← hg2, ← hg3, ← hn1, ← hn2, ← hn3] at hG hWf c3
   clear hg1 hg2 hg3 hn1 hn2 hn3 hGF
   have zR : Bx Wf (N + 1 + 1) (lgC G.disk g1 g2 n1 n2 G.frm G.til G.ver g3 G.recs.length n3) 27 := by subst hWf; exact z2.set8
   have zB : Below w.heap.size w Wf := by subst hWf; exact below_set8 s6.below (by omega)
   have zL : LgV Wf (.agg (lgC G.disk g1 g2 n1 n2 G.frm G.til G.ver g3 G.recs.length n3)) G := by subst hWf; exact hG.only z2 (noS_lg _ _ _ _ _ _ _ _ _ _ _ _ _ _) Only.eight
   have HWf := Lib.hid hWf
   have HB := Lib.hid zB
   have HL := Lib.hid zL
   have HRf := Lib.hid hRf
   clear hWf zB zL hRf hG
   go_wp2
   have HW := HWf.out
   unfold st8 at HW
   rw [HW]
   have cZ := zR.cell
   refine bodyPost_ret (v := .tuple #[.agg (lgC G.disk g1 g2 n1 n2 G.frm G.til G.ver g3 G.recs.length n3), .int .i64 er]) (by simp [results, Tryz.results19, go_sem, cZ]) rfl ?_
   rw [HRf.out]
   exact ⟨_, rfl, HL.out, HB.out⟩
  ·
   have he1 : er ≠ 0 := by simpa using e1
   cases e2 : (er != 18)
   ·
    have he2 : er = 18 := by simpa using e2
    obtain ⟨G, hGF⟩ : ∃ G, G = F := ⟨_, rfl⟩
    have hRf : R = (G, er) := by rw [← hR, hGF]; unfold doL; rw [hR0, if_neg (fun h => h.2 he2)]
    clear he1 he2
    have hG := s6.new
    obtain ⟨Wf, hWf⟩ : ∃ Wf, st8 W6 (N + 1 + 1) (.int .i64 F.disk.size) (.slice fp F.disk.pages.length gp) (.slice fc F.disk.cache.length gc) (.int .i64 F.disk.left) (.int .i64 F.frm) (.int .i64 F.til) (.int .i64 F.ver) (.slice fr F.recs.length gr) = Wf := ⟨_, rfl⟩
    rw [← hGF] at hG hWf c3
    obtain ⟨g1, g2, g3, n1, n2, n3, hg1, hg2, hg3, hn1, hn2, hn3⟩ : ∃ g1 g2 g3 n1 n2 n3, g1 = fp ∧ g2 = fc ∧ g3 = fr ∧ n1 = gp ∧ n2 = gc ∧ n3 = gr := ⟨_, _, _, _, _, _, rfl, rfl, rfl, rfl, rfl, rfl⟩
    rw [← hg1, ← hg2, ← hg3, ← hn1, ← hn2, ← hn3] at hG hWf c3
    clear hg1 hg2 hg3 hn1 hn2 hn3 hGF
    have zR : Bx Wf (N + 1 + 1) (lgC G.disk g1 g2 n1 n2 G.frm G.til G.ver g3 G.recs.length n3) 27 := by subst hWf; exact z2.set8
    have zB : Below w.heap.size w Wf := by subst hWf; exact below_set8 s6.below (by omega)
    have zL : LgV Wf (.agg (lgC G.disk g1 g2 n1 n2 G.frm G.til G.ver g3 G.recs.length n3)) G := by subst hWf; exact hG.only z2 (noS_lg _ _ _ _ _ _ _ _ _ _ _ _ _ _) Only.eight
    have HWf := Lib.hid hWf
    have HB := Lib.hid zB
    have HL := Lib.hid zL
    have HRf := Lib.hid hRf
    clear hWf zB zL hRf hG
    go_wp2
    have HW := HWf.out
    unfold st8 at HW
    rw [HW]
    have cZ := zR.cell
    refine bodyPost_ret (v := .tuple #[.agg (lgC G.disk g1 g2 n1 n2 G.frm G.til G.ver g3 G.recs.length n3), .int .i64 er]) (by simp [results, Tryz.results19, go_sem, cZ]) rfl ?_
    rw [HRf.out]
    exact ⟨_, rfl, HL.out, HB.out⟩
   ·
    have he2 : er ≠ 18 := by simpa using e2
    obtain ⟨G, hGF⟩ : ∃ G, G = l := ⟨_, rfl⟩
    have hRf : R = (G, er) := by rw [← hR, hGF]; unfold doL; rw [hR0, if_pos ⟨he1, he2⟩]
    clear he1 he2
    have hG := s6.val
    obtain ⟨Wf, hWf⟩ : ∃ Wf, st8 W6 (N + 1 + 1) (.int .i64 l.disk.size) (.slice po l.disk.pages.length pc) (.slice co l.disk.cache.length cc) (.int .i64 l.disk.left) (.int .i64 l.frm) (.int .i64 l.til) (.int .i64 l.ver) (.slice ro l.recs.length rc) = Wf := ⟨_, rfl⟩
    rw [← hGF] at hG hWf c0
    obtain ⟨g1, g2, g3, n1, n2, n3, hg1, hg2, hg3, hn1, hn2, hn3⟩ : ∃ g1 g2 g3 n1 n2 n3, g1 = po ∧ g2 = co ∧ g3 = ro ∧ n1 = pc ∧ n2 = cc ∧ n3 = rc := ⟨_, _, _, _, _, _, rfl, rfl, rfl, rfl, rfl, rfl⟩
    rw [← hg1, ← hg2, ← hg3, ← hn1, ← hn2, ← hn3] at hG hWf c0
    clear hg1 hg2 hg3 hn1 hn2 hn3 hGF
    have zR : Bx Wf (N + 1 + 1) (lgC G.disk g1 g2 n1 n2 G.frm G.til G.ver g3 G.recs.length n3) 27 := by subst hWf; exact z2.set8
    have zB : Below w.heap.size w Wf := by subst hWf; exact below_set8 s6.below (by omega)
    have zL : LgV Wf (.agg (lgC G.disk g1 g2 n1 n2 G.frm G.til G.ver g3 G.recs.length n3)) G := by subst hWf; exact hG.only z2 (noS_lg _ _ _ _ _ _ _ _ _ _ _ _ _ _) Only.eight
    have HWf := Lib.hid hWf
    have HB := Lib.hid zB
    have HL := Lib.hid zL
    have HRf := Lib.hid hRf
    clear hWf zB zL hRf hG
    go_wp2
    have HW := HWf.out
    unfold st8 at HW
    rw [HW]
    have cZ := zR.cell
    refine bodyPost_ret (v := .tuple #[.agg (lgC G.disk g1 g2 n1 n2 G.frm G.til G.ver g3 G.recs.length n3), .int .i64 er]) (by simp [results, Tryz.results19, go_sem, cZ]) rfl ?_
    rw [HRf.out]
    exact ⟨_, rfl, HL.out, HB.out⟩
end Go.Proofs.YtghikgjknhjjgaaGreatDoor
namespace Go.Proofs.YtghikgjknhjjgaaGreatDoor
set_option maxRecDepth 100000
open Go.RowKit
set_option maxHeartbeats 4000000 in
theorem law41_run (w : World) (p s frm til : Int) (acts : List ActA) (o : Option Addr) (c : Nat) (hA : ActsAt w o acts) (hsl : SlW o acts.length c) (hT : TabW w) :
  Calls Tryz.prog 4 #[.agg #[.int .i64 p, .int .i64 s, .int .i64 frm, .int .i64 til, .slice o acts.length c]] w fun e w' => e = .returned (.bool true) ∧ Below w.heap.size w w' := by
 obtain ⟨N, hN⟩ : ∃ N, w.heap.size = N := ⟨_, rfl⟩
 obtain ⟨W1, hW1⟩ : ∃ W1, w.alloc (.cells #[.int .i64 p, .int .i64 s, .int .i64 frm, .int .i64 til, .slice o acts.length c] 35) = W1 := ⟨_, rfl⟩
 have x1 : Bx W1 N #[.int .i64 p, .int .i64 s, .int .i64 frm, .int .i64 til, .slice o acts.length c] 35 := by subst hW1 hN; exact Bx.new w _ _
 have hB1 : Below w.heap.size w W1 := by subst hW1; exact Below.one w _
 have hlen := slw_len hsl
 have hfi := rn_Fine p s frm til acts o c W1 (hA.below hB1) hsl
 have c0 := x1.cell
 have l0 := x1.lt
 cases g : fineB p s acts
 ·
  rw [g] at hfi
  go_enter Tryz.func4, Tryz.ntmps4
  go_wp2_with fail
  refine hfi.mono ?_
  rintro e w2 ⟨rfl, hb2⟩
  have hB2 := btr hB1 hb2
  go_wp2_with fail
  refine (law41_awake _ (hT.below hB2)).mono ?_
  rintro e w3 ⟨rfl, hb3⟩
  go_wp2
  go_ret
  exact ⟨rfl, btr hB2 hb3⟩
 ·
  rw [g] at hfi
  have hal : acts.all actFine = true := by
   unfold fineB at g
   simp only [Bool.and_eq_true] at g
   exact g.2.2.2
  have hle : acts.length ≤ 10 := by
   unfold fineB at g
   simp only [Bool.and_eq_true, Bool.not_eq_true', decide_eq_false_iff_not] at g
   omega
  have HAl := Lib.hid hal
  clear hal g
  go_enter Tryz.func4, Tryz.ntmps4
  go_wp2_with fail
  refine hfi.mono ?_
  rintro e w2 ⟨rfl, hb2⟩
  have hB2 := btr hB1 hb2
  have x2 := x1.belowAll hb2
  clear c0 l0 x1 hfi hb2 hB1 hW1
  have c0 := x2.cell
  have l0 := x2.lt
  have hbg := rn_begin p s frm til acts.length o c w2
  have hbd := begin_bd p s frm til
  obtain ⟨L, er, hL⟩ : ∃ L er, beginL p s frm til = (L, er) := ⟨_, _, rfl⟩
  rw [hL] at hbg hbd
  have HBd := Lib.hid hbd
  clear hL hbd
  go_wp2_with fail
  refine hbg.mono ?_
  rintro e w3 ⟨v3, rfl, hv3, hb3⟩
  have hv := hv3
  obtain ⟨po, pc, co, cc, ro, rc, rfl, -, -, -⟩ := hv3
  have x3 := x2.belowAll hb3
  have hB3 := btr hB2 hb3
  have hBo := Below.one w3 (.cells (lgC L.disk po co pc cc L.frm L.til L.ver ro L.recs.length rc) 27)
  have xl := Bx.new w3 (lgC L.disk po co pc cc L.frm L.til L.ver ro L.recs.length rc) 27
  have y0 := x3.belowAll hBo
  have hV := hv.below hBo
  have hB := btr hB3 hBo
  clear c0 l0 x2 hbg hB2 x3 hv hBo
  go_upto_region 4 with fail
  obtain ⟨b, hbe⟩ : ∃ b, w3.heap.size = b := ⟨_, rfl⟩
  have hwb : w.heap.size ≤ b := by have := hB3.size; omega
  obtain ⟨W4, hW4⟩ : ∃ W4, w3.alloc (.cells (lgC L.disk po co pc cc L.frm L.til L.ver ro L.recs.length rc) 27) = W4 := ⟨_, rfl⟩
  simp only [hW4, hbe] at *
  clear hW4 hbe hB3 hb3
  have c0 := y0.cell
  have l0 := y0.lt
  cases g1 : (er != 0)
  ·
   go_wp2
   clear c0 l0 y0
   go_loopw [26] (fun i wr => ∃ (k : Nat) (l : Lg) (po co ro : Option Addr) (pc cc rc : Nat), k ≤ acts.length ∧ i = .int .i64 k ∧ Hid (RunB l k) ∧ Below w.heap.size w wr ∧ Bx wr b (lgC l.disk po co pc cc l.frm l.til l.ver ro l.recs.length rc) 27 ∧ LgV wr (.agg (lgC l.disk po co pc cc l.frm l.til l.ver ro l.recs.length rc)) l) (fun i _ => acts.length - (intOf i).toNat)
   case atStart => exact ⟨0, L, po, co, ro, pc, cc, rc, Nat.zero_le _, rfl, HBd, hB, xl, hV⟩
   case round =>
    clear hB xl hV HBd
    obtain ⟨k, l, po, co, ro, pc, cc, rc, hk, rfl, hbd, hB, xl, hV⟩ := hrel
    by_cases hlt : k < acts.length
    ·
     obtain ⟨qb, qoff, so, sc, ko, kc, rfl, k0, k1, k2, k3, ok⟩ := hA k hlt
     have hqb : qb < w.heap.size := World.block_lt_of_cell? w _ k0
     have c0 := (hB.cell hqb).trans k0
     have c1 := (hB.cell hqb).trans k1
     have c2 := (hB.cell hqb).trans k2
     have c3 := (hB.cell hqb).trans k3
     clear k0 k1 k2 k3
     obtain ⟨a, ha⟩ : ∃ a, acts[k] = a := ⟨_, rfl⟩
     rw [ha] at c0 c1 c2 c3 ok
     have haf : actFine a = true := by rw [← ha]; exact List.all_eq_true.1 HAl.out _ (List.getElem_mem hlt)
     obtain ⟨f1, f2, f3⟩ := act_fine haf
     have hbd2 := hbd.out.next haf
     have hbc := hbd.out
     obtain ⟨hc1, hc2⟩ := hbc
     have lB : qb < wr.heap.size := Nat.lt_of_lt_of_le hqb hB.size
     have hzb := hB.size
     have hBo := Below.one wr (.cells (actC a so ko sc kc) 32)
     have xa := Bx.new wr (actC a so ko sc kc) 32
     have yl := xl.alloc (.cells (actC a so ko sc kc) 32)
     have hB1 := btr hB hBo
     have hV1 := hV.below hBo
     have lb := xl.lt
     go_upto_region 9 with fail
     obtain ⟨ba, hba⟩ : ∃ ba, wr.heap.size = ba := ⟨_, rfl⟩
     have hwa : w.heap.size ≤ ba := by omega
     have hbb : b < ba := by omega
     obtain ⟨W5, hW5⟩ : ∃ W5, wr.alloc (.cells (actC a so ko sc kc) 32) = W5 := ⟨_, rfl⟩
     simp only [hW5, hba] at *
     clear hW5 c0 c1 c2 c3 lB hBo lb
     have hT5 := hT.below hB1
     obtain ⟨F, ef, hF⟩ : ∃ F ef, doL l a = (F, ef) := ⟨_, _, rfl⟩
     have hd1 := fun W (hb : Below w.heap.size w W) (hv : LgV W (.agg (lgC l.disk po co pc cc l.frm l.til l.ver ro l.recs.length rc)) l) => rn_Do l _ a so ko sc kc W hv (ok.below hb) (by omega) (by omega) (by omega) (hT.below hb) (by omega) (by omega)
     have hd2 := fun W (hb : Below w.heap.size w W) (hv : LgV W (.agg (lgC l.disk po co pc cc l.frm l.til l.ver ro l.recs.length rc)) l) => rn_same l _ a so ko sc kc W hv (ok.below hb) (by omega) (by omega) (by omega) (by omega) (by omega)
     rw [hF] at hd1 hd2 hbd2
     have H1 := Lib.hid hd1
     have H2 := Lib.hid hd2
     have HB2 := Lib.hid hbd2
     clear hd1 hd2 hbd2 hF f1 f2 f3 hc1 hc2 haf hbd ha
     have cl := yl.cell
     have ll := yl.lt
     have ca := xa.cell
     have la := xa.lt
     go_wp2_with fail
     refine (H1.out _ hB1 hV1).mono ?_
     rintro e w6 ⟨v6, rfl, hv6, hb6⟩
     have hv := hv6
     obtain ⟨p6, m6, q6, k6, r6, t6, rfl, -, -, -⟩ := hv6
     have hBo := Below.one w6 (.cells (lgC F.disk p6 q6 m6 k6 F.frm F.til F.ver r6 F.recs.length t6) 27)
     have x7 := Bx.new w6 (lgC F.disk p6 q6 m6 k6 F.frm F.til F.ver r6 F.recs.length t6) 27
     have zl := (yl.belowAll hb6).belowAll hBo
     have za := (xa.belowAll hb6).belowAll hBo
     have hV7 := (hV1.below hb6).below hBo
     have hN7 := hv.below hBo
     have hB7 := btr (btr hB1 hb6) hBo
     have hs6 := hb6.size
     clear cl ll ca la xa yl hB1 hV1 hv hBo hT5
     go_upto_region 10 with fail
     obtain ⟨b7, hb7e⟩ : ∃ b7, w6.heap.size = b7 := ⟨_, rfl⟩
     obtain ⟨W7, hW7⟩ : ∃ W7, w6.alloc (.cells (lgC F.disk p6 q6 m6 k6 F.frm F.til F.ver r6 F.recs.length t6) 27) = W7 := ⟨_, rfl⟩
     simp only [hW7, hb7e] at *
     clear hW7 hb6
     have cl := zl.cell
     have ll := zl.lt
     have ca := za.cell
     have la := za.lt
     go_wp2_with fail
     refine (H2.out _ hB7 hV7).mono ?_
     rintro e w8 ⟨v8, rfl, hv8, hb8⟩
     have hv := hv8
     obtain ⟨p8, m8, q8, k8, r8, t8, rfl, -, -, -⟩ := hv8
     have hBo := Below.one w8 (.cells (lgC F.disk p8 q8 m8 k8 F.frm F.til F.ver r8 F.recs.length t8) 27)
     have x9 := Bx.new w8 (lgC F.disk p8 q8 m8 k8 F.frm F.til F.ver r8 F.recs.length t8) 27
     have yl := (zl.belowAll hb8).belowAll hBo
     have y7 := (x7.belowAll hb8).belowAll hBo
     have hN9 := (hN7.below hb8).below hBo
     have hM9 := hv.below hBo
     have hB9 := btr (btr hB7 hb8) hBo
     clear cl ll ca la zl za hV7 hB7 hN7 hv hBo x7
     go_upto_region 11 with fail
     obtain ⟨b9, hb9e⟩ : ∃ b9, w8.heap.size = b9 := ⟨_, rfl⟩
     obtain ⟨W9, hW9⟩ : ∃ W9, w8.alloc (.cells (lgC F.disk p8 q8 m8 k8 F.frm F.til F.ver r8 F.recs.length t8) 27) = W9 := ⟨_, rfl⟩
     simp only [hW9, hb9e] at *
     clear hW9 hb8
     have hsm := rf_SameL F _ _ W9 hN9 hM9
     have c7 := y7.cell
     have l7 := y7.lt
     have c9 := x9.cell
     have l9 := x9.lt
     go_wp2_with fail
     refine hsm.mono ?_
     rintro e wA ⟨rfl, hbA⟩
     have zl := yl.belowAll hbA
     have z7 := y7.belowAll hbA
     have hNA := hN9.below hbA
     have hBA := btr hB9 hbA
     clear c7 l7 c9 l9 hsm yl y7 x9 hN9 hM9 hB9
     have c7 := z7.cell
     have l7 := z7.lt
     have cl := zl.cell
     have ll := zl.lt
     have fl := zl.free
     obtain ⟨Wf, hWf⟩ : ∃ Wf, st8 wA b (.int .i64 F.disk.size) (.slice p6 F.disk.pages.length m6) (.slice q6 F.disk.cache.length k6) (.int .i64 F.disk.left) (.int .i64 F.frm) (.int .i64 F.til) (.int .i64 F.ver) (.slice r6 F.recs.length t6) = Wf := ⟨_, rfl⟩
     have ho : Only b wA Wf := by subst hWf; exact Only.eight
     have xf : Bx Wf b (lgC F.disk p6 q6 m6 k6 F.frm F.til F.ver r6 F.recs.length t6) 27 := by subst hWf; exact zl.set8
     have hBf : Below w.heap.size w Wf := by subst hWf; exact below_set8 hBA hwb
     have hVf := hNA.only zl (noS_lg _ _ _ _ _ _ _ _ _ _ _ _ _ _) ho
     have HR := Lib.hid (And.intro hBf (And.intro xf hVf))
     clear hBf xf hVf ho hNA zl z7 hBA
     unfold st8 at hWf
     go_wp2
     go_roundw
     case rel => exact ⟨k + 1, F, p6, q6, r6, m6, k6, t6, by omega, by go_num, HB2, HR.out.1, HR.out.2.1, HR.out.2.2⟩
     case measure => simp [intOf]; omega
    ·
     clear hbd hV
     go_wp2_with fail
     refine (law41_awake _ (hT.below hB)).mono ?_
     rintro e w3 ⟨rfl, hb3⟩
     go_wp2
     go_ret
     exact ⟨rfl, btr hB hb3⟩
  ·
   have hB2 := hB
   go_wp2_with fail
   refine (law41_awake _ (hT.below hB2)).mono ?_
   rintro e w3 ⟨rfl, hb3⟩
   go_wp2
   go_ret
   exact ⟨rfl, btr hB2 hb3⟩
end Go.Proofs.YtghikgjknhjjgaaGreatDoor
