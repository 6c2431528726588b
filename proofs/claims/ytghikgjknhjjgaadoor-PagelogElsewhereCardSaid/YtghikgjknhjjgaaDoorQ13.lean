/- pagelog.Append = apL. -/
import Derived.Test.YtghikgjknhjjgaaDoorQ11
namespace Go.Proofs.YtghikgjknhjjgaaDoor
set_option maxRecDepth 100000
open Go.RowKit Go.Shelf
theorem wrsP_len (l : Lg) : ∀ (f a : Nat) (s : List UInt8), (wrsP l f a s).length ≤ f
 | 0, _, _ => by simp [wrsP]
 | f + 1, _, [] => by simp [wrsP]
 | f + 1, a, c :: r => by
  rw [wrsP, List.length_cons]
  have := wrsP_len l f (a + min (c :: r).length (l.disk.size.toNat - a % l.disk.size.toNat)) ((c :: r).drop (l.disk.size.toNat - a % l.disk.size.toNat))
  omega
theorem wrs_len (l : Lg) (a : Nat) (s : List UInt8) : (wrsL l a s).length ≤ s.length := wrsP_len l _ a s
def annOwn (B : Nat) (ops : List DOp) : Ann := ⟨fun r => r.x 0, fun r W => OpsOwn W B (r.x 0) ops⟩
theorem lz_own {f : FuncId} {args : Array Value} {B : Nat} {ops : List DOp} {W : World} (hB : B ≤ W.heap.size) (h : Calls Tryd.prog f args W fun e w' => ∃ v, e = .returned v ∧ OpsOwn w' W.heap.size v ops ∧ Below W.heap.size W w') : Calls Tryd.prog f args W fun e w' => ∃ u, e = .returned u ∧ lzPost (annOwn B ops) W u w' :=
 h.mono fun _ _ ⟨v, he, ⟨vs, h1, h2⟩, hb⟩ => ⟨v, he, hb, fun _ => v, rfl, fun _ hb' => ⟨vs, ownsRow_belowAll (ownsRow_lowerS h1 hB) hb', h2.below hb'⟩⟩
theorem apL_full {l : Lg} {rs : List ByteArray} (h : validL l = true) (h1 : bigR rs = false) (h2 : rs.length ≠ 0) : apL l rs = if areaN l.disk l.frm l.til - sizeL l.recs < sizeL rs ∨ 1099511627776 ≤ l.ver then (zeroL, 17)
  else finL l (l.recs ++ rs) (wrsL l (sizeL l.recs) (streamL rs) ++ .fl :: nextL l (sizeL l.recs + sizeL rs)) := by
 unfold apL; rw [if_neg (by simp [h]), if_neg (by simp [h1]), if_neg h2]
set_option maxRecDepth 100000 in
set_option maxHeartbeats 8000000 in
theorem pl_Append (l : Lg) (v : Value) (rs : List ByteArray) (qo : Option Addr) (qc : Nat) (w : World) (hL : LgV w v l) (hqs : SlW qo rs.length qc) (hqt : StrsAt (· < w.heap.size) w qo rs) (hrl : rs.length ≤ 1000) (hrz : sizeL rs ≤ 50000) (hT : TabW w) (hc : l.disk.cache.length ≤ 900000) :
  Calls Tryd.prog 19 #[v, .slice qo rs.length qc] w (RetLE w (apL l rs).1 (apL l rs).2) := by
 obtain ⟨R, hR⟩ : ∃ R, apL l rs = R := ⟨_, rfl⟩
 rw [hR]
 have hL0 := hL
 obtain ⟨po, pc, co, cc, ro, rc, rfl, hD, hsl, hst⟩ := hL
 obtain ⟨N, hN⟩ : ∃ N, w.heap.size = N := ⟨_, rfl⟩
 obtain ⟨W0, hW0⟩ : ∃ W0, (w.alloc (.cells (lgC l.disk po co pc cc l.frm l.til l.ver ro l.recs.length rc) 32)).alloc (.cells lgZ 32) = W0 := ⟨_, rfl⟩
 have s0 : LgS w N l po co ro pc cc rc W0 := by subst hW0; exact LgS.start hN hL0
 have hv := pl_valid l _ W0 s0.val
 have c0 := s0.box.cell
 have l0 := s0.box.lt
 have Hqt := Lib.hid hqt
 have Hqs := Lib.hid hqs
 have Hst := Lib.hid hst
 have Hsl := Lib.hid hsl
 have Hl0 := Lib.hid hL0
 have Hrz := Lib.hid hrz
 clear hqt hqs hst hsl hL0 hD hrz
 cases g : validL l
 ·
  rw [g] at hv
  have Hv := Lib.hid hv
  obtain ⟨er0, her⟩ : ∃ er : Int, er = 1 := ⟨1, rfl⟩
  have Her := Lib.hid her
  have HRR : Hid (R = (zeroL, er0)) := Lib.hid (by rw [← hR, her]; unfold apL; rw [if_pos g])
  clear hv hR her g
  go_enter Tryd.func19, Tryd.ntmps19
  go_wp2_with fail
  refine Hv.out.mono ?_
  rintro e w1 ⟨rfl, hb1⟩
  have s1 := s0.next hb1
  clear c0 l0 hW0 hb1
  have c0 := s1.box.cell
  have l0 := s1.box.lt
  obtain ⟨Wf, hWf⟩ : ∃ Wf, st8 w1 (N + 1) (.int .i64 0) (.slice none 0 0) (.slice none 0 0) (.int .i64 0) (.int .i64 0) (.int .i64 0) (.int .i64 0) (.slice none 0 0) = Wf := ⟨_, rfl⟩
  obtain ⟨zR, zB⟩ := s1.outZ hN hWf
  have cX := s1.res.cell
  have lX := s1.res.lt
  have fX := s1.res.free
  have ZB := Lib.hid zB
  have HWf := Lib.hid hWf
  clear zB hWf
  go_wp2
  have HW := HWf.out
  unfold st8 at HW
  rw [HW]
  have cZ := zR.cell
  refine bodyPost_ret (v := .tuple #[.agg lgZ, .int .i64 er0]) (by simp [results, Tryd.results19, go_sem, cZ, Her.out]) rfl ?_
  rw [HRR.out]
  exact ⟨_, rfl, LgV.zero _, ZB.out⟩
 ·
  rw [g] at hv
  have Hv := Lib.hid hv
  have hbig := fun W (hb : Below w.heap.size w W) => sl_ContainsS rs qo qc W (Hqt.out.below hb) (by omega)
  obtain ⟨bg, hbg⟩ : ∃ bg, bigR rs = bg := ⟨_, rfl⟩
  rw [hbg] at hbig
  have Hbig := Lib.hid hbig
  clear hbig
  cases bg with
  | true =>
   obtain ⟨er0, her⟩ : ∃ er : Int, er = 4 := ⟨4, rfl⟩
   have Her := Lib.hid her
   have HRR : Hid (R = (zeroL, er0)) := Lib.hid (by rw [← hR, her]; unfold apL; rw [if_neg (by simp [g]), if_pos hbg])
   clear hv hR her g hbg
   go_enter Tryd.func19, Tryd.ntmps19
   go_wp2_with fail
   refine Hv.out.mono ?_
   rintro e w1 ⟨rfl, hb1⟩
   have s1 := s0.next hb1
   clear c0 l0 hW0 hb1
   have c0 := s1.box.cell
   have l0 := s1.box.lt
   go_wp2_with fail
   refine (Hbig.out _ s1.below).mono ?_
   rintro e w2 ⟨rfl, hb2⟩
   have s2 := s1.next hb2
   clear c0 l0
   obtain ⟨Wf, hWf⟩ : ∃ Wf, st8 w2 (N + 1) (.int .i64 0) (.slice none 0 0) (.slice none 0 0) (.int .i64 0) (.int .i64 0) (.int .i64 0) (.int .i64 0) (.slice none 0 0) = Wf := ⟨_, rfl⟩
   obtain ⟨zR, zB⟩ := s2.outZ hN hWf
   have s1 := s2
   have cX := s1.res.cell
   have lX := s1.res.lt
   have fX := s1.res.free
   have ZB := Lib.hid zB
   have HWf := Lib.hid hWf
   clear zB hWf
   go_wp2
   have HW := HWf.out
   unfold st8 at HW
   rw [HW]
   have cZ := zR.cell
   refine bodyPost_ret (v := .tuple #[.agg lgZ, .int .i64 er0]) (by simp [results, Tryd.results19, go_sem, cZ, Her.out]) rfl ?_
   rw [HRR.out]
   exact ⟨_, rfl, LgV.zero _, ZB.out⟩
  | false =>
   cases g0 : ((rs.length : Int) == 0)
   ·
    have hn0 : rs.length ≠ 0 := by simpa using g0
    obtain ⟨V, hver, hV1, hV2⟩ := valid_ver g
    have hbd := valid_bd g
    have hvs := valid_size g
    have hfit := (validL_parts g).1
    have hfull := apL_full g hbg hn0
    rw [hR] at hfull
    obtain ⟨sz, hsz⟩ : ∃ sz, sizeL l.recs = sz := ⟨_, rfl⟩
    obtain ⟨mo, hmo⟩ : ∃ mo, sizeL rs = mo := ⟨_, rfl⟩
    obtain ⟨ar, har⟩ : ∃ ar, areaN l.disk l.frm l.til = ar := ⟨_, rfl⟩
    rw [hsz, hmo, har] at hfull
    have Hfull := Lib.hid hfull
    have Hver : Hid (l.ver = V ∧ 1 ≤ V ∧ V ≤ 1099511627776) := Lib.hid ⟨hver, hV1, hV2⟩
    have Hbd := Lib.hid hbd
    have Hfit := Lib.hid hfit
    have Hsz := Lib.hid hsz
    have Hmo := Lib.hid hmo
    have Har := Lib.hid har
    have hab := area_bd hfit
    rw [har] at hab
    have hszb : sz ≤ 1024000 := by rw [← hsz]; exact hbd.1
    have hmob : mo ≤ 50000 := by rw [← hmo]; exact Hrz.out
    have har0 := hab.1
    have har1 := hab.2.1
    have HsA := fun W (hb : Below w.heap.size w W) => pl_Size W ro rc l.recs (Hst.out.below hb) (by omega) (hT.below hb) (by omega)
    have HsB := fun W (hb : Below w.heap.size w W) => pl_Size W qo qc rs (Hqt.out.below hb) (by omega) (hT.below hb) (by omega)
    have HaA := fun W (hb : Below w.heap.size w W) => pl_area l.disk (.agg (dC l.disk po co pc cc)) l.frm l.til W hfit ((by obtain ⟨a1, a2, a3, a4, a5, a6, e, h1, _⟩ := Hl0.out; (have e' : (lgC l.disk po co pc cc l.frm l.til l.ver ro l.recs.length rc) = (lgC l.disk a1 a3 a2 a4 l.frm l.til l.ver a5 l.recs.length a6) := by injection e); simp at e'; obtain ⟨⟨rfl, rfl⟩, ⟨rfl, rfl⟩, _⟩ := e'; exact h1 : DskV w (.agg (dC l.disk po co pc cc)) l.disk).below hb)
    simp only [hsz] at HsA
    simp only [hmo] at HsB
    simp only [har] at HaA
    have HSA := Lib.hid HsA
    have HSB := Lib.hid HsB
    have HAA := Lib.hid HaA
    have hfz := fitE_zero hfit
    have hrg := rangedB_true (chk_zero hfz.1).1
    have hnx := fun W (hb : Below w.heap.size w W) => pl_next l (.agg (lgC l.disk po co pc cc l.frm l.til l.ver ro l.recs.length rc)) V (sz + mo) W (Hl0.out.below hb) hver hV2 (by omega) (by omega) (by omega) (by omega) (by omega)
    have Hnx := Lib.hid hnx
    clear hnx hfz hrg
    clear HsA HsB HaA hv hfull hR g hbg hver hV1 hV2 hbd hvs hfit hsz hmo har hab hn0
    cases g5 : decide (ar - (sz : Int) < (mo : Int))
    ·
     cases g6 : decide (1099511627776 ≤ l.ver)
     ·
      have e5 := of_decide_eq_false g5
      have HRR : Hid (R = finL l (l.recs ++ rs) (wrsL l sz (streamL rs) ++ .fl :: nextL l (sz + mo))) := Lib.hid (by rw [Hfull.out, if_neg]; rintro (h | h); exact of_decide_eq_false g5 h; exact of_decide_eq_false g6 h)
      obtain ⟨op1, hop1⟩ : ∃ op1, wrsL l sz (streamL rs) = op1 := ⟨_, rfl⟩
      rw [hop1] at HRR
      have Hop1 := Lib.hid hop1
      clear hop1
      go_enter Tryd.func19, Tryd.ntmps19
      go_wp2_with fail
      refine Hv.out.mono ?_
      rintro e w1 ⟨rfl, hb1⟩
      have s1 := s0.next hb1
      clear c0 l0 hW0 hb1
      have c0 := s1.box.cell
      have l0 := s1.box.lt
      go_wp2_with fail
      refine (Hbig.out _ s1.below).mono ?_
      rintro e w2 ⟨rfl, hb2⟩
      have s2 := s1.next hb2
      clear c0 l0 hb2 s1
      have c0 := s2.box.cell
      have l0 := s2.box.lt
      go_wp2_with fail
      refine (HSA.out _ s2.below).mono ?_
      rintro e w3 ⟨rfl, hb3⟩
      have s3 := s2.next hb3
      clear c0 l0 hb3 s2
      have c0 := s3.box.cell
      have l0 := s3.box.lt
      go_wp2_with fail
      refine (HSB.out _ s3.below).mono ?_
      rintro e w4 ⟨rfl, hb4⟩
      have s4 := s3.next hb4
      clear c0 l0 hb4 s3
      have c0 := s4.box.cell
      have l0 := s4.box.lt
      go_wp2_with fail
      refine (HAA.out _ s4.below).mono ?_
      rintro e w5 ⟨rfl, hb5⟩
      have s5 := s4.next hb5
      clear c0 l0 hb5 s4
      have c0 := s5.box.cell
      have l0 := s5.box.lt
      have cQ := Lat.cells w5
      have hBw : ∀ x : Lat w5, Below w.heap.size w x.w := fun x => btr s5.below x.h
      have HBw := Lib.hid hBw
      clear hBw
      go_wp2
      refine wp_region_lz 6 2 #[true, true, true, true, true, true, false, false] (fun i => if i = 3 then some (annK (.string (bs (streamL rs)))) else if i = 4 then some (annOwn w.heap.size op1) else if i = 5 then some (annOps [.fl] 1) else none) (by kernel_rfl) (by rfl) (by rfl) (by kernel_rfl) ?_
      simp only [List.take_succ_cons, List.take_zero]
      refine LW.block 3 3 (by rfl) (by kernel_rfl) (by kernel_rfl) ?_
      simp only [List.take_succ_cons, List.take_zero, List.drop_succ_cons, List.drop_zero]
      repeat (first | go_big_quiet_skip | (go_big_quiet_want; go_big_quiet_op; go_big_quiet_on))
      refine wpQuiet_nil ?_
      refine LW.lzy _ (by rfl) (by rfl) ?_ ?_
      ·
       intro yL _
       unfold lzAt
       go_simp
       exact lz_constB (pl_stream yL.w qo qc rs (Hqt.out.below (HBw.out _)) (by rw [Hmo.out]; omega) (hT.below (HBw.out _)) (by omega) (by intro e; rw [e] at g0; simp at g0))
      intro r3
      simp only [Act.put, List.setIfInBounds_toArray, List.set_cons_zero, List.set_cons_succ, annK]
      refine LW.lzy _ (by rfl) (by rfl) ?_ ?_
      ·
       intro yL _
       unfold lzAt
       go_simp
       have hP := pl_pages l _ sz (bs (streamL rs)) yL.w (Hl0.out.below (HBw.out _)) Hfit.out (by rw [bs_size, streamL_len, Hmo.out, Har.out]; omega)
       rw [bs_list, Hop1.out] at hP
       exact lz_own (by have := yL.h.size; have := s5.below.size; omega) hP
      intro r4
      simp only [Act.put, List.setIfInBounds_toArray, List.set_cons_zero, List.set_cons_succ]
      refine LW.lzy _ (by rfl) (by rfl) ?_ ?_
      ·
       intro yL _
       unfold lzAt
       go_simp
       refine ⟨Below.one _ _, fun _ => undef, rfl, fun w'' hb => ?_⟩
       refine OpsAt.bx (vs := [.func (.func 42) #[] #[]]) ((Bx.new yL.w _ _).belowAll hb) rfl ?_
       intro j h1 h2
       rcases j with _ | j
       ·
        exact rfl
       ·
        exact absurd h2 (by simp)
      intro r5
      simp only [Act.put, List.setIfInBounds_toArray, List.set_cons_zero, List.set_cons_succ]
      refine LW.done ?_
      intro w6 hG
      have hR4 : OpsOwn w6 w.heap.size (r4.x 0) op1 := hG.get 4 rfl rfl
      have hR5 : OpsAt w6 (some ⟨r5.lo, 0, none⟩) [.fl] := hG.get 5 rfl rfl
      obtain ⟨us, hus, hul⟩ := hR5.row
      obtain ⟨vs, hv1, hv2⟩ := hR4
      have s6 := s5.next hG.below
      have hul1 : us.length = 1 := hul.1
      have hone : ∀ u ∈ us, u.oneCell' = true := by
       intro u hu
       obtain ⟨j, hj, rfl⟩ := List.getElem_of_mem hu
       obtain rfl : j = 0 := by omega
       have : us[0] = .func (.func 42) #[] #[] := hul.2 0 (by simp) hj
       rw [this]
       rfl
      have hz6 := s6.below.size
      obtain ⟨io, hio, hzo, hso, hbyo⟩ := info_parts infoOp
      have Hio : Hid (Tryd.prog.info? 99 = some io ∧ io.zero = some .nilFunc ∧ io.size = 1 ∧ io.bytes = 8) := Lib.hid ⟨hio, hzo, hso, hbyo⟩
      have hol : op1.length ≤ 50000 := by
       have := wrs_len l sz (streamL rs)
       rw [Hop1.out, streamL_len, Hmo.out] at this
       omega
      clear hR5 hG c0 l0 cQ hio hzo hso hbyo
      simp only [annOps, annOwn]
      refine wpAny_ready (rs := [6]) (by kernel_rfl) (by simp) ?_
      refine AllReady.cons rfl (fun K hK => ?_) AllReady.nil
      refine wp_app (.tmp 46) (.tmp 47) 90 rfl w.heap.size 99 io _ 1 8 Tryd.underlying90 Hio.out.1 Hio.out.2.1 Hio.out.2.2.1 Hio.out.2.2.2 rfl (by decide) (r4.x 0) op1.length vs rfl hv1 (some ⟨r5.lo, 0, none⟩) 1 1 us rfl (fun h => by cases h) (by omega) hus hone (by unfold maxLen; omega) (by omega) hz6 ?_
      intro vT wc ho7 hg7
      refine hK _ _ ?_
      clear hK K
      have hul7 : OpL wc (vs ++ us) (op1 ++ [.fl]) := (OpL.app hv2 hul).grown hv1 hg7
      have xb := s6.box.grown hg7 (fun e => ownsRow_ne_bx hv1 s6.box (by decide) e.symm)
      have xr := s6.res.grown hg7 (fun e => ownsRow_ne_bx hv1 s6.res (by decide) e.symm)
      have hB := s6.below.grown hg7 hz6 (fun b e => (hv1.lt b e).1)
      have hto : OpsOwn wc w.heap.size vT (op1 ++ [.fl]) := ⟨vs ++ us, by rw [List.length_append]; exact ho7, hul7⟩
      obtain ⟨opT, hopT⟩ : ∃ opT, op1 ++ [.fl] = opT := ⟨_, rfl⟩
      rw [hopT] at hto
      have HopT := Lib.hid hopT
      have hopl : opT.length ≤ 50001 := by rw [← hopT]; simp; exact hol
      have Hto := Lib.hid hto
      have HloT : Hid (∀ k, vT.ownBlock = some k → k < wc.heap.size) := Lib.hid (fun k e => by obtain ⟨us', h1, _⟩ := hto; exact (h1.lt k e).2)
      obtain ⟨wS, hwS⟩ : ∃ wS, wc.heap.size = wS := ⟨_, rfl⟩
      rw [hwS] at HloT
      have HwS : Hid (wS ≤ wc.heap.size) := Lib.hid (by omega)
      clear ho7 hg7 hul7 hto hv1 hv2 hul hus hopT hwS s6 s5 hone hul1 hol
      refine wpAny_ready (rs := [7]) (by kernel_rfl) (by simp) ?_
      refine AllReady.cons rfl (fun K hK => ?_) AllReady.nil
      go_simp
      refine hK _ _ ?_
      clear hK K
      refine wpAny_done (by kernel_rfl) ?_ _
      obtain ⟨L, hL⟩ : ∃ L, l.recs ++ rs = L := ⟨_, rfl⟩
      have HL := Lib.hid hL
      have hLl : L.length = l.recs.length + rs.length := by rw [← hL]; simp
      obtain ⟨opF, hopF⟩ : ∃ opF, opT ++ nextL l (sz + mo) = opF := ⟨_, rfl⟩
      have hopFl : opF.length = opT.length + 2 := by rw [← hopF]; simp; rfl
      obtain ⟨F, er, hF⟩ : ∃ F er, finL l L opF = (F, er) := ⟨_, _, rfl⟩
      have HF := Lib.hid hF
      have HopF := Lib.hid hopF
      have HRF : Hid (R = (F, er)) := Lib.hid (by
       rw [HRR.out, ← hF, ← hL, ← hopF, ← HopT.out]
       simp)
      have HLl := Lib.hid hLl
      have HopFl := Lib.hid hopFl
      clear hL hopF hF hLl hopFl
      have c0 := xb.cell
      have l0 := xb.lt
      go_wp2
      refine wp_region_startP #[false, false, false, false, false, false, false, false, false, false, false, false, false, false, false, false, false, false] 18 (by kernel_rfl) (by rfl) rfl ?_
      have hbb := (Below.refl wc.heap.size wc).drew
      obtain ⟨wc, hwc⟩ : ∃ W', wc.drew = W' := ⟨_, rfl⟩
      rw [hwc] at hbb ⊢
      have hB := btr hB hbb
      have xb := xb.belowAll hbb
      have xr := xr.belowAll hbb
      have Hto := Lib.hid (Hto.out.below hbb)
      have HwS : Hid (wS ≤ wc.heap.size) := Lib.hid (Nat.le_trans HwS.out hbb.size)
      clear c0 l0
      have c0 := xb.cell
      have l0 := xb.lt
      clear hwc hbb
      refine wpAny_take (i := 1) (v := ?_) rfl (by kernel_rfl) (by kernel_rfl) (by kernel_rfl) (fun _ _ _ h => h) (Or.inl ⟨by rfl, ?_⟩) ?_
      rotate_left
      ·
       intro w; go_simp; try with_reducible rfl
      simp only [Act.put, List.setIfInBounds_toArray, List.set_cons_zero, List.set_cons_succ]
      refine wpAny_take (i := 3) (v := ?_) rfl (by kernel_rfl) (by kernel_rfl) (by kernel_rfl) (fun _ _ _ h => h) (Or.inl ⟨by rfl, ?_⟩) ?_
      rotate_left
      ·
       intro w; go_simp; try with_reducible rfl
      simp only [Act.put, List.setIfInBounds_toArray, List.set_cons_zero, List.set_cons_succ]
      refine wpAny_take (i := 6) (v := ?_) rfl (by kernel_rfl) (by kernel_rfl) (by kernel_rfl) (fun _ _ _ h => h) (Or.inl ⟨by rfl, ?_⟩) ?_
      rotate_left
      ·
       intro w; go_simp; try with_reducible rfl
      simp only [Act.put, List.setIfInBounds_toArray, List.set_cons_zero, List.set_cons_succ]
      refine wpAny_take (i := 8) (v := ?_) rfl (by kernel_rfl) (by kernel_rfl) (by kernel_rfl) (fun _ _ _ h => h) (Or.inl ⟨by rfl, ?_⟩) ?_
      rotate_left
      ·
       intro w; go_simp; try with_reducible rfl
      simp only [Act.put, List.setIfInBounds_toArray, List.set_cons_zero, List.set_cons_succ]
      refine wpAny_take (i := 9) (v := ?_) rfl (by kernel_rfl) (by kernel_rfl) (by kernel_rfl) (fun _ _ _ h => h) (Or.inl ⟨by rfl, ?_⟩) ?_
      rotate_left
      ·
       intro w; go_simp; try with_reducible rfl
      simp only [Act.put, List.setIfInBounds_toArray, List.set_cons_zero, List.set_cons_succ]
      refine wpAny_take (i := 10) (v := ?_) rfl (by kernel_rfl) (by kernel_rfl) (by kernel_rfl) (fun _ _ _ h => h) (Or.inl ⟨by rfl, ?_⟩) ?_
      rotate_left
      ·
       intro w; go_simp; try with_reducible rfl
      simp only [Act.put, List.setIfInBounds_toArray, List.set_cons_zero, List.set_cons_succ]
      refine wpAny_ready (rs := [0, 2, 7]) (by kernel_rfl) (by simp) ?_
      refine AllReady.cons rfl (fun K hK => ?_) (AllReady.cons rfl (fun K hK => ?_) (AllReady.cons rfl (fun K hK => ?_) AllReady.nil))
      ·
       go_simp
       refine hK _ _ ?_
       clear hK K
       simp only [List.setIfInBounds_toArray, List.set_cons_zero]
       refine wpAny_ready (rs := [2, 7]) (by kernel_rfl) (by simp) ?_
       refine AllReady.cons rfl (fun K hK => ?_) (AllReady.cons rfl (fun K hK => ?_) AllReady.nil)
       ·
        go_simp
        refine hK _ _ ?_
        clear hK K
        simp only [List.setIfInBounds_toArray, List.set_cons_zero, List.set_cons_succ]
        refine wpAny_ready (rs := [4, 7]) (by kernel_rfl) (by simp) ?_
        refine AllReady.cons rfl (fun K hK => ?_) (AllReady.cons rfl (fun K hK => ?_) AllReady.nil)
        ·
         go_simp
         refine hK _ _ ?_
         clear hK K
         have x4 := Bx.new wc #[.slice ro l.recs.length rc, .slice qo rs.length qc] 27
         have hbb := Below.one wc (.cells #[.slice ro l.recs.length rc, .slice qo rs.length qc] 27)
         obtain ⟨g, hg⟩ : ∃ g, wc.heap.size = g := ⟨_, rfl⟩
         rw [hg] at x4
         obtain ⟨wc, hwc⟩ : ∃ W', wc.alloc (.cells #[.slice ro l.recs.length rc, .slice qo rs.length qc] 27) = W' := ⟨_, rfl⟩
         rw [hwc] at x4 hbb
         rw [hwc, hg]
         clear hwc
         have hB := btr hB hbb
         have xb := xb.belowAll hbb
         have xr := xr.belowAll hbb
         have Hto := Lib.hid (Hto.out.below hbb)
         have HwS : Hid (wS ≤ wc.heap.size) := Lib.hid (Nat.le_trans HwS.out hbb.size)
         clear c0 l0 hbb hg
         have c0 := xb.cell
         have l0 := xb.lt
         simp only [List.setIfInBounds_toArray, List.set_cons_zero, List.set_cons_succ]
         refine wpAny_ready (rs := [5, 7]) (by kernel_rfl) (by simp) ?_
         refine AllReady.cons rfl (fun K hK => ?_) (AllReady.cons rfl (fun K hK => ?_) AllReady.nil)
         ·
          go_simp
          refine (sl_ConcatS wc g _ _ x4 l.recs rs ⟨ro, rc, rfl, Hsl.out, Hst.out.below hB⟩ ⟨qo, qc, rfl, Hqs.out, Hqt.out.below hB⟩ (by have := Hbd.out; omega) hrl).mono ?_
          rintro e wc ⟨vC, rfl, hC, hbb⟩
          refine hK _ _ ?_
          clear hK K
          rw [HL.out] at hC
          obtain ⟨oC, cC, rfl, hCs, hCt⟩ := hC
          have HC : Hid (SlW oC L.length cC ∧ StrsAt (fun k => wS ≤ k ∧ k < wc.heap.size) wc oC L) := Lib.hid ⟨hCs, hCt.mono fun k hk => ⟨Nat.le_trans HwS.out hk.1, hk.2⟩⟩
          have hB := btr hB hbb
          have xb := xb.belowAll hbb
          have xr := xr.belowAll hbb
          have Hto := Lib.hid (Hto.out.below hbb)
          clear c0 l0 hbb x4 hCs hCt
          have c0 := xb.cell
          have l0 := xb.lt
          simp only [List.setIfInBounds_toArray, List.set_cons_zero, List.set_cons_succ]
          refine wpAny_ready (rs := [7]) (by kernel_rfl) (by simp) ?_
          refine AllReady.cons rfl (fun K hK => ?_) AllReady.nil
          go_simp
          refine hK _ _ ?_
          clear hK K
          simp only [List.setIfInBounds_toArray, List.set_cons_zero, List.set_cons_succ]
          refine wpAny_ready (rs := [11]) (by kernel_rfl) (by simp) ?_
          refine AllReady.cons rfl (fun K hK => ?_) AllReady.nil
          go_simp
          rw [show IntKind.i64.wrap ((sz : Int) + (mo : Int)) = ((sz + mo : Nat) : Int) by rw [IntWalk.i64_in _ (by omega)]; omega]
          refine (Hnx.out _ hB).mono ?_
          rintro e wc ⟨bN, rfl, hN2, hbb⟩
          refine hK _ _ ?_
          clear hK K
          have HN := Lib.hid hN2
          have HC : Hid (SlW oC L.length cC ∧ StrsAt (fun k => wS ≤ k ∧ k < wc.heap.size) wc oC L) := Lib.hid ⟨HC.out.1, (HC.out.2.below hbb).mono fun k hk => ⟨hk.1, Nat.lt_of_lt_of_le hk.2 hbb.size⟩⟩
          have hB := btr hB hbb
          have xb := xb.belowAll hbb
          have xr := xr.belowAll hbb
          have Hto := Lib.hid (Hto.out.below hbb)
          clear c0 l0 hbb hN2
          have c0 := xb.cell
          have l0 := xb.lt
          simp only [List.setIfInBounds_toArray, List.set_cons_zero, List.set_cons_succ]
          refine wpAny_ready (rs := [12]) (by kernel_rfl) (by simp) ?_
          refine AllReady.cons rfl (fun K hK => ?_) AllReady.nil
          obtain ⟨us, hus, hul⟩ := HN.out.row
          obtain ⟨vs, hv1, hv2⟩ := Hto.out
          have hul1 : us.length = 2 := hul.1
          have hone : ∀ u ∈ us, u.oneCell' = true := by
           intro u hu
           obtain ⟨j, hj, rfl⟩ := List.getElem_of_mem hu
           have hj2 : j < 2 := by omega
           have hop := hul.2 j hj2 hj
           rcases j with _ | _ | j
           ·
            obtain ⟨bi, bd, e, _⟩ := hop
            rw [e]; rfl
           ·
            have e : us[1] = .func (.func 42) #[] #[] := hop
            rw [e]; rfl
           ·
            omega
          have hzc := hB.size
          refine wp_app (.tmp 55) (.tmp 60) 90 rfl w.heap.size 99 io _ 1 8 Tryd.underlying90 Hio.out.1 Hio.out.2.1 Hio.out.2.2.1 Hio.out.2.2.2 rfl (by decide) vT opT.length vs rfl hv1 (some ⟨bN, 0, none⟩) 2 2 us rfl (fun h => by cases h) (by omega) hus hone (by unfold maxLen; omega) (by omega) hzc ?_
          intro vF wc ho7 hg7
          refine hK _ _ ?_
          clear hK K
          have hul7 : OpL wc (vs ++ us) (opT ++ nextL l (sz + mo)) := (OpL.app hv2 hul).grown hv1 hg7
          rw [HopF.out] at hul7
          rw [← HopFl.out] at ho7
          have xb := xb.grown hg7 (fun e => ownsRow_ne_bx hv1 xb (by decide) e.symm)
          have xr := xr.grown hg7 (fun e => ownsRow_ne_bx hv1 xr (by decide) e.symm)
          have hB := hB.grown hg7 hzc (fun b e => (hv1.lt b e).1)
          obtain ⟨oF, cF, rfl, _, hrow, _⟩ := ownsRow_at ho7
          have HO := Lib.hid (OpsAt.of hrow hul7)
          have HC : Hid (SlW oC L.length cC ∧ StrsAt (fun k => wS ≤ k ∧ k < wc.heap.size) wc oC L) := Lib.hid ⟨HC.out.1, (HC.out.2.same (w' := wc) (fun k hk => hg7.block k hk.2 (fun e => by have := HloT.out k e.symm; have := hk.1; omega))).mono fun k hk => ⟨hk.1, Nat.lt_of_lt_of_le hk.2 hg7.size⟩⟩
          clear c0 l0 HN hus hul hv1 hv2 hone hul1 ho7 hg7 hul7 hrow
          have c0 := xb.cell
          have l0 := xb.lt
          simp only [Act.put, List.setIfInBounds_toArray, List.set_cons_zero, List.set_cons_succ]
          refine wpAny_ready (rs := [13]) (by kernel_rfl) (by simp) ?_
          refine AllReady.cons rfl (fun K hK => ?_) AllReady.nil
          go_simp
          have hfc := pl_finish l _ L oC cC opF oF cF wc (Hl0.out.below hB) HC.out.1 (HC.out.2.mono fun k hk => hk.2) HO.out (by have := HopFl.out; omega) (by have := Hver.out; omega) (by have := Hver.out; omega)
          rw [HF.out] at hfc
          refine hfc.mono ?_
          rintro e wd ⟨vF, rfl, hLF, hbb⟩
          refine hK _ _ ?_
          clear hK K hfc
          have hLF' := hLF
          obtain ⟨po2, pc2, co2, cc2, ro2, rc2, rfl, _, _, _⟩ := hLF
          have s9 : LgS w N l po co ro pc cc rc wd := ⟨xb.belowAll hbb, xr.belowAll hbb, btr hB hbb, Hl0.out.below (btr hB hbb)⟩
          obtain ⟨Wf, hWf⟩ : ∃ Wf, st8 wd (N + 1) (.int .i64 F.disk.size) (.slice po2 F.disk.pages.length pc2) (.slice co2 F.disk.cache.length cc2) (.int .i64 F.disk.left) (.int .i64 F.frm) (.int .i64 F.til) (.int .i64 F.ver) (.slice ro2 F.recs.length rc2) = Wf := ⟨_, rfl⟩
          obtain ⟨zR, zB, zL⟩ := s9.out hN hLF' hWf
          clear c0 l0
          have cX := s9.res.cell
          have lX := s9.res.lt
          have fX := s9.res.free
          have ZB := Lib.hid zB
          have ZL := Lib.hid zL
          have HWf := Lib.hid hWf
          clear zB zL hWf hLF' hbb xb xr hB HC HO s9
          simp only [List.setIfInBounds_toArray, List.set_cons_zero, List.set_cons_succ]
          refine wpAny_take (i := 14) (v := ?_) rfl (by kernel_rfl) (by kernel_rfl) (by kernel_rfl) (fun _ _ _ h => h) (Or.inl ⟨by rfl, ?_⟩) ?_
          rotate_left
          ·
           intro w; go_simp; try with_reducible rfl
          simp only [Act.put, List.setIfInBounds_toArray, List.set_cons_zero, List.set_cons_succ]
          refine wpAny_take (i := 15) (v := ?_) rfl (by kernel_rfl) (by kernel_rfl) (by kernel_rfl) (fun _ _ _ h => h) (Or.inl ⟨by rfl, ?_⟩) ?_
          rotate_left
          ·
           intro w; go_simp; try with_reducible rfl
          simp only [Act.put, List.setIfInBounds_toArray, List.set_cons_zero, List.set_cons_succ]
          refine wpAny_ready (rs := [16]) (by kernel_rfl) (by simp) ?_
          refine AllReady.cons rfl (fun K hK => ?_) AllReady.nil
          go_simp
          refine hK _ _ ?_
          clear hK K
          refine wpAny_ready (rs := [17]) (by kernel_rfl) (by simp) ?_
          refine AllReady.cons rfl (fun K hK => ?_) AllReady.nil
          go_simp
          refine hK _ _ ?_
          clear hK K
          refine wpAny_done (by kernel_rfl) ?_ _
          go_wp2
          have HW := HWf.out
          unfold st8 at HW
          rw [HW]
          have cZ := zR.cell
          refine bodyPost_ret (v := .tuple #[.agg (lgC F.disk po2 co2 pc2 cc2 F.frm F.til F.ver ro2 F.recs.length rc2), .int .i64 er]) (by simp [results, Tryd.results19, go_sem, cZ]) rfl ?_
          rw [HRF.out]
          exact ⟨_, rfl, ZL.out, ZB.out⟩
         ·
          go_simp
          refine hK _ _ ?_
          clear hK K
          simp only [List.setIfInBounds_toArray, List.set_cons_zero, List.set_cons_succ]
          refine wpAny_ready (rs := [5]) (by kernel_rfl) (by simp) ?_
          refine AllReady.cons rfl (fun K hK => ?_) AllReady.nil
          go_simp
          refine (sl_ConcatS wc g _ _ x4 l.recs rs ⟨ro, rc, rfl, Hsl.out, Hst.out.below hB⟩ ⟨qo, qc, rfl, Hqs.out, Hqt.out.below hB⟩ (by have := Hbd.out; omega) hrl).mono ?_
          rintro e wc ⟨vC, rfl, hC, hbb⟩
          refine hK _ _ ?_
          clear hK K
          rw [HL.out] at hC
          obtain ⟨oC, cC, rfl, hCs, hCt⟩ := hC
          have HC : Hid (SlW oC L.length cC ∧ StrsAt (fun k => wS ≤ k ∧ k < wc.heap.size) wc oC L) := Lib.hid ⟨hCs, hCt.mono fun k hk => ⟨Nat.le_trans HwS.out hk.1, hk.2⟩⟩
          have hB := btr hB hbb
          have xb := xb.belowAll hbb
          have xr := xr.belowAll hbb
          have Hto := Lib.hid (Hto.out.below hbb)
          clear c0 l0 hbb x4 hCs hCt
          have c0 := xb.cell
          have l0 := xb.lt
          simp only [List.setIfInBounds_toArray, List.set_cons_zero, List.set_cons_succ]
          refine wpAny_ready (rs := [11]) (by kernel_rfl) (by simp) ?_
          refine AllReady.cons rfl (fun K hK => ?_) AllReady.nil
          go_simp
          rw [show IntKind.i64.wrap ((sz : Int) + (mo : Int)) = ((sz + mo : Nat) : Int) by rw [IntWalk.i64_in _ (by omega)]; omega]
          refine (Hnx.out _ hB).mono ?_
          rintro e wc ⟨bN, rfl, hN2, hbb⟩
          refine hK _ _ ?_
          clear hK K
          have HN := Lib.hid hN2
          have HC : Hid (SlW oC L.length cC ∧ StrsAt (fun k => wS ≤ k ∧ k < wc.heap.size) wc oC L) := Lib.hid ⟨HC.out.1, (HC.out.2.below hbb).mono fun k hk => ⟨hk.1, Nat.lt_of_lt_of_le hk.2 hbb.size⟩⟩
          have hB := btr hB hbb
          have xb := xb.belowAll hbb
          have xr := xr.belowAll hbb
          have Hto := Lib.hid (Hto.out.below hbb)
          clear c0 l0 hbb hN2
          have c0 := xb.cell
          have l0 := xb.lt
          simp only [List.setIfInBounds_toArray, List.set_cons_zero, List.set_cons_succ]
          refine wpAny_ready (rs := [12]) (by kernel_rfl) (by simp) ?_
          refine AllReady.cons rfl (fun K hK => ?_) AllReady.nil
          obtain ⟨us, hus, hul⟩ := HN.out.row
          obtain ⟨vs, hv1, hv2⟩ := Hto.out
          have hul1 : us.length = 2 := hul.1
          have hone : ∀ u ∈ us, u.oneCell' = true := by
           intro u hu
           obtain ⟨j, hj, rfl⟩ := List.getElem_of_mem hu
           have hj2 : j < 2 := by omega
           have hop := hul.2 j hj2 hj
           rcases j with _ | _ | j
           ·
            obtain ⟨bi, bd, e, _⟩ := hop
            rw [e]; rfl
           ·
            have e : us[1] = .func (.func 42) #[] #[] := hop
            rw [e]; rfl
           ·
            omega
          have hzc := hB.size
          refine wp_app (.tmp 55) (.tmp 60) 90 rfl w.heap.size 99 io _ 1 8 Tryd.underlying90 Hio.out.1 Hio.out.2.1 Hio.out.2.2.1 Hio.out.2.2.2 rfl (by decide) vT opT.length vs rfl hv1 (some ⟨bN, 0, none⟩) 2 2 us rfl (fun h => by cases h) (by omega) hus hone (by unfold maxLen; omega) (by omega) hzc ?_
          intro vF wc ho7 hg7
          refine hK _ _ ?_
          clear hK K
          have hul7 : OpL wc (vs ++ us) (opT ++ nextL l (sz + mo)) := (OpL.app hv2 hul).grown hv1 hg7
          rw [HopF.out] at hul7
          rw [← HopFl.out] at ho7
          have xb := xb.grown hg7 (fun e => ownsRow_ne_bx hv1 xb (by decide) e.symm)
          have xr := xr.grown hg7 (fun e => ownsRow_ne_bx hv1 xr (by decide) e.symm)
          have hB := hB.grown hg7 hzc (fun b e => (hv1.lt b e).1)
          obtain ⟨oF, cF, rfl, _, hrow, _⟩ := ownsRow_at ho7
          have HO := Lib.hid (OpsAt.of hrow hul7)
          have HC : Hid (SlW oC L.length cC ∧ StrsAt (fun k => wS ≤ k ∧ k < wc.heap.size) wc oC L) := Lib.hid ⟨HC.out.1, (HC.out.2.same (w' := wc) (fun k hk => hg7.block k hk.2 (fun e => by have := HloT.out k e.symm; have := hk.1; omega))).mono fun k hk => ⟨hk.1, Nat.lt_of_lt_of_le hk.2 hg7.size⟩⟩
          clear c0 l0 HN hus hul hv1 hv2 hone hul1 ho7 hg7 hul7 hrow
          have c0 := xb.cell
          have l0 := xb.lt
          simp only [Act.put, List.setIfInBounds_toArray, List.set_cons_zero, List.set_cons_succ]
          refine wpAny_ready (rs := [13]) (by kernel_rfl) (by simp) ?_
          refine AllReady.cons rfl (fun K hK => ?_) AllReady.nil
          go_simp
          have hfc := pl_finish l _ L oC cC opF oF cF wc (Hl0.out.below hB) HC.out.1 (HC.out.2.mono fun k hk => hk.2) HO.out (by have := HopFl.out; omega) (by have := Hver.out; omega) (by have := Hver.out; omega)
          rw [HF.out] at hfc
          refine hfc.mono ?_
          rintro e wd ⟨vF, rfl, hLF, hbb⟩
          refine hK _ _ ?_
          clear hK K hfc
          have hLF' := hLF
          obtain ⟨po2, pc2, co2, cc2, ro2, rc2, rfl, _, _, _⟩ := hLF
          have s9 : LgS w N l po co ro pc cc rc wd := ⟨xb.belowAll hbb, xr.belowAll hbb, btr hB hbb, Hl0.out.below (btr hB hbb)⟩
          obtain ⟨Wf, hWf⟩ : ∃ Wf, st8 wd (N + 1) (.int .i64 F.disk.size) (.slice po2 F.disk.pages.length pc2) (.slice co2 F.disk.cache.length cc2) (.int .i64 F.disk.left) (.int .i64 F.frm) (.int .i64 F.til) (.int .i64 F.ver) (.slice ro2 F.recs.length rc2) = Wf := ⟨_, rfl⟩
          obtain ⟨zR, zB, zL⟩ := s9.out hN hLF' hWf
          clear c0 l0
          have cX := s9.res.cell
          have lX := s9.res.lt
          have fX := s9.res.free
          have ZB := Lib.hid zB
          have ZL := Lib.hid zL
          have HWf := Lib.hid hWf
          clear zB zL hWf hLF' hbb xb xr hB HC HO s9
          simp only [List.setIfInBounds_toArray, List.set_cons_zero, List.set_cons_succ]
          refine wpAny_take (i := 14) (v := ?_) rfl (by kernel_rfl) (by kernel_rfl) (by kernel_rfl) (fun _ _ _ h => h) (Or.inl ⟨by rfl, ?_⟩) ?_
          rotate_left
          ·
           intro w; go_simp; try with_reducible rfl
          simp only [Act.put, List.setIfInBounds_toArray, List.set_cons_zero, List.set_cons_succ]
          refine wpAny_take (i := 15) (v := ?_) rfl (by kernel_rfl) (by kernel_rfl) (by kernel_rfl) (fun _ _ _ h => h) (Or.inl ⟨by rfl, ?_⟩) ?_
          rotate_left
          ·
           intro w; go_simp; try with_reducible rfl
          simp only [Act.put, List.setIfInBounds_toArray, List.set_cons_zero, List.set_cons_succ]
          refine wpAny_ready (rs := [16]) (by kernel_rfl) (by simp) ?_
          refine AllReady.cons rfl (fun K hK => ?_) AllReady.nil
          go_simp
          refine hK _ _ ?_
          clear hK K
          refine wpAny_ready (rs := [17]) (by kernel_rfl) (by simp) ?_
          refine AllReady.cons rfl (fun K hK => ?_) AllReady.nil
          go_simp
          refine hK _ _ ?_
          clear hK K
          refine wpAny_done (by kernel_rfl) ?_ _
          go_wp2
          have HW := HWf.out
          unfold st8 at HW
          rw [HW]
          have cZ := zR.cell
          refine bodyPost_ret (v := .tuple #[.agg (lgC F.disk po2 co2 pc2 cc2 F.frm F.til F.ver ro2 F.recs.length rc2), .int .i64 er]) (by simp [results, Tryd.results19, go_sem, cZ]) rfl ?_
          rw [HRF.out]
          exact ⟨_, rfl, ZL.out, ZB.out⟩
        ·
         go_simp
         refine hK _ _ ?_
         clear hK K
         simp only [List.setIfInBounds_toArray, List.set_cons_zero, List.set_cons_succ]
         refine wpAny_ready (rs := [4]) (by kernel_rfl) (by simp) ?_
         refine AllReady.cons rfl (fun K hK => ?_) AllReady.nil
         go_simp
         refine hK _ _ ?_
         clear hK K
         have x4 := Bx.new wc #[.slice ro l.recs.length rc, .slice qo rs.length qc] 27
         have hbb := Below.one wc (.cells #[.slice ro l.recs.length rc, .slice qo rs.length qc] 27)
         obtain ⟨g, hg⟩ : ∃ g, wc.heap.size = g := ⟨_, rfl⟩
         rw [hg] at x4
         obtain ⟨wc, hwc⟩ : ∃ W', wc.alloc (.cells #[.slice ro l.recs.length rc, .slice qo rs.length qc] 27) = W' := ⟨_, rfl⟩
         rw [hwc] at x4 hbb
         rw [hwc, hg]
         clear hwc
         have hB := btr hB hbb
         have xb := xb.belowAll hbb
         have xr := xr.belowAll hbb
         have Hto := Lib.hid (Hto.out.below hbb)
         have HwS : Hid (wS ≤ wc.heap.size) := Lib.hid (Nat.le_trans HwS.out hbb.size)
         clear c0 l0 hbb hg
         have c0 := xb.cell
         have l0 := xb.lt
         simp only [List.setIfInBounds_toArray, List.set_cons_zero, List.set_cons_succ]
         refine wpAny_ready (rs := [5]) (by kernel_rfl) (by simp) ?_
         refine AllReady.cons rfl (fun K hK => ?_) AllReady.nil
         go_simp
         refine (sl_ConcatS wc g _ _ x4 l.recs rs ⟨ro, rc, rfl, Hsl.out, Hst.out.below hB⟩ ⟨qo, qc, rfl, Hqs.out, Hqt.out.below hB⟩ (by have := Hbd.out; omega) hrl).mono ?_
         rintro e wc ⟨vC, rfl, hC, hbb⟩
         refine hK _ _ ?_
         clear hK K
         rw [HL.out] at hC
         obtain ⟨oC, cC, rfl, hCs, hCt⟩ := hC
         have HC : Hid (SlW oC L.length cC ∧ StrsAt (fun k => wS ≤ k ∧ k < wc.heap.size) wc oC L) := Lib.hid ⟨hCs, hCt.mono fun k hk => ⟨Nat.le_trans HwS.out hk.1, hk.2⟩⟩
         have hB := btr hB hbb
         have xb := xb.belowAll hbb
         have xr := xr.belowAll hbb
         have Hto := Lib.hid (Hto.out.below hbb)
         clear c0 l0 hbb x4 hCs hCt
         have c0 := xb.cell
         have l0 := xb.lt
         simp only [List.setIfInBounds_toArray, List.set_cons_zero, List.set_cons_succ]
         refine wpAny_ready (rs := [11]) (by kernel_rfl) (by simp) ?_
         refine AllReady.cons rfl (fun K hK => ?_) AllReady.nil
         go_simp
         rw [show IntKind.i64.wrap ((sz : Int) + (mo : Int)) = ((sz + mo : Nat) : Int) by rw [IntWalk.i64_in _ (by omega)]; omega]
         refine (Hnx.out _ hB).mono ?_
         rintro e wc ⟨bN, rfl, hN2, hbb⟩
         refine hK _ _ ?_
         clear hK K
         have HN := Lib.hid hN2
         have HC : Hid (SlW oC L.length cC ∧ StrsAt (fun k => wS ≤ k ∧ k < wc.heap.size) wc oC L) := Lib.hid ⟨HC.out.1, (HC.out.2.below hbb).mono fun k hk => ⟨hk.1, Nat.lt_of_lt_of_le hk.2 hbb.size⟩⟩
         have hB := btr hB hbb
         have xb := xb.belowAll hbb
         have xr := xr.belowAll hbb
         have Hto := Lib.hid (Hto.out.below hbb)
         clear c0 l0 hbb hN2
         have c0 := xb.cell
         have l0 := xb.lt
         simp only [List.setIfInBounds_toArray, List.set_cons_zero, List.set_cons_succ]
         refine wpAny_ready (rs := [12]) (by kernel_rfl) (by simp) ?_
         refine AllReady.cons rfl (fun K hK => ?_) AllReady.nil
         obtain ⟨us, hus, hul⟩ := HN.out.row
         obtain ⟨vs, hv1, hv2⟩ := Hto.out
         have hul1 : us.length = 2 := hul.1
         have hone : ∀ u ∈ us, u.oneCell' = true := by
          intro u hu
          obtain ⟨j, hj, rfl⟩ := List.getElem_of_mem hu
          have hj2 : j < 2 := by omega
          have hop := hul.2 j hj2 hj
          rcases j with _ | _ | j
          ·
           obtain ⟨bi, bd, e, _⟩ := hop
           rw [e]; rfl
          ·
           have e : us[1] = .func (.func 42) #[] #[] := hop
           rw [e]; rfl
          ·
           omega
         have hzc := hB.size
         refine wp_app (.tmp 55) (.tmp 60) 90 rfl w.heap.size 99 io _ 1 8 Tryd.underlying90 Hio.out.1 Hio.out.2.1 Hio.out.2.2.1 Hio.out.2.2.2 rfl (by decide) vT opT.length vs rfl hv1 (some ⟨bN, 0, none⟩) 2 2 us rfl (fun h => by cases h) (by omega) hus hone (by unfold maxLen; omega) (by omega) hzc ?_
         intro vF wc ho7 hg7
         refine hK _ _ ?_
         clear hK K
         have hul7 : OpL wc (vs ++ us) (opT ++ nextL l (sz + mo)) := (OpL.app hv2 hul).grown hv1 hg7
         rw [HopF.out] at hul7
         rw [← HopFl.out] at ho7
         have xb := xb.grown hg7 (fun e => ownsRow_ne_bx hv1 xb (by decide) e.symm)
         have xr := xr.grown hg7 (fun e => ownsRow_ne_bx hv1 xr (by decide) e.symm)
         have hB := hB.grown hg7 hzc (fun b e => (hv1.lt b e).1)
         obtain ⟨oF, cF, rfl, _, hrow, _⟩ := ownsRow_at ho7
         have HO := Lib.hid (OpsAt.of hrow hul7)
         have HC : Hid (SlW oC L.length cC ∧ StrsAt (fun k => wS ≤ k ∧ k < wc.heap.size) wc oC L) := Lib.hid ⟨HC.out.1, (HC.out.2.same (w' := wc) (fun k hk => hg7.block k hk.2 (fun e => by have := HloT.out k e.symm; have := hk.1; omega))).mono fun k hk => ⟨hk.1, Nat.lt_of_lt_of_le hk.2 hg7.size⟩⟩
         clear c0 l0 HN hus hul hv1 hv2 hone hul1 ho7 hg7 hul7 hrow
         have c0 := xb.cell
         have l0 := xb.lt
         simp only [Act.put, List.setIfInBounds_toArray, List.set_cons_zero, List.set_cons_succ]
         refine wpAny_ready (rs := [13]) (by kernel_rfl) (by simp) ?_
         refine AllReady.cons rfl (fun K hK => ?_) AllReady.nil
         go_simp
         have hfc := pl_finish l _ L oC cC opF oF cF wc (Hl0.out.below hB) HC.out.1 (HC.out.2.mono fun k hk => hk.2) HO.out (by have := HopFl.out; omega) (by have := Hver.out; omega) (by have := Hver.out; omega)
         rw [HF.out] at hfc
         refine hfc.mono ?_
         rintro e wd ⟨vF, rfl, hLF, hbb⟩
         refine hK _ _ ?_
         clear hK K hfc
         have hLF' := hLF
         obtain ⟨po2, pc2, co2, cc2, ro2, rc2, rfl, _, _, _⟩ := hLF
         have s9 : LgS w N l po co ro pc cc rc wd := ⟨xb.belowAll hbb, xr.belowAll hbb, btr hB hbb, Hl0.out.below (btr hB hbb)⟩
         obtain ⟨Wf, hWf⟩ : ∃ Wf, st8 wd (N + 1) (.int .i64 F.disk.size) (.slice po2 F.disk.pages.length pc2) (.slice co2 F.disk.cache.length cc2) (.int .i64 F.disk.left) (.int .i64 F.frm) (.int .i64 F.til) (.int .i64 F.ver) (.slice ro2 F.recs.length rc2) = Wf := ⟨_, rfl⟩
         obtain ⟨zR, zB, zL⟩ := s9.out hN hLF' hWf
         clear c0 l0
         have cX := s9.res.cell
         have lX := s9.res.lt
         have fX := s9.res.free
         have ZB := Lib.hid zB
         have ZL := Lib.hid zL
         have HWf := Lib.hid hWf
         clear zB zL hWf hLF' hbb xb xr hB HC HO s9
         simp only [List.setIfInBounds_toArray, List.set_cons_zero, List.set_cons_succ]
         refine wpAny_take (i := 14) (v := ?_) rfl (by kernel_rfl) (by kernel_rfl) (by kernel_rfl) (fun _ _ _ h => h) (Or.inl ⟨by rfl, ?_⟩) ?_
         rotate_left
         ·
          intro w; go_simp; try with_reducible rfl
         simp only [Act.put, List.setIfInBounds_toArray, List.set_cons_zero, List.set_cons_succ]
         refine wpAny_take (i := 15) (v := ?_) rfl (by kernel_rfl) (by kernel_rfl) (by kernel_rfl) (fun _ _ _ h => h) (Or.inl ⟨by rfl, ?_⟩) ?_
         rotate_left
         ·
          intro w; go_simp; try with_reducible rfl
         simp only [Act.put, List.setIfInBounds_toArray, List.set_cons_zero, List.set_cons_succ]
         refine wpAny_ready (rs := [16]) (by kernel_rfl) (by simp) ?_
         refine AllReady.cons rfl (fun K hK => ?_) AllReady.nil
         go_simp
         refine hK _ _ ?_
         clear hK K
         refine wpAny_ready (rs := [17]) (by kernel_rfl) (by simp) ?_
         refine AllReady.cons rfl (fun K hK => ?_) AllReady.nil
         go_simp
         refine hK _ _ ?_
         clear hK K
         refine wpAny_done (by kernel_rfl) ?_ _
         go_wp2
         have HW := HWf.out
         unfold st8 at HW
         rw [HW]
         have cZ := zR.cell
         refine bodyPost_ret (v := .tuple #[.agg (lgC F.disk po2 co2 pc2 cc2 F.frm F.til F.ver ro2 F.recs.length rc2), .int .i64 er]) (by simp [results, Tryd.results19, go_sem, cZ]) rfl ?_
         rw [HRF.out]
         exact ⟨_, rfl, ZL.out, ZB.out⟩
       ·
        go_simp
        refine hK _ _ ?_
        clear hK K
        simp only [List.setIfInBounds_toArray, List.set_cons_zero, List.set_cons_succ]
        refine wpAny_ready (rs := [2]) (by kernel_rfl) (by simp) ?_
        refine AllReady.cons rfl (fun K hK => ?_) AllReady.nil
        go_simp
        refine hK _ _ ?_
        clear hK K
        simp only [List.setIfInBounds_toArray, List.set_cons_zero, List.set_cons_succ]
        refine wpAny_ready (rs := [4]) (by kernel_rfl) (by simp) ?_
        refine AllReady.cons rfl (fun K hK => ?_) AllReady.nil
        go_simp
        refine hK _ _ ?_
        clear hK K
        have x4 := Bx.new wc #[.slice ro l.recs.length rc, .slice qo rs.length qc] 27
        have hbb := Below.one wc (.cells #[.slice ro l.recs.length rc, .slice qo rs.length qc] 27)
        obtain ⟨g, hg⟩ : ∃ g, wc.heap.size = g := ⟨_, rfl⟩
        rw [hg] at x4
        obtain ⟨wc, hwc⟩ : ∃ W', wc.alloc (.cells #[.slice ro l.recs.length rc, .slice qo rs.length qc] 27) = W' := ⟨_, rfl⟩
        rw [hwc] at x4 hbb
        rw [hwc, hg]
        clear hwc
        have hB := btr hB hbb
        have xb := xb.belowAll hbb
        have xr := xr.belowAll hbb
        have Hto := Lib.hid (Hto.out.below hbb)
        have HwS : Hid (wS ≤ wc.heap.size) := Lib.hid (Nat.le_trans HwS.out hbb.size)
        clear c0 l0 hbb hg
        have c0 := xb.cell
        have l0 := xb.lt
        simp only [List.setIfInBounds_toArray, List.set_cons_zero, List.set_cons_succ]
        refine wpAny_ready (rs := [5]) (by kernel_rfl) (by simp) ?_
        refine AllReady.cons rfl (fun K hK => ?_) AllReady.nil
        go_simp
        refine (sl_ConcatS wc g _ _ x4 l.recs rs ⟨ro, rc, rfl, Hsl.out, Hst.out.below hB⟩ ⟨qo, qc, rfl, Hqs.out, Hqt.out.below hB⟩ (by have := Hbd.out; omega) hrl).mono ?_
        rintro e wc ⟨vC, rfl, hC, hbb⟩
        refine hK _ _ ?_
        clear hK K
        rw [HL.out] at hC
        obtain ⟨oC, cC, rfl, hCs, hCt⟩ := hC
        have HC : Hid (SlW oC L.length cC ∧ StrsAt (fun k => wS ≤ k ∧ k < wc.heap.size) wc oC L) := Lib.hid ⟨hCs, hCt.mono fun k hk => ⟨Nat.le_trans HwS.out hk.1, hk.2⟩⟩
        have hB := btr hB hbb
        have xb := xb.belowAll hbb
        have xr := xr.belowAll hbb
        have Hto := Lib.hid (Hto.out.below hbb)
        clear c0 l0 hbb x4 hCs hCt
        have c0 := xb.cell
        have l0 := xb.lt
        simp only [List.setIfInBounds_toArray, List.set_cons_zero, List.set_cons_succ]
        refine wpAny_ready (rs := [11]) (by kernel_rfl) (by simp) ?_
        refine AllReady.cons rfl (fun K hK => ?_) AllReady.nil
        go_simp
        rw [show IntKind.i64.wrap ((sz : Int) + (mo : Int)) = ((sz + mo : Nat) : Int) by rw [IntWalk.i64_in _ (by omega)]; omega]
        refine (Hnx.out _ hB).mono ?_
        rintro e wc ⟨bN, rfl, hN2, hbb⟩
        refine hK _ _ ?_
        clear hK K
        have HN := Lib.hid hN2
        have HC : Hid (SlW oC L.length cC ∧ StrsAt (fun k => wS ≤ k ∧ k < wc.heap.size) wc oC L) := Lib.hid ⟨HC.out.1, (HC.out.2.below hbb).mono fun k hk => ⟨hk.1, Nat.lt_of_lt_of_le hk.2 hbb.size⟩⟩
        have hB := btr hB hbb
        have xb := xb.belowAll hbb
        have xr := xr.belowAll hbb
        have Hto := Lib.hid (Hto.out.below hbb)
        clear c0 l0 hbb hN2
        have c0 := xb.cell
        have l0 := xb.lt
        simp only [List.setIfInBounds_toArray, List.set_cons_zero, List.set_cons_succ]
        refine wpAny_ready (rs := [12]) (by kernel_rfl) (by simp) ?_
        refine AllReady.cons rfl (fun K hK => ?_) AllReady.nil
        obtain ⟨us, hus, hul⟩ := HN.out.row
        obtain ⟨vs, hv1, hv2⟩ := Hto.out
        have hul1 : us.length = 2 := hul.1
        have hone : ∀ u ∈ us, u.oneCell' = true := by
         intro u hu
         obtain ⟨j, hj, rfl⟩ := List.getElem_of_mem hu
         have hj2 : j < 2 := by omega
         have hop := hul.2 j hj2 hj
         rcases j with _ | _ | j
         ·
          obtain ⟨bi, bd, e, _⟩ := hop
          rw [e]; rfl
         ·
          have e : us[1] = .func (.func 42) #[] #[] := hop
          rw [e]; rfl
         ·
          omega
        have hzc := hB.size
        refine wp_app (.tmp 55) (.tmp 60) 90 rfl w.heap.size 99 io _ 1 8 Tryd.underlying90 Hio.out.1 Hio.out.2.1 Hio.out.2.2.1 Hio.out.2.2.2 rfl (by decide) vT opT.length vs rfl hv1 (some ⟨bN, 0, none⟩) 2 2 us rfl (fun h => by cases h) (by omega) hus hone (by unfold maxLen; omega) (by omega) hzc ?_
        intro vF wc ho7 hg7
        refine hK _ _ ?_
        clear hK K
        have hul7 : OpL wc (vs ++ us) (opT ++ nextL l (sz + mo)) := (OpL.app hv2 hul).grown hv1 hg7
        rw [HopF.out] at hul7
        rw [← HopFl.out] at ho7
        have xb := xb.grown hg7 (fun e => ownsRow_ne_bx hv1 xb (by decide) e.symm)
        have xr := xr.grown hg7 (fun e => ownsRow_ne_bx hv1 xr (by decide) e.symm)
        have hB := hB.grown hg7 hzc (fun b e => (hv1.lt b e).1)
        obtain ⟨oF, cF, rfl, _, hrow, _⟩ := ownsRow_at ho7
        have HO := Lib.hid (OpsAt.of hrow hul7)
        have HC : Hid (SlW oC L.length cC ∧ StrsAt (fun k => wS ≤ k ∧ k < wc.heap.size) wc oC L) := Lib.hid ⟨HC.out.1, (HC.out.2.same (w' := wc) (fun k hk => hg7.block k hk.2 (fun e => by have := HloT.out k e.symm; have := hk.1; omega))).mono fun k hk => ⟨hk.1, Nat.lt_of_lt_of_le hk.2 hg7.size⟩⟩
        clear c0 l0 HN hus hul hv1 hv2 hone hul1 ho7 hg7 hul7 hrow
        have c0 := xb.cell
        have l0 := xb.lt
        simp only [Act.put, List.setIfInBounds_toArray, List.set_cons_zero, List.set_cons_succ]
        refine wpAny_ready (rs := [13]) (by kernel_rfl) (by simp) ?_
        refine AllReady.cons rfl (fun K hK => ?_) AllReady.nil
        go_simp
        have hfc := pl_finish l _ L oC cC opF oF cF wc (Hl0.out.below hB) HC.out.1 (HC.out.2.mono fun k hk => hk.2) HO.out (by have := HopFl.out; omega) (by have := Hver.out; omega) (by have := Hver.out; omega)
        rw [HF.out] at hfc
        refine hfc.mono ?_
        rintro e wd ⟨vF, rfl, hLF, hbb⟩
        refine hK _ _ ?_
        clear hK K hfc
        have hLF' := hLF
        obtain ⟨po2, pc2, co2, cc2, ro2, rc2, rfl, _, _, _⟩ := hLF
        have s9 : LgS w N l po co ro pc cc rc wd := ⟨xb.belowAll hbb, xr.belowAll hbb, btr hB hbb, Hl0.out.below (btr hB hbb)⟩
        obtain ⟨Wf, hWf⟩ : ∃ Wf, st8 wd (N + 1) (.int .i64 F.disk.size) (.slice po2 F.disk.pages.length pc2) (.slice co2 F.disk.cache.length cc2) (.int .i64 F.disk.left) (.int .i64 F.frm) (.int .i64 F.til) (.int .i64 F.ver) (.slice ro2 F.recs.length rc2) = Wf := ⟨_, rfl⟩
        obtain ⟨zR, zB, zL⟩ := s9.out hN hLF' hWf
        clear c0 l0
        have cX := s9.res.cell
        have lX := s9.res.lt
        have fX := s9.res.free
        have ZB := Lib.hid zB
        have ZL := Lib.hid zL
        have HWf := Lib.hid hWf
        clear zB zL hWf hLF' hbb xb xr hB HC HO s9
        simp only [List.setIfInBounds_toArray, List.set_cons_zero, List.set_cons_succ]
        refine wpAny_take (i := 14) (v := ?_) rfl (by kernel_rfl) (by kernel_rfl) (by kernel_rfl) (fun _ _ _ h => h) (Or.inl ⟨by rfl, ?_⟩) ?_
        rotate_left
        ·
         intro w; go_simp; try with_reducible rfl
        simp only [Act.put, List.setIfInBounds_toArray, List.set_cons_zero, List.set_cons_succ]
        refine wpAny_take (i := 15) (v := ?_) rfl (by kernel_rfl) (by kernel_rfl) (by kernel_rfl) (fun _ _ _ h => h) (Or.inl ⟨by rfl, ?_⟩) ?_
        rotate_left
        ·
         intro w; go_simp; try with_reducible rfl
        simp only [Act.put, List.setIfInBounds_toArray, List.set_cons_zero, List.set_cons_succ]
        refine wpAny_ready (rs := [16]) (by kernel_rfl) (by simp) ?_
        refine AllReady.cons rfl (fun K hK => ?_) AllReady.nil
        go_simp
        refine hK _ _ ?_
        clear hK K
        refine wpAny_ready (rs := [17]) (by kernel_rfl) (by simp) ?_
        refine AllReady.cons rfl (fun K hK => ?_) AllReady.nil
        go_simp
        refine hK _ _ ?_
        clear hK K
        refine wpAny_done (by kernel_rfl) ?_ _
        go_wp2
        have HW := HWf.out
        unfold st8 at HW
        rw [HW]
        have cZ := zR.cell
        refine bodyPost_ret (v := .tuple #[.agg (lgC F.disk po2 co2 pc2 cc2 F.frm F.til F.ver ro2 F.recs.length rc2), .int .i64 er]) (by simp [results, Tryd.results19, go_sem, cZ]) rfl ?_
        rw [HRF.out]
        exact ⟨_, rfl, ZL.out, ZB.out⟩
      ·
       go_simp
       refine hK _ _ ?_
       clear hK K
       simp only [List.setIfInBounds_toArray, List.set_cons_zero, List.set_cons_succ]
       refine wpAny_ready (rs := [0, 4, 7]) (by kernel_rfl) (by simp) ?_
       refine AllReady.cons rfl (fun K hK => ?_) (AllReady.cons rfl (fun K hK => ?_) (AllReady.cons rfl (fun K hK => ?_) AllReady.nil))
       ·
        go_simp
        refine hK _ _ ?_
        clear hK K
        simp only [List.setIfInBounds_toArray, List.set_cons_zero]
        refine wpAny_ready (rs := [4, 7]) (by kernel_rfl) (by simp) ?_
        refine AllReady.cons rfl (fun K hK => ?_) (AllReady.cons rfl (fun K hK => ?_) AllReady.nil)
        ·
         go_simp
         refine hK _ _ ?_
         clear hK K
         have x4 := Bx.new wc #[.slice ro l.recs.length rc, .slice qo rs.length qc] 27
         have hbb := Below.one wc (.cells #[.slice ro l.recs.length rc, .slice qo rs.length qc] 27)
         obtain ⟨g, hg⟩ : ∃ g, wc.heap.size = g := ⟨_, rfl⟩
         rw [hg] at x4
         obtain ⟨wc, hwc⟩ : ∃ W', wc.alloc (.cells #[.slice ro l.recs.length rc, .slice qo rs.length qc] 27) = W' := ⟨_, rfl⟩
         rw [hwc] at x4 hbb
         rw [hwc, hg]
         clear hwc
         have hB := btr hB hbb
         have xb := xb.belowAll hbb
         have xr := xr.belowAll hbb
         have Hto := Lib.hid (Hto.out.below hbb)
         have HwS : Hid (wS ≤ wc.heap.size) := Lib.hid (Nat.le_trans HwS.out hbb.size)
         clear c0 l0 hbb hg
         have c0 := xb.cell
         have l0 := xb.lt
         simp only [List.setIfInBounds_toArray, List.set_cons_zero, List.set_cons_succ]
         refine wpAny_ready (rs := [5, 7]) (by kernel_rfl) (by simp) ?_
         refine AllReady.cons rfl (fun K hK => ?_) (AllReady.cons rfl (fun K hK => ?_) AllReady.nil)
         ·
          go_simp
          refine (sl_ConcatS wc g _ _ x4 l.recs rs ⟨ro, rc, rfl, Hsl.out, Hst.out.below hB⟩ ⟨qo, qc, rfl, Hqs.out, Hqt.out.below hB⟩ (by have := Hbd.out; omega) hrl).mono ?_
          rintro e wc ⟨vC, rfl, hC, hbb⟩
          refine hK _ _ ?_
          clear hK K
          rw [HL.out] at hC
          obtain ⟨oC, cC, rfl, hCs, hCt⟩ := hC
          have HC : Hid (SlW oC L.length cC ∧ StrsAt (fun k => wS ≤ k ∧ k < wc.heap.size) wc oC L) := Lib.hid ⟨hCs, hCt.mono fun k hk => ⟨Nat.le_trans HwS.out hk.1, hk.2⟩⟩
          have hB := btr hB hbb
          have xb := xb.belowAll hbb
          have xr := xr.belowAll hbb
          have Hto := Lib.hid (Hto.out.below hbb)
          clear c0 l0 hbb x4 hCs hCt
          have c0 := xb.cell
          have l0 := xb.lt
          simp only [List.setIfInBounds_toArray, List.set_cons_zero, List.set_cons_succ]
          refine wpAny_ready (rs := [7]) (by kernel_rfl) (by simp) ?_
          refine AllReady.cons rfl (fun K hK => ?_) AllReady.nil
          go_simp
          refine hK _ _ ?_
          clear hK K
          simp only [List.setIfInBounds_toArray, List.set_cons_zero, List.set_cons_succ]
          refine wpAny_ready (rs := [11]) (by kernel_rfl) (by simp) ?_
          refine AllReady.cons rfl (fun K hK => ?_) AllReady.nil
          go_simp
          rw [show IntKind.i64.wrap ((sz : Int) + (mo : Int)) = ((sz + mo : Nat) : Int) by rw [IntWalk.i64_in _ (by omega)]; omega]
          refine (Hnx.out _ hB).mono ?_
          rintro e wc ⟨bN, rfl, hN2, hbb⟩
          refine hK _ _ ?_
          clear hK K
          have HN := Lib.hid hN2
          have HC : Hid (SlW oC L.length cC ∧ StrsAt (fun k => wS ≤ k ∧ k < wc.heap.size) wc oC L) := Lib.hid ⟨HC.out.1, (HC.out.2.below hbb).mono fun k hk => ⟨hk.1, Nat.lt_of_lt_of_le hk.2 hbb.size⟩⟩
          have hB := btr hB hbb
          have xb := xb.belowAll hbb
          have xr := xr.belowAll hbb
          have Hto := Lib.hid (Hto.out.below hbb)
          clear c0 l0 hbb hN2
          have c0 := xb.cell
          have l0 := xb.lt
          simp only [List.setIfInBounds_toArray, List.set_cons_zero, List.set_cons_succ]
          refine wpAny_ready (rs := [12]) (by kernel_rfl) (by simp) ?_
          refine AllReady.cons rfl (fun K hK => ?_) AllReady.nil
          obtain ⟨us, hus, hul⟩ := HN.out.row
          obtain ⟨vs, hv1, hv2⟩ := Hto.out
          have hul1 : us.length = 2 := hul.1
          have hone : ∀ u ∈ us, u.oneCell' = true := by
           intro u hu
           obtain ⟨j, hj, rfl⟩ := List.getElem_of_mem hu
           have hj2 : j < 2 := by omega
           have hop := hul.2 j hj2 hj
           rcases j with _ | _ | j
           ·
            obtain ⟨bi, bd, e, _⟩ := hop
            rw [e]; rfl
           ·
            have e : us[1] = .func (.func 42) #[] #[] := hop
            rw [e]; rfl
           ·
            omega
          have hzc := hB.size
          refine wp_app (.tmp 55) (.tmp 60) 90 rfl w.heap.size 99 io _ 1 8 Tryd.underlying90 Hio.out.1 Hio.out.2.1 Hio.out.2.2.1 Hio.out.2.2.2 rfl (by decide) vT opT.length vs rfl hv1 (some ⟨bN, 0, none⟩) 2 2 us rfl (fun h => by cases h) (by omega) hus hone (by unfold maxLen; omega) (by omega) hzc ?_
          intro vF wc ho7 hg7
          refine hK _ _ ?_
          clear hK K
          have hul7 : OpL wc (vs ++ us) (opT ++ nextL l (sz + mo)) := (OpL.app hv2 hul).grown hv1 hg7
          rw [HopF.out] at hul7
          rw [← HopFl.out] at ho7
          have xb := xb.grown hg7 (fun e => ownsRow_ne_bx hv1 xb (by decide) e.symm)
          have xr := xr.grown hg7 (fun e => ownsRow_ne_bx hv1 xr (by decide) e.symm)
          have hB := hB.grown hg7 hzc (fun b e => (hv1.lt b e).1)
          obtain ⟨oF, cF, rfl, _, hrow, _⟩ := ownsRow_at ho7
          have HO := Lib.hid (OpsAt.of hrow hul7)
          have HC : Hid (SlW oC L.length cC ∧ StrsAt (fun k => wS ≤ k ∧ k < wc.heap.size) wc oC L) := Lib.hid ⟨HC.out.1, (HC.out.2.same (w' := wc) (fun k hk => hg7.block k hk.2 (fun e => by have := HloT.out k e.symm; have := hk.1; omega))).mono fun k hk => ⟨hk.1, Nat.lt_of_lt_of_le hk.2 hg7.size⟩⟩
          clear c0 l0 HN hus hul hv1 hv2 hone hul1 ho7 hg7 hul7 hrow
          have c0 := xb.cell
          have l0 := xb.lt
          simp only [Act.put, List.setIfInBounds_toArray, List.set_cons_zero, List.set_cons_succ]
          refine wpAny_ready (rs := [13]) (by kernel_rfl) (by simp) ?_
          refine AllReady.cons rfl (fun K hK => ?_) AllReady.nil
          go_simp
          have hfc := pl_finish l _ L oC cC opF oF cF wc (Hl0.out.below hB) HC.out.1 (HC.out.2.mono fun k hk => hk.2) HO.out (by have := HopFl.out; omega) (by have := Hver.out; omega) (by have := Hver.out; omega)
          rw [HF.out] at hfc
          refine hfc.mono ?_
          rintro e wd ⟨vF, rfl, hLF, hbb⟩
          refine hK _ _ ?_
          clear hK K hfc
          have hLF' := hLF
          obtain ⟨po2, pc2, co2, cc2, ro2, rc2, rfl, _, _, _⟩ := hLF
          have s9 : LgS w N l po co ro pc cc rc wd := ⟨xb.belowAll hbb, xr.belowAll hbb, btr hB hbb, Hl0.out.below (btr hB hbb)⟩
          obtain ⟨Wf, hWf⟩ : ∃ Wf, st8 wd (N + 1) (.int .i64 F.disk.size) (.slice po2 F.disk.pages.length pc2) (.slice co2 F.disk.cache.length cc2) (.int .i64 F.disk.left) (.int .i64 F.frm) (.int .i64 F.til) (.int .i64 F.ver) (.slice ro2 F.recs.length rc2) = Wf := ⟨_, rfl⟩
          obtain ⟨zR, zB, zL⟩ := s9.out hN hLF' hWf
          clear c0 l0
          have cX := s9.res.cell
          have lX := s9.res.lt
          have fX := s9.res.free
          have ZB := Lib.hid zB
          have ZL := Lib.hid zL
          have HWf := Lib.hid hWf
          clear zB zL hWf hLF' hbb xb xr hB HC HO s9
          simp only [List.setIfInBounds_toArray, List.set_cons_zero, List.set_cons_succ]
          refine wpAny_take (i := 14) (v := ?_) rfl (by kernel_rfl) (by kernel_rfl) (by kernel_rfl) (fun _ _ _ h => h) (Or.inl ⟨by rfl, ?_⟩) ?_
          rotate_left
          ·
           intro w; go_simp; try with_reducible rfl
          simp only [Act.put, List.setIfInBounds_toArray, List.set_cons_zero, List.set_cons_succ]
          refine wpAny_take (i := 15) (v := ?_) rfl (by kernel_rfl) (by kernel_rfl) (by kernel_rfl) (fun _ _ _ h => h) (Or.inl ⟨by rfl, ?_⟩) ?_
          rotate_left
          ·
           intro w; go_simp; try with_reducible rfl
          simp only [Act.put, List.setIfInBounds_toArray, List.set_cons_zero, List.set_cons_succ]
          refine wpAny_ready (rs := [16]) (by kernel_rfl) (by simp) ?_
          refine AllReady.cons rfl (fun K hK => ?_) AllReady.nil
          go_simp
          refine hK _ _ ?_
          clear hK K
          refine wpAny_ready (rs := [17]) (by kernel_rfl) (by simp) ?_
          refine AllReady.cons rfl (fun K hK => ?_) AllReady.nil
          go_simp
          refine hK _ _ ?_
          clear hK K
          refine wpAny_done (by kernel_rfl) ?_ _
          go_wp2
          have HW := HWf.out
          unfold st8 at HW
          rw [HW]
          have cZ := zR.cell
          refine bodyPost_ret (v := .tuple #[.agg (lgC F.disk po2 co2 pc2 cc2 F.frm F.til F.ver ro2 F.recs.length rc2), .int .i64 er]) (by simp [results, Tryd.results19, go_sem, cZ]) rfl ?_
          rw [HRF.out]
          exact ⟨_, rfl, ZL.out, ZB.out⟩
         ·
          go_simp
          refine hK _ _ ?_
          clear hK K
          simp only [List.setIfInBounds_toArray, List.set_cons_zero, List.set_cons_succ]
          refine wpAny_ready (rs := [5]) (by kernel_rfl) (by simp) ?_
          refine AllReady.cons rfl (fun K hK => ?_) AllReady.nil
          go_simp
          refine (sl_ConcatS wc g _ _ x4 l.recs rs ⟨ro, rc, rfl, Hsl.out, Hst.out.below hB⟩ ⟨qo, qc, rfl, Hqs.out, Hqt.out.below hB⟩ (by have := Hbd.out; omega) hrl).mono ?_
          rintro e wc ⟨vC, rfl, hC, hbb⟩
          refine hK _ _ ?_
          clear hK K
          rw [HL.out] at hC
          obtain ⟨oC, cC, rfl, hCs, hCt⟩ := hC
          have HC : Hid (SlW oC L.length cC ∧ StrsAt (fun k => wS ≤ k ∧ k < wc.heap.size) wc oC L) := Lib.hid ⟨hCs, hCt.mono fun k hk => ⟨Nat.le_trans HwS.out hk.1, hk.2⟩⟩
          have hB := btr hB hbb
          have xb := xb.belowAll hbb
          have xr := xr.belowAll hbb
          have Hto := Lib.hid (Hto.out.below hbb)
          clear c0 l0 hbb x4 hCs hCt
          have c0 := xb.cell
          have l0 := xb.lt
          simp only [List.setIfInBounds_toArray, List.set_cons_zero, List.set_cons_succ]
          refine wpAny_ready (rs := [11]) (by kernel_rfl) (by simp) ?_
          refine AllReady.cons rfl (fun K hK => ?_) AllReady.nil
          go_simp
          rw [show IntKind.i64.wrap ((sz : Int) + (mo : Int)) = ((sz + mo : Nat) : Int) by rw [IntWalk.i64_in _ (by omega)]; omega]
          refine (Hnx.out _ hB).mono ?_
          rintro e wc ⟨bN, rfl, hN2, hbb⟩
          refine hK _ _ ?_
          clear hK K
          have HN := Lib.hid hN2
          have HC : Hid (SlW oC L.length cC ∧ StrsAt (fun k => wS ≤ k ∧ k < wc.heap.size) wc oC L) := Lib.hid ⟨HC.out.1, (HC.out.2.below hbb).mono fun k hk => ⟨hk.1, Nat.lt_of_lt_of_le hk.2 hbb.size⟩⟩
          have hB := btr hB hbb
          have xb := xb.belowAll hbb
          have xr := xr.belowAll hbb
          have Hto := Lib.hid (Hto.out.below hbb)
          clear c0 l0 hbb hN2
          have c0 := xb.cell
          have l0 := xb.lt
          simp only [List.setIfInBounds_toArray, List.set_cons_zero, List.set_cons_succ]
          refine wpAny_ready (rs := [12]) (by kernel_rfl) (by simp) ?_
          refine AllReady.cons rfl (fun K hK => ?_) AllReady.nil
          obtain ⟨us, hus, hul⟩ := HN.out.row
          obtain ⟨vs, hv1, hv2⟩ := Hto.out
          have hul1 : us.length = 2 := hul.1
          have hone : ∀ u ∈ us, u.oneCell' = true := by
           intro u hu
           obtain ⟨j, hj, rfl⟩ := List.getElem_of_mem hu
           have hj2 : j < 2 := by omega
           have hop := hul.2 j hj2 hj
           rcases j with _ | _ | j
           ·
            obtain ⟨bi, bd, e, _⟩ := hop
            rw [e]; rfl
           ·
            have e : us[1] = .func (.func 42) #[] #[] := hop
            rw [e]; rfl
           ·
            omega
          have hzc := hB.size
          refine wp_app (.tmp 55) (.tmp 60) 90 rfl w.heap.size 99 io _ 1 8 Tryd.underlying90 Hio.out.1 Hio.out.2.1 Hio.out.2.2.1 Hio.out.2.2.2 rfl (by decide) vT opT.length vs rfl hv1 (some ⟨bN, 0, none⟩) 2 2 us rfl (fun h => by cases h) (by omega) hus hone (by unfold maxLen; omega) (by omega) hzc ?_
          intro vF wc ho7 hg7
          refine hK _ _ ?_
          clear hK K
          have hul7 : OpL wc (vs ++ us) (opT ++ nextL l (sz + mo)) := (OpL.app hv2 hul).grown hv1 hg7
          rw [HopF.out] at hul7
          rw [← HopFl.out] at ho7
          have xb := xb.grown hg7 (fun e => ownsRow_ne_bx hv1 xb (by decide) e.symm)
          have xr := xr.grown hg7 (fun e => ownsRow_ne_bx hv1 xr (by decide) e.symm)
          have hB := hB.grown hg7 hzc (fun b e => (hv1.lt b e).1)
          obtain ⟨oF, cF, rfl, _, hrow, _⟩ := ownsRow_at ho7
          have HO := Lib.hid (OpsAt.of hrow hul7)
          have HC : Hid (SlW oC L.length cC ∧ StrsAt (fun k => wS ≤ k ∧ k < wc.heap.size) wc oC L) := Lib.hid ⟨HC.out.1, (HC.out.2.same (w' := wc) (fun k hk => hg7.block k hk.2 (fun e => by have := HloT.out k e.symm; have := hk.1; omega))).mono fun k hk => ⟨hk.1, Nat.lt_of_lt_of_le hk.2 hg7.size⟩⟩
          clear c0 l0 HN hus hul hv1 hv2 hone hul1 ho7 hg7 hul7 hrow
          have c0 := xb.cell
          have l0 := xb.lt
          simp only [Act.put, List.setIfInBounds_toArray, List.set_cons_zero, List.set_cons_succ]
          refine wpAny_ready (rs := [13]) (by kernel_rfl) (by simp) ?_
          refine AllReady.cons rfl (fun K hK => ?_) AllReady.nil
          go_simp
          have hfc := pl_finish l _ L oC cC opF oF cF wc (Hl0.out.below hB) HC.out.1 (HC.out.2.mono fun k hk => hk.2) HO.out (by have := HopFl.out; omega) (by have := Hver.out; omega) (by have := Hver.out; omega)
          rw [HF.out] at hfc
          refine hfc.mono ?_
          rintro e wd ⟨vF, rfl, hLF, hbb⟩
          refine hK _ _ ?_
          clear hK K hfc
          have hLF' := hLF
          obtain ⟨po2, pc2, co2, cc2, ro2, rc2, rfl, _, _, _⟩ := hLF
          have s9 : LgS w N l po co ro pc cc rc wd := ⟨xb.belowAll hbb, xr.belowAll hbb, btr hB hbb, Hl0.out.below (btr hB hbb)⟩
          obtain ⟨Wf, hWf⟩ : ∃ Wf, st8 wd (N + 1) (.int .i64 F.disk.size) (.slice po2 F.disk.pages.length pc2) (.slice co2 F.disk.cache.length cc2) (.int .i64 F.disk.left) (.int .i64 F.frm) (.int .i64 F.til) (.int .i64 F.ver) (.slice ro2 F.recs.length rc2) = Wf := ⟨_, rfl⟩
          obtain ⟨zR, zB, zL⟩ := s9.out hN hLF' hWf
          clear c0 l0
          have cX := s9.res.cell
          have lX := s9.res.lt
          have fX := s9.res.free
          have ZB := Lib.hid zB
          have ZL := Lib.hid zL
          have HWf := Lib.hid hWf
          clear zB zL hWf hLF' hbb xb xr hB HC HO s9
          simp only [List.setIfInBounds_toArray, List.set_cons_zero, List.set_cons_succ]
          refine wpAny_take (i := 14) (v := ?_) rfl (by kernel_rfl) (by kernel_rfl) (by kernel_rfl) (fun _ _ _ h => h) (Or.inl ⟨by rfl, ?_⟩) ?_
          rotate_left
          ·
           intro w; go_simp; try with_reducible rfl
          simp only [Act.put, List.setIfInBounds_toArray, List.set_cons_zero, List.set_cons_succ]
          refine wpAny_take (i := 15) (v := ?_) rfl (by kernel_rfl) (by kernel_rfl) (by kernel_rfl) (fun _ _ _ h => h) (Or.inl ⟨by rfl, ?_⟩) ?_
          rotate_left
          ·
           intro w; go_simp; try with_reducible rfl
          simp only [Act.put, List.setIfInBounds_toArray, List.set_cons_zero, List.set_cons_succ]
          refine wpAny_ready (rs := [16]) (by kernel_rfl) (by simp) ?_
          refine AllReady.cons rfl (fun K hK => ?_) AllReady.nil
          go_simp
          refine hK _ _ ?_
          clear hK K
          refine wpAny_ready (rs := [17]) (by kernel_rfl) (by simp) ?_
          refine AllReady.cons rfl (fun K hK => ?_) AllReady.nil
          go_simp
          refine hK _ _ ?_
          clear hK K
          refine wpAny_done (by kernel_rfl) ?_ _
          go_wp2
          have HW := HWf.out
          unfold st8 at HW
          rw [HW]
          have cZ := zR.cell
          refine bodyPost_ret (v := .tuple #[.agg (lgC F.disk po2 co2 pc2 cc2 F.frm F.til F.ver ro2 F.recs.length rc2), .int .i64 er]) (by simp [results, Tryd.results19, go_sem, cZ]) rfl ?_
          rw [HRF.out]
          exact ⟨_, rfl, ZL.out, ZB.out⟩
        ·
         go_simp
         refine hK _ _ ?_
         clear hK K
         simp only [List.setIfInBounds_toArray, List.set_cons_zero, List.set_cons_succ]
         refine wpAny_ready (rs := [4]) (by kernel_rfl) (by simp) ?_
         refine AllReady.cons rfl (fun K hK => ?_) AllReady.nil
         go_simp
         refine hK _ _ ?_
         clear hK K
         have x4 := Bx.new wc #[.slice ro l.recs.length rc, .slice qo rs.length qc] 27
         have hbb := Below.one wc (.cells #[.slice ro l.recs.length rc, .slice qo rs.length qc] 27)
         obtain ⟨g, hg⟩ : ∃ g, wc.heap.size = g := ⟨_, rfl⟩
         rw [hg] at x4
         obtain ⟨wc, hwc⟩ : ∃ W', wc.alloc (.cells #[.slice ro l.recs.length rc, .slice qo rs.length qc] 27) = W' := ⟨_, rfl⟩
         rw [hwc] at x4 hbb
         rw [hwc, hg]
         clear hwc
         have hB := btr hB hbb
         have xb := xb.belowAll hbb
         have xr := xr.belowAll hbb
         have Hto := Lib.hid (Hto.out.below hbb)
         have HwS : Hid (wS ≤ wc.heap.size) := Lib.hid (Nat.le_trans HwS.out hbb.size)
         clear c0 l0 hbb hg
         have c0 := xb.cell
         have l0 := xb.lt
         simp only [List.setIfInBounds_toArray, List.set_cons_zero, List.set_cons_succ]
         refine wpAny_ready (rs := [5]) (by kernel_rfl) (by simp) ?_
         refine AllReady.cons rfl (fun K hK => ?_) AllReady.nil
         go_simp
         refine (sl_ConcatS wc g _ _ x4 l.recs rs ⟨ro, rc, rfl, Hsl.out, Hst.out.below hB⟩ ⟨qo, qc, rfl, Hqs.out, Hqt.out.below hB⟩ (by have := Hbd.out; omega) hrl).mono ?_
         rintro e wc ⟨vC, rfl, hC, hbb⟩
         refine hK _ _ ?_
         clear hK K
         rw [HL.out] at hC
         obtain ⟨oC, cC, rfl, hCs, hCt⟩ := hC
         have HC : Hid (SlW oC L.length cC ∧ StrsAt (fun k => wS ≤ k ∧ k < wc.heap.size) wc oC L) := Lib.hid ⟨hCs, hCt.mono fun k hk => ⟨Nat.le_trans HwS.out hk.1, hk.2⟩⟩
         have hB := btr hB hbb
         have xb := xb.belowAll hbb
         have xr := xr.belowAll hbb
         have Hto := Lib.hid (Hto.out.below hbb)
         clear c0 l0 hbb x4 hCs hCt
         have c0 := xb.cell
         have l0 := xb.lt
         simp only [List.setIfInBounds_toArray, List.set_cons_zero, List.set_cons_succ]
         refine wpAny_ready (rs := [11]) (by kernel_rfl) (by simp) ?_
         refine AllReady.cons rfl (fun K hK => ?_) AllReady.nil
         go_simp
         rw [show IntKind.i64.wrap ((sz : Int) + (mo : Int)) = ((sz + mo : Nat) : Int) by rw [IntWalk.i64_in _ (by omega)]; omega]
         refine (Hnx.out _ hB).mono ?_
         rintro e wc ⟨bN, rfl, hN2, hbb⟩
         refine hK _ _ ?_
         clear hK K
         have HN := Lib.hid hN2
         have HC : Hid (SlW oC L.length cC ∧ StrsAt (fun k => wS ≤ k ∧ k < wc.heap.size) wc oC L) := Lib.hid ⟨HC.out.1, (HC.out.2.below hbb).mono fun k hk => ⟨hk.1, Nat.lt_of_lt_of_le hk.2 hbb.size⟩⟩
         have hB := btr hB hbb
         have xb := xb.belowAll hbb
         have xr := xr.belowAll hbb
         have Hto := Lib.hid (Hto.out.below hbb)
         clear c0 l0 hbb hN2
         have c0 := xb.cell
         have l0 := xb.lt
         simp only [List.setIfInBounds_toArray, List.set_cons_zero, List.set_cons_succ]
         refine wpAny_ready (rs := [12]) (by kernel_rfl) (by simp) ?_
         refine AllReady.cons rfl (fun K hK => ?_) AllReady.nil
         obtain ⟨us, hus, hul⟩ := HN.out.row
         obtain ⟨vs, hv1, hv2⟩ := Hto.out
         have hul1 : us.length = 2 := hul.1
         have hone : ∀ u ∈ us, u.oneCell' = true := by
          intro u hu
          obtain ⟨j, hj, rfl⟩ := List.getElem_of_mem hu
          have hj2 : j < 2 := by omega
          have hop := hul.2 j hj2 hj
          rcases j with _ | _ | j
          ·
           obtain ⟨bi, bd, e, _⟩ := hop
           rw [e]; rfl
          ·
           have e : us[1] = .func (.func 42) #[] #[] := hop
           rw [e]; rfl
          ·
           omega
         have hzc := hB.size
         refine wp_app (.tmp 55) (.tmp 60) 90 rfl w.heap.size 99 io _ 1 8 Tryd.underlying90 Hio.out.1 Hio.out.2.1 Hio.out.2.2.1 Hio.out.2.2.2 rfl (by decide) vT opT.length vs rfl hv1 (some ⟨bN, 0, none⟩) 2 2 us rfl (fun h => by cases h) (by omega) hus hone (by unfold maxLen; omega) (by omega) hzc ?_
         intro vF wc ho7 hg7
         refine hK _ _ ?_
         clear hK K
         have hul7 : OpL wc (vs ++ us) (opT ++ nextL l (sz + mo)) := (OpL.app hv2 hul).grown hv1 hg7
         rw [HopF.out] at hul7
         rw [← HopFl.out] at ho7
         have xb := xb.grown hg7 (fun e => ownsRow_ne_bx hv1 xb (by decide) e.symm)
         have xr := xr.grown hg7 (fun e => ownsRow_ne_bx hv1 xr (by decide) e.symm)
         have hB := hB.grown hg7 hzc (fun b e => (hv1.lt b e).1)
         obtain ⟨oF, cF, rfl, _, hrow, _⟩ := ownsRow_at ho7
         have HO := Lib.hid (OpsAt.of hrow hul7)
         have HC : Hid (SlW oC L.length cC ∧ StrsAt (fun k => wS ≤ k ∧ k < wc.heap.size) wc oC L) := Lib.hid ⟨HC.out.1, (HC.out.2.same (w' := wc) (fun k hk => hg7.block k hk.2 (fun e => by have := HloT.out k e.symm; have := hk.1; omega))).mono fun k hk => ⟨hk.1, Nat.lt_of_lt_of_le hk.2 hg7.size⟩⟩
         clear c0 l0 HN hus hul hv1 hv2 hone hul1 ho7 hg7 hul7 hrow
         have c0 := xb.cell
         have l0 := xb.lt
         simp only [Act.put, List.setIfInBounds_toArray, List.set_cons_zero, List.set_cons_succ]
         refine wpAny_ready (rs := [13]) (by kernel_rfl) (by simp) ?_
         refine AllReady.cons rfl (fun K hK => ?_) AllReady.nil
         go_simp
         have hfc := pl_finish l _ L oC cC opF oF cF wc (Hl0.out.below hB) HC.out.1 (HC.out.2.mono fun k hk => hk.2) HO.out (by have := HopFl.out; omega) (by have := Hver.out; omega) (by have := Hver.out; omega)
         rw [HF.out] at hfc
         refine hfc.mono ?_
         rintro e wd ⟨vF, rfl, hLF, hbb⟩
         refine hK _ _ ?_
         clear hK K hfc
         have hLF' := hLF
         obtain ⟨po2, pc2, co2, cc2, ro2, rc2, rfl, _, _, _⟩ := hLF
         have s9 : LgS w N l po co ro pc cc rc wd := ⟨xb.belowAll hbb, xr.belowAll hbb, btr hB hbb, Hl0.out.below (btr hB hbb)⟩
         obtain ⟨Wf, hWf⟩ : ∃ Wf, st8 wd (N + 1) (.int .i64 F.disk.size) (.slice po2 F.disk.pages.length pc2) (.slice co2 F.disk.cache.length cc2) (.int .i64 F.disk.left) (.int .i64 F.frm) (.int .i64 F.til) (.int .i64 F.ver) (.slice ro2 F.recs.length rc2) = Wf := ⟨_, rfl⟩
         obtain ⟨zR, zB, zL⟩ := s9.out hN hLF' hWf
         clear c0 l0
         have cX := s9.res.cell
         have lX := s9.res.lt
         have fX := s9.res.free
         have ZB := Lib.hid zB
         have ZL := Lib.hid zL
         have HWf := Lib.hid hWf
         clear zB zL hWf hLF' hbb xb xr hB HC HO s9
         simp only [List.setIfInBounds_toArray, List.set_cons_zero, List.set_cons_succ]
         refine wpAny_take (i := 14) (v := ?_) rfl (by kernel_rfl) (by kernel_rfl) (by kernel_rfl) (fun _ _ _ h => h) (Or.inl ⟨by rfl, ?_⟩) ?_
         rotate_left
         ·
          intro w; go_simp; try with_reducible rfl
         simp only [Act.put, List.setIfInBounds_toArray, List.set_cons_zero, List.set_cons_succ]
         refine wpAny_take (i := 15) (v := ?_) rfl (by kernel_rfl) (by kernel_rfl) (by kernel_rfl) (fun _ _ _ h => h) (Or.inl ⟨by rfl, ?_⟩) ?_
         rotate_left
         ·
          intro w; go_simp; try with_reducible rfl
         simp only [Act.put, List.setIfInBounds_toArray, List.set_cons_zero, List.set_cons_succ]
         refine wpAny_ready (rs := [16]) (by kernel_rfl) (by simp) ?_
         refine AllReady.cons rfl (fun K hK => ?_) AllReady.nil
         go_simp
         refine hK _ _ ?_
         clear hK K
         refine wpAny_ready (rs := [17]) (by kernel_rfl) (by simp) ?_
         refine AllReady.cons rfl (fun K hK => ?_) AllReady.nil
         go_simp
         refine hK _ _ ?_
         clear hK K
         refine wpAny_done (by kernel_rfl) ?_ _
         go_wp2
         have HW := HWf.out
         unfold st8 at HW
         rw [HW]
         have cZ := zR.cell
         refine bodyPost_ret (v := .tuple #[.agg (lgC F.disk po2 co2 pc2 cc2 F.frm F.til F.ver ro2 F.recs.length rc2), .int .i64 er]) (by simp [results, Tryd.results19, go_sem, cZ]) rfl ?_
         rw [HRF.out]
         exact ⟨_, rfl, ZL.out, ZB.out⟩
       ·
        go_simp
        refine hK _ _ ?_
        clear hK K
        have x4 := Bx.new wc #[.slice ro l.recs.length rc, .slice qo rs.length qc] 27
        have hbb := Below.one wc (.cells #[.slice ro l.recs.length rc, .slice qo rs.length qc] 27)
        obtain ⟨g, hg⟩ : ∃ g, wc.heap.size = g := ⟨_, rfl⟩
        rw [hg] at x4
        obtain ⟨wc, hwc⟩ : ∃ W', wc.alloc (.cells #[.slice ro l.recs.length rc, .slice qo rs.length qc] 27) = W' := ⟨_, rfl⟩
        rw [hwc] at x4 hbb
        rw [hwc, hg]
        clear hwc
        have hB := btr hB hbb
        have xb := xb.belowAll hbb
        have xr := xr.belowAll hbb
        have Hto := Lib.hid (Hto.out.below hbb)
        have HwS : Hid (wS ≤ wc.heap.size) := Lib.hid (Nat.le_trans HwS.out hbb.size)
        clear c0 l0 hbb hg
        have c0 := xb.cell
        have l0 := xb.lt
        simp only [List.setIfInBounds_toArray, List.set_cons_zero, List.set_cons_succ]
        refine wpAny_ready (rs := [0, 5, 7]) (by kernel_rfl) (by simp) ?_
        refine AllReady.cons rfl (fun K hK => ?_) (AllReady.cons rfl (fun K hK => ?_) (AllReady.cons rfl (fun K hK => ?_) AllReady.nil))
        ·
         go_simp
         refine hK _ _ ?_
         clear hK K
         simp only [List.setIfInBounds_toArray, List.set_cons_zero]
         refine wpAny_ready (rs := [5, 7]) (by kernel_rfl) (by simp) ?_
         refine AllReady.cons rfl (fun K hK => ?_) (AllReady.cons rfl (fun K hK => ?_) AllReady.nil)
         ·
          go_simp
          refine (sl_ConcatS wc g _ _ x4 l.recs rs ⟨ro, rc, rfl, Hsl.out, Hst.out.below hB⟩ ⟨qo, qc, rfl, Hqs.out, Hqt.out.below hB⟩ (by have := Hbd.out; omega) hrl).mono ?_
          rintro e wc ⟨vC, rfl, hC, hbb⟩
          refine hK _ _ ?_
          clear hK K
          rw [HL.out] at hC
          obtain ⟨oC, cC, rfl, hCs, hCt⟩ := hC
          have HC : Hid (SlW oC L.length cC ∧ StrsAt (fun k => wS ≤ k ∧ k < wc.heap.size) wc oC L) := Lib.hid ⟨hCs, hCt.mono fun k hk => ⟨Nat.le_trans HwS.out hk.1, hk.2⟩⟩
          have hB := btr hB hbb
          have xb := xb.belowAll hbb
          have xr := xr.belowAll hbb
          have Hto := Lib.hid (Hto.out.below hbb)
          clear c0 l0 hbb x4 hCs hCt
          have c0 := xb.cell
          have l0 := xb.lt
          simp only [List.setIfInBounds_toArray, List.set_cons_zero, List.set_cons_succ]
          refine wpAny_ready (rs := [7]) (by kernel_rfl) (by simp) ?_
          refine AllReady.cons rfl (fun K hK => ?_) AllReady.nil
          go_simp
          refine hK _ _ ?_
          clear hK K
          simp only [List.setIfInBounds_toArray, List.set_cons_zero, List.set_cons_succ]
          refine wpAny_ready (rs := [11]) (by kernel_rfl) (by simp) ?_
          refine AllReady.cons rfl (fun K hK => ?_) AllReady.nil
          go_simp
          rw [show IntKind.i64.wrap ((sz : Int) + (mo : Int)) = ((sz + mo : Nat) : Int) by rw [IntWalk.i64_in _ (by omega)]; omega]
          refine (Hnx.out _ hB).mono ?_
          rintro e wc ⟨bN, rfl, hN2, hbb⟩
          refine hK _ _ ?_
          clear hK K
          have HN := Lib.hid hN2
          have HC : Hid (SlW oC L.length cC ∧ StrsAt (fun k => wS ≤ k ∧ k < wc.heap.size) wc oC L) := Lib.hid ⟨HC.out.1, (HC.out.2.below hbb).mono fun k hk => ⟨hk.1, Nat.lt_of_lt_of_le hk.2 hbb.size⟩⟩
          have hB := btr hB hbb
          have xb := xb.belowAll hbb
          have xr := xr.belowAll hbb
          have Hto := Lib.hid (Hto.out.below hbb)
          clear c0 l0 hbb hN2
          have c0 := xb.cell
          have l0 := xb.lt
          simp only [List.setIfInBounds_toArray, List.set_cons_zero, List.set_cons_succ]
          refine wpAny_ready (rs := [12]) (by kernel_rfl) (by simp) ?_
          refine AllReady.cons rfl (fun K hK => ?_) AllReady.nil
          obtain ⟨us, hus, hul⟩ := HN.out.row
          obtain ⟨vs, hv1, hv2⟩ := Hto.out
          have hul1 : us.length = 2 := hul.1
          have hone : ∀ u ∈ us, u.oneCell' = true := by
           intro u hu
           obtain ⟨j, hj, rfl⟩ := List.getElem_of_mem hu
           have hj2 : j < 2 := by omega
           have hop := hul.2 j hj2 hj
           rcases j with _ | _ | j
           ·
            obtain ⟨bi, bd, e, _⟩ := hop
            rw [e]; rfl
           ·
            have e : us[1] = .func (.func 42) #[] #[] := hop
            rw [e]; rfl
           ·
            omega
          have hzc := hB.size
          refine wp_app (.tmp 55) (.tmp 60) 90 rfl w.heap.size 99 io _ 1 8 Tryd.underlying90 Hio.out.1 Hio.out.2.1 Hio.out.2.2.1 Hio.out.2.2.2 rfl (by decide) vT opT.length vs rfl hv1 (some ⟨bN, 0, none⟩) 2 2 us rfl (fun h => by cases h) (by omega) hus hone (by unfold maxLen; omega) (by omega) hzc ?_
          intro vF wc ho7 hg7
          refine hK _ _ ?_
          clear hK K
          have hul7 : OpL wc (vs ++ us) (opT ++ nextL l (sz + mo)) := (OpL.app hv2 hul).grown hv1 hg7
          rw [HopF.out] at hul7
          rw [← HopFl.out] at ho7
          have xb := xb.grown hg7 (fun e => ownsRow_ne_bx hv1 xb (by decide) e.symm)
          have xr := xr.grown hg7 (fun e => ownsRow_ne_bx hv1 xr (by decide) e.symm)
          have hB := hB.grown hg7 hzc (fun b e => (hv1.lt b e).1)
          obtain ⟨oF, cF, rfl, _, hrow, _⟩ := ownsRow_at ho7
          have HO := Lib.hid (OpsAt.of hrow hul7)
          have HC : Hid (SlW oC L.length cC ∧ StrsAt (fun k => wS ≤ k ∧ k < wc.heap.size) wc oC L) := Lib.hid ⟨HC.out.1, (HC.out.2.same (w' := wc) (fun k hk => hg7.block k hk.2 (fun e => by have := HloT.out k e.symm; have := hk.1; omega))).mono fun k hk => ⟨hk.1, Nat.lt_of_lt_of_le hk.2 hg7.size⟩⟩
          clear c0 l0 HN hus hul hv1 hv2 hone hul1 ho7 hg7 hul7 hrow
          have c0 := xb.cell
          have l0 := xb.lt
          simp only [Act.put, List.setIfInBounds_toArray, List.set_cons_zero, List.set_cons_succ]
          refine wpAny_ready (rs := [13]) (by kernel_rfl) (by simp) ?_
          refine AllReady.cons rfl (fun K hK => ?_) AllReady.nil
          go_simp
          have hfc := pl_finish l _ L oC cC opF oF cF wc (Hl0.out.below hB) HC.out.1 (HC.out.2.mono fun k hk => hk.2) HO.out (by have := HopFl.out; omega) (by have := Hver.out; omega) (by have := Hver.out; omega)
          rw [HF.out] at hfc
          refine hfc.mono ?_
          rintro e wd ⟨vF, rfl, hLF, hbb⟩
          refine hK _ _ ?_
          clear hK K hfc
          have hLF' := hLF
          obtain ⟨po2, pc2, co2, cc2, ro2, rc2, rfl, _, _, _⟩ := hLF
          have s9 : LgS w N l po co ro pc cc rc wd := ⟨xb.belowAll hbb, xr.belowAll hbb, btr hB hbb, Hl0.out.below (btr hB hbb)⟩
          obtain ⟨Wf, hWf⟩ : ∃ Wf, st8 wd (N + 1) (.int .i64 F.disk.size) (.slice po2 F.disk.pages.length pc2) (.slice co2 F.disk.cache.length cc2) (.int .i64 F.disk.left) (.int .i64 F.frm) (.int .i64 F.til) (.int .i64 F.ver) (.slice ro2 F.recs.length rc2) = Wf := ⟨_, rfl⟩
          obtain ⟨zR, zB, zL⟩ := s9.out hN hLF' hWf
          clear c0 l0
          have cX := s9.res.cell
          have lX := s9.res.lt
          have fX := s9.res.free
          have ZB := Lib.hid zB
          have ZL := Lib.hid zL
          have HWf := Lib.hid hWf
          clear zB zL hWf hLF' hbb xb xr hB HC HO s9
          simp only [List.setIfInBounds_toArray, List.set_cons_zero, List.set_cons_succ]
          refine wpAny_take (i := 14) (v := ?_) rfl (by kernel_rfl) (by kernel_rfl) (by kernel_rfl) (fun _ _ _ h => h) (Or.inl ⟨by rfl, ?_⟩) ?_
          rotate_left
          ·
           intro w; go_simp; try with_reducible rfl
          simp only [Act.put, List.setIfInBounds_toArray, List.set_cons_zero, List.set_cons_succ]
          refine wpAny_take (i := 15) (v := ?_) rfl (by kernel_rfl) (by kernel_rfl) (by kernel_rfl) (fun _ _ _ h => h) (Or.inl ⟨by rfl, ?_⟩) ?_
          rotate_left
          ·
           intro w; go_simp; try with_reducible rfl
          simp only [Act.put, List.setIfInBounds_toArray, List.set_cons_zero, List.set_cons_succ]
          refine wpAny_ready (rs := [16]) (by kernel_rfl) (by simp) ?_
          refine AllReady.cons rfl (fun K hK => ?_) AllReady.nil
          go_simp
          refine hK _ _ ?_
          clear hK K
          refine wpAny_ready (rs := [17]) (by kernel_rfl) (by simp) ?_
          refine AllReady.cons rfl (fun K hK => ?_) AllReady.nil
          go_simp
          refine hK _ _ ?_
          clear hK K
          refine wpAny_done (by kernel_rfl) ?_ _
          go_wp2
          have HW := HWf.out
          unfold st8 at HW
          rw [HW]
          have cZ := zR.cell
          refine bodyPost_ret (v := .tuple #[.agg (lgC F.disk po2 co2 pc2 cc2 F.frm F.til F.ver ro2 F.recs.length rc2), .int .i64 er]) (by simp [results, Tryd.results19, go_sem, cZ]) rfl ?_
          rw [HRF.out]
          exact ⟨_, rfl, ZL.out, ZB.out⟩
         ·
          go_simp
          refine hK _ _ ?_
          clear hK K
          simp only [List.setIfInBounds_toArray, List.set_cons_zero, List.set_cons_succ]
          refine wpAny_ready (rs := [5]) (by kernel_rfl) (by simp) ?_
          refine AllReady.cons rfl (fun K hK => ?_) AllReady.nil
          go_simp
          refine (sl_ConcatS wc g _ _ x4 l.recs rs ⟨ro, rc, rfl, Hsl.out, Hst.out.below hB⟩ ⟨qo, qc, rfl, Hqs.out, Hqt.out.below hB⟩ (by have := Hbd.out; omega) hrl).mono ?_
          rintro e wc ⟨vC, rfl, hC, hbb⟩
          refine hK _ _ ?_
          clear hK K
          rw [HL.out] at hC
          obtain ⟨oC, cC, rfl, hCs, hCt⟩ := hC
          have HC : Hid (SlW oC L.length cC ∧ StrsAt (fun k => wS ≤ k ∧ k < wc.heap.size) wc oC L) := Lib.hid ⟨hCs, hCt.mono fun k hk => ⟨Nat.le_trans HwS.out hk.1, hk.2⟩⟩
          have hB := btr hB hbb
          have xb := xb.belowAll hbb
          have xr := xr.belowAll hbb
          have Hto := Lib.hid (Hto.out.below hbb)
          clear c0 l0 hbb x4 hCs hCt
          have c0 := xb.cell
          have l0 := xb.lt
          simp only [List.setIfInBounds_toArray, List.set_cons_zero, List.set_cons_succ]
          refine wpAny_ready (rs := [11]) (by kernel_rfl) (by simp) ?_
          refine AllReady.cons rfl (fun K hK => ?_) AllReady.nil
          go_simp
          rw [show IntKind.i64.wrap ((sz : Int) + (mo : Int)) = ((sz + mo : Nat) : Int) by rw [IntWalk.i64_in _ (by omega)]; omega]
          refine (Hnx.out _ hB).mono ?_
          rintro e wc ⟨bN, rfl, hN2, hbb⟩
          refine hK _ _ ?_
          clear hK K
          have HN := Lib.hid hN2
          have HC : Hid (SlW oC L.length cC ∧ StrsAt (fun k => wS ≤ k ∧ k < wc.heap.size) wc oC L) := Lib.hid ⟨HC.out.1, (HC.out.2.below hbb).mono fun k hk => ⟨hk.1, Nat.lt_of_lt_of_le hk.2 hbb.size⟩⟩
          have hB := btr hB hbb
          have xb := xb.belowAll hbb
          have xr := xr.belowAll hbb
          have Hto := Lib.hid (Hto.out.below hbb)
          clear c0 l0 hbb hN2
          have c0 := xb.cell
          have l0 := xb.lt
          simp only [List.setIfInBounds_toArray, List.set_cons_zero, List.set_cons_succ]
          refine wpAny_ready (rs := [12]) (by kernel_rfl) (by simp) ?_
          refine AllReady.cons rfl (fun K hK => ?_) AllReady.nil
          obtain ⟨us, hus, hul⟩ := HN.out.row
          obtain ⟨vs, hv1, hv2⟩ := Hto.out
          have hul1 : us.length = 2 := hul.1
          have hone : ∀ u ∈ us, u.oneCell' = true := by
           intro u hu
           obtain ⟨j, hj, rfl⟩ := List.getElem_of_mem hu
           have hj2 : j < 2 := by omega
           have hop := hul.2 j hj2 hj
           rcases j with _ | _ | j
           ·
            obtain ⟨bi, bd, e, _⟩ := hop
            rw [e]; rfl
           ·
            have e : us[1] = .func (.func 42) #[] #[] := hop
            rw [e]; rfl
           ·
            omega
          have hzc := hB.size
          refine wp_app (.tmp 55) (.tmp 60) 90 rfl w.heap.size 99 io _ 1 8 Tryd.underlying90 Hio.out.1 Hio.out.2.1 Hio.out.2.2.1 Hio.out.2.2.2 rfl (by decide) vT opT.length vs rfl hv1 (some ⟨bN, 0, none⟩) 2 2 us rfl (fun h => by cases h) (by omega) hus hone (by unfold maxLen; omega) (by omega) hzc ?_
          intro vF wc ho7 hg7
          refine hK _ _ ?_
          clear hK K
          have hul7 : OpL wc (vs ++ us) (opT ++ nextL l (sz + mo)) := (OpL.app hv2 hul).grown hv1 hg7
          rw [HopF.out] at hul7
          rw [← HopFl.out] at ho7
          have xb := xb.grown hg7 (fun e => ownsRow_ne_bx hv1 xb (by decide) e.symm)
          have xr := xr.grown hg7 (fun e => ownsRow_ne_bx hv1 xr (by decide) e.symm)
          have hB := hB.grown hg7 hzc (fun b e => (hv1.lt b e).1)
          obtain ⟨oF, cF, rfl, _, hrow, _⟩ := ownsRow_at ho7
          have HO := Lib.hid (OpsAt.of hrow hul7)
          have HC : Hid (SlW oC L.length cC ∧ StrsAt (fun k => wS ≤ k ∧ k < wc.heap.size) wc oC L) := Lib.hid ⟨HC.out.1, (HC.out.2.same (w' := wc) (fun k hk => hg7.block k hk.2 (fun e => by have := HloT.out k e.symm; have := hk.1; omega))).mono fun k hk => ⟨hk.1, Nat.lt_of_lt_of_le hk.2 hg7.size⟩⟩
          clear c0 l0 HN hus hul hv1 hv2 hone hul1 ho7 hg7 hul7 hrow
          have c0 := xb.cell
          have l0 := xb.lt
          simp only [Act.put, List.setIfInBounds_toArray, List.set_cons_zero, List.set_cons_succ]
          refine wpAny_ready (rs := [13]) (by kernel_rfl) (by simp) ?_
          refine AllReady.cons rfl (fun K hK => ?_) AllReady.nil
          go_simp
          have hfc := pl_finish l _ L oC cC opF oF cF wc (Hl0.out.below hB) HC.out.1 (HC.out.2.mono fun k hk => hk.2) HO.out (by have := HopFl.out; omega) (by have := Hver.out; omega) (by have := Hver.out; omega)
          rw [HF.out] at hfc
          refine hfc.mono ?_
          rintro e wd ⟨vF, rfl, hLF, hbb⟩
          refine hK _ _ ?_
          clear hK K hfc
          have hLF' := hLF
          obtain ⟨po2, pc2, co2, cc2, ro2, rc2, rfl, _, _, _⟩ := hLF
          have s9 : LgS w N l po co ro pc cc rc wd := ⟨xb.belowAll hbb, xr.belowAll hbb, btr hB hbb, Hl0.out.below (btr hB hbb)⟩
          obtain ⟨Wf, hWf⟩ : ∃ Wf, st8 wd (N + 1) (.int .i64 F.disk.size) (.slice po2 F.disk.pages.length pc2) (.slice co2 F.disk.cache.length cc2) (.int .i64 F.disk.left) (.int .i64 F.frm) (.int .i64 F.til) (.int .i64 F.ver) (.slice ro2 F.recs.length rc2) = Wf := ⟨_, rfl⟩
          obtain ⟨zR, zB, zL⟩ := s9.out hN hLF' hWf
          clear c0 l0
          have cX := s9.res.cell
          have lX := s9.res.lt
          have fX := s9.res.free
          have ZB := Lib.hid zB
          have ZL := Lib.hid zL
          have HWf := Lib.hid hWf
          clear zB zL hWf hLF' hbb xb xr hB HC HO s9
          simp only [List.setIfInBounds_toArray, List.set_cons_zero, List.set_cons_succ]
          refine wpAny_take (i := 14) (v := ?_) rfl (by kernel_rfl) (by kernel_rfl) (by kernel_rfl) (fun _ _ _ h => h) (Or.inl ⟨by rfl, ?_⟩) ?_
          rotate_left
          ·
           intro w; go_simp; try with_reducible rfl
          simp only [Act.put, List.setIfInBounds_toArray, List.set_cons_zero, List.set_cons_succ]
          refine wpAny_take (i := 15) (v := ?_) rfl (by kernel_rfl) (by kernel_rfl) (by kernel_rfl) (fun _ _ _ h => h) (Or.inl ⟨by rfl, ?_⟩) ?_
          rotate_left
          ·
           intro w; go_simp; try with_reducible rfl
          simp only [Act.put, List.setIfInBounds_toArray, List.set_cons_zero, List.set_cons_succ]
          refine wpAny_ready (rs := [16]) (by kernel_rfl) (by simp) ?_
          refine AllReady.cons rfl (fun K hK => ?_) AllReady.nil
          go_simp
          refine hK _ _ ?_
          clear hK K
          refine wpAny_ready (rs := [17]) (by kernel_rfl) (by simp) ?_
          refine AllReady.cons rfl (fun K hK => ?_) AllReady.nil
          go_simp
          refine hK _ _ ?_
          clear hK K
          refine wpAny_done (by kernel_rfl) ?_ _
          go_wp2
          have HW := HWf.out
          unfold st8 at HW
          rw [HW]
          have cZ := zR.cell
          refine bodyPost_ret (v := .tuple #[.agg (lgC F.disk po2 co2 pc2 cc2 F.frm F.til F.ver ro2 F.recs.length rc2), .int .i64 er]) (by simp [results, Tryd.results19, go_sem, cZ]) rfl ?_
          rw [HRF.out]
          exact ⟨_, rfl, ZL.out, ZB.out⟩
        ·
         go_simp
         refine (sl_ConcatS wc g _ _ x4 l.recs rs ⟨ro, rc, rfl, Hsl.out, Hst.out.below hB⟩ ⟨qo, qc, rfl, Hqs.out, Hqt.out.below hB⟩ (by have := Hbd.out; omega) hrl).mono ?_
         rintro e wc ⟨vC, rfl, hC, hbb⟩
         refine hK _ _ ?_
         clear hK K
         rw [HL.out] at hC
         obtain ⟨oC, cC, rfl, hCs, hCt⟩ := hC
         have HC : Hid (SlW oC L.length cC ∧ StrsAt (fun k => wS ≤ k ∧ k < wc.heap.size) wc oC L) := Lib.hid ⟨hCs, hCt.mono fun k hk => ⟨Nat.le_trans HwS.out hk.1, hk.2⟩⟩
         have hB := btr hB hbb
         have xb := xb.belowAll hbb
         have xr := xr.belowAll hbb
         have Hto := Lib.hid (Hto.out.below hbb)
         clear c0 l0 hbb x4 hCs hCt
         have c0 := xb.cell
         have l0 := xb.lt
         simp only [List.setIfInBounds_toArray, List.set_cons_zero, List.set_cons_succ]
         refine wpAny_ready (rs := [0, 7]) (by kernel_rfl) (by simp) ?_
         refine AllReady.cons rfl (fun K hK => ?_) (AllReady.cons rfl (fun K hK => ?_) AllReady.nil)
         ·
          go_simp
          refine hK _ _ ?_
          clear hK K
          simp only [List.setIfInBounds_toArray, List.set_cons_zero]
          refine wpAny_ready (rs := [7]) (by kernel_rfl) (by simp) ?_
          refine AllReady.cons rfl (fun K hK => ?_) AllReady.nil
          go_simp
          refine hK _ _ ?_
          clear hK K
          simp only [List.setIfInBounds_toArray, List.set_cons_zero, List.set_cons_succ]
          refine wpAny_ready (rs := [11]) (by kernel_rfl) (by simp) ?_
          refine AllReady.cons rfl (fun K hK => ?_) AllReady.nil
          go_simp
          rw [show IntKind.i64.wrap ((sz : Int) + (mo : Int)) = ((sz + mo : Nat) : Int) by rw [IntWalk.i64_in _ (by omega)]; omega]
          refine (Hnx.out _ hB).mono ?_
          rintro e wc ⟨bN, rfl, hN2, hbb⟩
          refine hK _ _ ?_
          clear hK K
          have HN := Lib.hid hN2
          have HC : Hid (SlW oC L.length cC ∧ StrsAt (fun k => wS ≤ k ∧ k < wc.heap.size) wc oC L) := Lib.hid ⟨HC.out.1, (HC.out.2.below hbb).mono fun k hk => ⟨hk.1, Nat.lt_of_lt_of_le hk.2 hbb.size⟩⟩
          have hB := btr hB hbb
          have xb := xb.belowAll hbb
          have xr := xr.belowAll hbb
          have Hto := Lib.hid (Hto.out.below hbb)
          clear c0 l0 hbb hN2
          have c0 := xb.cell
          have l0 := xb.lt
          simp only [List.setIfInBounds_toArray, List.set_cons_zero, List.set_cons_succ]
          refine wpAny_ready (rs := [12]) (by kernel_rfl) (by simp) ?_
          refine AllReady.cons rfl (fun K hK => ?_) AllReady.nil
          obtain ⟨us, hus, hul⟩ := HN.out.row
          obtain ⟨vs, hv1, hv2⟩ := Hto.out
          have hul1 : us.length = 2 := hul.1
          have hone : ∀ u ∈ us, u.oneCell' = true := by
           intro u hu
           obtain ⟨j, hj, rfl⟩ := List.getElem_of_mem hu
           have hj2 : j < 2 := by omega
           have hop := hul.2 j hj2 hj
           rcases j with _ | _ | j
           ·
            obtain ⟨bi, bd, e, _⟩ := hop
            rw [e]; rfl
           ·
            have e : us[1] = .func (.func 42) #[] #[] := hop
            rw [e]; rfl
           ·
            omega
          have hzc := hB.size
          refine wp_app (.tmp 55) (.tmp 60) 90 rfl w.heap.size 99 io _ 1 8 Tryd.underlying90 Hio.out.1 Hio.out.2.1 Hio.out.2.2.1 Hio.out.2.2.2 rfl (by decide) vT opT.length vs rfl hv1 (some ⟨bN, 0, none⟩) 2 2 us rfl (fun h => by cases h) (by omega) hus hone (by unfold maxLen; omega) (by omega) hzc ?_
          intro vF wc ho7 hg7
          refine hK _ _ ?_
          clear hK K
          have hul7 : OpL wc (vs ++ us) (opT ++ nextL l (sz + mo)) := (OpL.app hv2 hul).grown hv1 hg7
          rw [HopF.out] at hul7
          rw [← HopFl.out] at ho7
          have xb := xb.grown hg7 (fun e => ownsRow_ne_bx hv1 xb (by decide) e.symm)
          have xr := xr.grown hg7 (fun e => ownsRow_ne_bx hv1 xr (by decide) e.symm)
          have hB := hB.grown hg7 hzc (fun b e => (hv1.lt b e).1)
          obtain ⟨oF, cF, rfl, _, hrow, _⟩ := ownsRow_at ho7
          have HO := Lib.hid (OpsAt.of hrow hul7)
          have HC : Hid (SlW oC L.length cC ∧ StrsAt (fun k => wS ≤ k ∧ k < wc.heap.size) wc oC L) := Lib.hid ⟨HC.out.1, (HC.out.2.same (w' := wc) (fun k hk => hg7.block k hk.2 (fun e => by have := HloT.out k e.symm; have := hk.1; omega))).mono fun k hk => ⟨hk.1, Nat.lt_of_lt_of_le hk.2 hg7.size⟩⟩
          clear c0 l0 HN hus hul hv1 hv2 hone hul1 ho7 hg7 hul7 hrow
          have c0 := xb.cell
          have l0 := xb.lt
          simp only [Act.put, List.setIfInBounds_toArray, List.set_cons_zero, List.set_cons_succ]
          refine wpAny_ready (rs := [13]) (by kernel_rfl) (by simp) ?_
          refine AllReady.cons rfl (fun K hK => ?_) AllReady.nil
          go_simp
          have hfc := pl_finish l _ L oC cC opF oF cF wc (Hl0.out.below hB) HC.out.1 (HC.out.2.mono fun k hk => hk.2) HO.out (by have := HopFl.out; omega) (by have := Hver.out; omega) (by have := Hver.out; omega)
          rw [HF.out] at hfc
          refine hfc.mono ?_
          rintro e wd ⟨vF, rfl, hLF, hbb⟩
          refine hK _ _ ?_
          clear hK K hfc
          have hLF' := hLF
          obtain ⟨po2, pc2, co2, cc2, ro2, rc2, rfl, _, _, _⟩ := hLF
          have s9 : LgS w N l po co ro pc cc rc wd := ⟨xb.belowAll hbb, xr.belowAll hbb, btr hB hbb, Hl0.out.below (btr hB hbb)⟩
          obtain ⟨Wf, hWf⟩ : ∃ Wf, st8 wd (N + 1) (.int .i64 F.disk.size) (.slice po2 F.disk.pages.length pc2) (.slice co2 F.disk.cache.length cc2) (.int .i64 F.disk.left) (.int .i64 F.frm) (.int .i64 F.til) (.int .i64 F.ver) (.slice ro2 F.recs.length rc2) = Wf := ⟨_, rfl⟩
          obtain ⟨zR, zB, zL⟩ := s9.out hN hLF' hWf
          clear c0 l0
          have cX := s9.res.cell
          have lX := s9.res.lt
          have fX := s9.res.free
          have ZB := Lib.hid zB
          have ZL := Lib.hid zL
          have HWf := Lib.hid hWf
          clear zB zL hWf hLF' hbb xb xr hB HC HO s9
          simp only [List.setIfInBounds_toArray, List.set_cons_zero, List.set_cons_succ]
          refine wpAny_take (i := 14) (v := ?_) rfl (by kernel_rfl) (by kernel_rfl) (by kernel_rfl) (fun _ _ _ h => h) (Or.inl ⟨by rfl, ?_⟩) ?_
          rotate_left
          ·
           intro w; go_simp; try with_reducible rfl
          simp only [Act.put, List.setIfInBounds_toArray, List.set_cons_zero, List.set_cons_succ]
          refine wpAny_take (i := 15) (v := ?_) rfl (by kernel_rfl) (by kernel_rfl) (by kernel_rfl) (fun _ _ _ h => h) (Or.inl ⟨by rfl, ?_⟩) ?_
          rotate_left
          ·
           intro w; go_simp; try with_reducible rfl
          simp only [Act.put, List.setIfInBounds_toArray, List.set_cons_zero, List.set_cons_succ]
          refine wpAny_ready (rs := [16]) (by kernel_rfl) (by simp) ?_
          refine AllReady.cons rfl (fun K hK => ?_) AllReady.nil
          go_simp
          refine hK _ _ ?_
          clear hK K
          refine wpAny_ready (rs := [17]) (by kernel_rfl) (by simp) ?_
          refine AllReady.cons rfl (fun K hK => ?_) AllReady.nil
          go_simp
          refine hK _ _ ?_
          clear hK K
          refine wpAny_done (by kernel_rfl) ?_ _
          go_wp2
          have HW := HWf.out
          unfold st8 at HW
          rw [HW]
          have cZ := zR.cell
          refine bodyPost_ret (v := .tuple #[.agg (lgC F.disk po2 co2 pc2 cc2 F.frm F.til F.ver ro2 F.recs.length rc2), .int .i64 er]) (by simp [results, Tryd.results19, go_sem, cZ]) rfl ?_
          rw [HRF.out]
          exact ⟨_, rfl, ZL.out, ZB.out⟩
         ·
          go_simp
          refine hK _ _ ?_
          clear hK K
          simp only [List.setIfInBounds_toArray, List.set_cons_zero, List.set_cons_succ]
          refine wpAny_ready (rs := [0, 11]) (by kernel_rfl) (by simp) ?_
          refine AllReady.cons rfl (fun K hK => ?_) (AllReady.cons rfl (fun K hK => ?_) AllReady.nil)
          ·
           go_simp
           refine hK _ _ ?_
           clear hK K
           simp only [List.setIfInBounds_toArray, List.set_cons_zero]
           refine wpAny_ready (rs := [11]) (by kernel_rfl) (by simp) ?_
           refine AllReady.cons rfl (fun K hK => ?_) AllReady.nil
           go_simp
           rw [show IntKind.i64.wrap ((sz : Int) + (mo : Int)) = ((sz + mo : Nat) : Int) by rw [IntWalk.i64_in _ (by omega)]; omega]
           refine (Hnx.out _ hB).mono ?_
           rintro e wc ⟨bN, rfl, hN2, hbb⟩
           refine hK _ _ ?_
           clear hK K
           have HN := Lib.hid hN2
           have HC : Hid (SlW oC L.length cC ∧ StrsAt (fun k => wS ≤ k ∧ k < wc.heap.size) wc oC L) := Lib.hid ⟨HC.out.1, (HC.out.2.below hbb).mono fun k hk => ⟨hk.1, Nat.lt_of_lt_of_le hk.2 hbb.size⟩⟩
           have hB := btr hB hbb
           have xb := xb.belowAll hbb
           have xr := xr.belowAll hbb
           have Hto := Lib.hid (Hto.out.below hbb)
           clear c0 l0 hbb hN2
           have c0 := xb.cell
           have l0 := xb.lt
           simp only [List.setIfInBounds_toArray, List.set_cons_zero, List.set_cons_succ]
           refine wpAny_ready (rs := [12]) (by kernel_rfl) (by simp) ?_
           refine AllReady.cons rfl (fun K hK => ?_) AllReady.nil
           obtain ⟨us, hus, hul⟩ := HN.out.row
           obtain ⟨vs, hv1, hv2⟩ := Hto.out
           have hul1 : us.length = 2 := hul.1
           have hone : ∀ u ∈ us, u.oneCell' = true := by
            intro u hu
            obtain ⟨j, hj, rfl⟩ := List.getElem_of_mem hu
            have hj2 : j < 2 := by omega
            have hop := hul.2 j hj2 hj
            rcases j with _ | _ | j
            ·
             obtain ⟨bi, bd, e, _⟩ := hop
             rw [e]; rfl
            ·
             have e : us[1] = .func (.func 42) #[] #[] := hop
             rw [e]; rfl
            ·
             omega
           have hzc := hB.size
           refine wp_app (.tmp 55) (.tmp 60) 90 rfl w.heap.size 99 io _ 1 8 Tryd.underlying90 Hio.out.1 Hio.out.2.1 Hio.out.2.2.1 Hio.out.2.2.2 rfl (by decide) vT opT.length vs rfl hv1 (some ⟨bN, 0, none⟩) 2 2 us rfl (fun h => by cases h) (by omega) hus hone (by unfold maxLen; omega) (by omega) hzc ?_
           intro vF wc ho7 hg7
           refine hK _ _ ?_
           clear hK K
           have hul7 : OpL wc (vs ++ us) (opT ++ nextL l (sz + mo)) := (OpL.app hv2 hul).grown hv1 hg7
           rw [HopF.out] at hul7
           rw [← HopFl.out] at ho7
           have xb := xb.grown hg7 (fun e => ownsRow_ne_bx hv1 xb (by decide) e.symm)
           have xr := xr.grown hg7 (fun e => ownsRow_ne_bx hv1 xr (by decide) e.symm)
           have hB := hB.grown hg7 hzc (fun b e => (hv1.lt b e).1)
           obtain ⟨oF, cF, rfl, _, hrow, _⟩ := ownsRow_at ho7
           have HO := Lib.hid (OpsAt.of hrow hul7)
           have HC : Hid (SlW oC L.length cC ∧ StrsAt (fun k => wS ≤ k ∧ k < wc.heap.size) wc oC L) := Lib.hid ⟨HC.out.1, (HC.out.2.same (w' := wc) (fun k hk => hg7.block k hk.2 (fun e => by have := HloT.out k e.symm; have := hk.1; omega))).mono fun k hk => ⟨hk.1, Nat.lt_of_lt_of_le hk.2 hg7.size⟩⟩
           clear c0 l0 HN hus hul hv1 hv2 hone hul1 ho7 hg7 hul7 hrow
           have c0 := xb.cell
           have l0 := xb.lt
           simp only [Act.put, List.setIfInBounds_toArray, List.set_cons_zero, List.set_cons_succ]
           refine wpAny_ready (rs := [13]) (by kernel_rfl) (by simp) ?_
           refine AllReady.cons rfl (fun K hK => ?_) AllReady.nil
           go_simp
           have hfc := pl_finish l _ L oC cC opF oF cF wc (Hl0.out.below hB) HC.out.1 (HC.out.2.mono fun k hk => hk.2) HO.out (by have := HopFl.out; omega) (by have := Hver.out; omega) (by have := Hver.out; omega)
           rw [HF.out] at hfc
           refine hfc.mono ?_
           rintro e wd ⟨vF, rfl, hLF, hbb⟩
           refine hK _ _ ?_
           clear hK K hfc
           have hLF' := hLF
           obtain ⟨po2, pc2, co2, cc2, ro2, rc2, rfl, _, _, _⟩ := hLF
           have s9 : LgS w N l po co ro pc cc rc wd := ⟨xb.belowAll hbb, xr.belowAll hbb, btr hB hbb, Hl0.out.below (btr hB hbb)⟩
           obtain ⟨Wf, hWf⟩ : ∃ Wf, st8 wd (N + 1) (.int .i64 F.disk.size) (.slice po2 F.disk.pages.length pc2) (.slice co2 F.disk.cache.length cc2) (.int .i64 F.disk.left) (.int .i64 F.frm) (.int .i64 F.til) (.int .i64 F.ver) (.slice ro2 F.recs.length rc2) = Wf := ⟨_, rfl⟩
           obtain ⟨zR, zB, zL⟩ := s9.out hN hLF' hWf
           clear c0 l0
           have cX := s9.res.cell
           have lX := s9.res.lt
           have fX := s9.res.free
           have ZB := Lib.hid zB
           have ZL := Lib.hid zL
           have HWf := Lib.hid hWf
           clear zB zL hWf hLF' hbb xb xr hB HC HO s9
           simp only [List.setIfInBounds_toArray, List.set_cons_zero, List.set_cons_succ]
           refine wpAny_take (i := 14) (v := ?_) rfl (by kernel_rfl) (by kernel_rfl) (by kernel_rfl) (fun _ _ _ h => h) (Or.inl ⟨by rfl, ?_⟩) ?_
           rotate_left
           ·
            intro w; go_simp; try with_reducible rfl
           simp only [Act.put, List.setIfInBounds_toArray, List.set_cons_zero, List.set_cons_succ]
           refine wpAny_take (i := 15) (v := ?_) rfl (by kernel_rfl) (by kernel_rfl) (by kernel_rfl) (fun _ _ _ h => h) (Or.inl ⟨by rfl, ?_⟩) ?_
           rotate_left
           ·
            intro w; go_simp; try with_reducible rfl
           simp only [Act.put, List.setIfInBounds_toArray, List.set_cons_zero, List.set_cons_succ]
           refine wpAny_ready (rs := [16]) (by kernel_rfl) (by simp) ?_
           refine AllReady.cons rfl (fun K hK => ?_) AllReady.nil
           go_simp
           refine hK _ _ ?_
           clear hK K
           refine wpAny_ready (rs := [17]) (by kernel_rfl) (by simp) ?_
           refine AllReady.cons rfl (fun K hK => ?_) AllReady.nil
           go_simp
           refine hK _ _ ?_
           clear hK K
           refine wpAny_done (by kernel_rfl) ?_ _
           go_wp2
           have HW := HWf.out
           unfold st8 at HW
           rw [HW]
           have cZ := zR.cell
           refine bodyPost_ret (v := .tuple #[.agg (lgC F.disk po2 co2 pc2 cc2 F.frm F.til F.ver ro2 F.recs.length rc2), .int .i64 er]) (by simp [results, Tryd.results19, go_sem, cZ]) rfl ?_
           rw [HRF.out]
           exact ⟨_, rfl, ZL.out, ZB.out⟩
          ·
           go_simp
           rw [show IntKind.i64.wrap ((sz : Int) + (mo : Int)) = ((sz + mo : Nat) : Int) by rw [IntWalk.i64_in _ (by omega)]; omega]
           refine (Hnx.out _ hB).mono ?_
           rintro e wc ⟨bN, rfl, hN2, hbb⟩
           refine hK _ _ ?_
           clear hK K
           have HN := Lib.hid hN2
           have HC : Hid (SlW oC L.length cC ∧ StrsAt (fun k => wS ≤ k ∧ k < wc.heap.size) wc oC L) := Lib.hid ⟨HC.out.1, (HC.out.2.below hbb).mono fun k hk => ⟨hk.1, Nat.lt_of_lt_of_le hk.2 hbb.size⟩⟩
           have hB := btr hB hbb
           have xb := xb.belowAll hbb
           have xr := xr.belowAll hbb
           have Hto := Lib.hid (Hto.out.below hbb)
           clear c0 l0 hbb hN2
           have c0 := xb.cell
           have l0 := xb.lt
           simp only [List.setIfInBounds_toArray, List.set_cons_zero, List.set_cons_succ]
           refine wpAny_ready (rs := [0, 12]) (by kernel_rfl) (by simp) ?_
           refine AllReady.cons rfl (fun K hK => ?_) (AllReady.cons rfl (fun K hK => ?_) AllReady.nil)
           ·
            go_simp
            refine hK _ _ ?_
            clear hK K
            simp only [List.setIfInBounds_toArray, List.set_cons_zero]
            refine wpAny_ready (rs := [12]) (by kernel_rfl) (by simp) ?_
            refine AllReady.cons rfl (fun K hK => ?_) AllReady.nil
            obtain ⟨us, hus, hul⟩ := HN.out.row
            obtain ⟨vs, hv1, hv2⟩ := Hto.out
            have hul1 : us.length = 2 := hul.1
            have hone : ∀ u ∈ us, u.oneCell' = true := by
             intro u hu
             obtain ⟨j, hj, rfl⟩ := List.getElem_of_mem hu
             have hj2 : j < 2 := by omega
             have hop := hul.2 j hj2 hj
             rcases j with _ | _ | j
             ·
              obtain ⟨bi, bd, e, _⟩ := hop
              rw [e]; rfl
             ·
              have e : us[1] = .func (.func 42) #[] #[] := hop
              rw [e]; rfl
             ·
              omega
            have hzc := hB.size
            refine wp_app (.tmp 55) (.tmp 60) 90 rfl w.heap.size 99 io _ 1 8 Tryd.underlying90 Hio.out.1 Hio.out.2.1 Hio.out.2.2.1 Hio.out.2.2.2 rfl (by decide) vT opT.length vs rfl hv1 (some ⟨bN, 0, none⟩) 2 2 us rfl (fun h => by cases h) (by omega) hus hone (by unfold maxLen; omega) (by omega) hzc ?_
            intro vF wc ho7 hg7
            refine hK _ _ ?_
            clear hK K
            have hul7 : OpL wc (vs ++ us) (opT ++ nextL l (sz + mo)) := (OpL.app hv2 hul).grown hv1 hg7
            rw [HopF.out] at hul7
            rw [← HopFl.out] at ho7
            have xb := xb.grown hg7 (fun e => ownsRow_ne_bx hv1 xb (by decide) e.symm)
            have xr := xr.grown hg7 (fun e => ownsRow_ne_bx hv1 xr (by decide) e.symm)
            have hB := hB.grown hg7 hzc (fun b e => (hv1.lt b e).1)
            obtain ⟨oF, cF, rfl, _, hrow, _⟩ := ownsRow_at ho7
            have HO := Lib.hid (OpsAt.of hrow hul7)
            have HC : Hid (SlW oC L.length cC ∧ StrsAt (fun k => wS ≤ k ∧ k < wc.heap.size) wc oC L) := Lib.hid ⟨HC.out.1, (HC.out.2.same (w' := wc) (fun k hk => hg7.block k hk.2 (fun e => by have := HloT.out k e.symm; have := hk.1; omega))).mono fun k hk => ⟨hk.1, Nat.lt_of_lt_of_le hk.2 hg7.size⟩⟩
            clear c0 l0 HN hus hul hv1 hv2 hone hul1 ho7 hg7 hul7 hrow
            have c0 := xb.cell
            have l0 := xb.lt
            simp only [Act.put, List.setIfInBounds_toArray, List.set_cons_zero, List.set_cons_succ]
            refine wpAny_ready (rs := [13]) (by kernel_rfl) (by simp) ?_
            refine AllReady.cons rfl (fun K hK => ?_) AllReady.nil
            go_simp
            have hfc := pl_finish l _ L oC cC opF oF cF wc (Hl0.out.below hB) HC.out.1 (HC.out.2.mono fun k hk => hk.2) HO.out (by have := HopFl.out; omega) (by have := Hver.out; omega) (by have := Hver.out; omega)
            rw [HF.out] at hfc
            refine hfc.mono ?_
            rintro e wd ⟨vF, rfl, hLF, hbb⟩
            refine hK _ _ ?_
            clear hK K hfc
            have hLF' := hLF
            obtain ⟨po2, pc2, co2, cc2, ro2, rc2, rfl, _, _, _⟩ := hLF
            have s9 : LgS w N l po co ro pc cc rc wd := ⟨xb.belowAll hbb, xr.belowAll hbb, btr hB hbb, Hl0.out.below (btr hB hbb)⟩
            obtain ⟨Wf, hWf⟩ : ∃ Wf, st8 wd (N + 1) (.int .i64 F.disk.size) (.slice po2 F.disk.pages.length pc2) (.slice co2 F.disk.cache.length cc2) (.int .i64 F.disk.left) (.int .i64 F.frm) (.int .i64 F.til) (.int .i64 F.ver) (.slice ro2 F.recs.length rc2) = Wf := ⟨_, rfl⟩
            obtain ⟨zR, zB, zL⟩ := s9.out hN hLF' hWf
            clear c0 l0
            have cX := s9.res.cell
            have lX := s9.res.lt
            have fX := s9.res.free
            have ZB := Lib.hid zB
            have ZL := Lib.hid zL
            have HWf := Lib.hid hWf
            clear zB zL hWf hLF' hbb xb xr hB HC HO s9
            simp only [List.setIfInBounds_toArray, List.set_cons_zero, List.set_cons_succ]
            refine wpAny_take (i := 14) (v := ?_) rfl (by kernel_rfl) (by kernel_rfl) (by kernel_rfl) (fun _ _ _ h => h) (Or.inl ⟨by rfl, ?_⟩) ?_
            rotate_left
            ·
             intro w; go_simp; try with_reducible rfl
            simp only [Act.put, List.setIfInBounds_toArray, List.set_cons_zero, List.set_cons_succ]
            refine wpAny_take (i := 15) (v := ?_) rfl (by kernel_rfl) (by kernel_rfl) (by kernel_rfl) (fun _ _ _ h => h) (Or.inl ⟨by rfl, ?_⟩) ?_
            rotate_left
            ·
             intro w; go_simp; try with_reducible rfl
            simp only [Act.put, List.setIfInBounds_toArray, List.set_cons_zero, List.set_cons_succ]
            refine wpAny_ready (rs := [16]) (by kernel_rfl) (by simp) ?_
            refine AllReady.cons rfl (fun K hK => ?_) AllReady.nil
            go_simp
            refine hK _ _ ?_
            clear hK K
            refine wpAny_ready (rs := [17]) (by kernel_rfl) (by simp) ?_
            refine AllReady.cons rfl (fun K hK => ?_) AllReady.nil
            go_simp
            refine hK _ _ ?_
            clear hK K
            refine wpAny_done (by kernel_rfl) ?_ _
            go_wp2
            have HW := HWf.out
            unfold st8 at HW
            rw [HW]
            have cZ := zR.cell
            refine bodyPost_ret (v := .tuple #[.agg (lgC F.disk po2 co2 pc2 cc2 F.frm F.til F.ver ro2 F.recs.length rc2), .int .i64 er]) (by simp [results, Tryd.results19, go_sem, cZ]) rfl ?_
            rw [HRF.out]
            exact ⟨_, rfl, ZL.out, ZB.out⟩
           ·
            obtain ⟨us, hus, hul⟩ := HN.out.row
            obtain ⟨vs, hv1, hv2⟩ := Hto.out
            have hul1 : us.length = 2 := hul.1
            have hone : ∀ u ∈ us, u.oneCell' = true := by
             intro u hu
             obtain ⟨j, hj, rfl⟩ := List.getElem_of_mem hu
             have hj2 : j < 2 := by omega
             have hop := hul.2 j hj2 hj
             rcases j with _ | _ | j
             ·
              obtain ⟨bi, bd, e, _⟩ := hop
              rw [e]; rfl
             ·
              have e : us[1] = .func (.func 42) #[] #[] := hop
              rw [e]; rfl
             ·
              omega
            have hzc := hB.size
            refine wp_app (.tmp 55) (.tmp 60) 90 rfl w.heap.size 99 io _ 1 8 Tryd.underlying90 Hio.out.1 Hio.out.2.1 Hio.out.2.2.1 Hio.out.2.2.2 rfl (by decide) vT opT.length vs rfl hv1 (some ⟨bN, 0, none⟩) 2 2 us rfl (fun h => by cases h) (by omega) hus hone (by unfold maxLen; omega) (by omega) hzc ?_
            intro vF wc ho7 hg7
            refine hK _ _ ?_
            clear hK K
            have hul7 : OpL wc (vs ++ us) (opT ++ nextL l (sz + mo)) := (OpL.app hv2 hul).grown hv1 hg7
            rw [HopF.out] at hul7
            rw [← HopFl.out] at ho7
            have xb := xb.grown hg7 (fun e => ownsRow_ne_bx hv1 xb (by decide) e.symm)
            have xr := xr.grown hg7 (fun e => ownsRow_ne_bx hv1 xr (by decide) e.symm)
            have hB := hB.grown hg7 hzc (fun b e => (hv1.lt b e).1)
            obtain ⟨oF, cF, rfl, _, hrow, _⟩ := ownsRow_at ho7
            have HO := Lib.hid (OpsAt.of hrow hul7)
            have HC : Hid (SlW oC L.length cC ∧ StrsAt (fun k => wS ≤ k ∧ k < wc.heap.size) wc oC L) := Lib.hid ⟨HC.out.1, (HC.out.2.same (w' := wc) (fun k hk => hg7.block k hk.2 (fun e => by have := HloT.out k e.symm; have := hk.1; omega))).mono fun k hk => ⟨hk.1, Nat.lt_of_lt_of_le hk.2 hg7.size⟩⟩
            clear c0 l0 HN hus hul hv1 hv2 hone hul1 ho7 hg7 hul7 hrow
            have c0 := xb.cell
            have l0 := xb.lt
            simp only [Act.put, List.setIfInBounds_toArray, List.set_cons_zero, List.set_cons_succ]
            refine wpAny_ready (rs := [0]) (by kernel_rfl) (by simp) ?_
            refine AllReady.cons rfl (fun K hK => ?_) AllReady.nil
            go_simp
            refine hK _ _ ?_
            clear hK K
            simp only [List.setIfInBounds_toArray, List.set_cons_zero]
            refine wpAny_ready (rs := [13]) (by kernel_rfl) (by simp) ?_
            refine AllReady.cons rfl (fun K hK => ?_) AllReady.nil
            go_simp
            have hfc := pl_finish l _ L oC cC opF oF cF wc (Hl0.out.below hB) HC.out.1 (HC.out.2.mono fun k hk => hk.2) HO.out (by have := HopFl.out; omega) (by have := Hver.out; omega) (by have := Hver.out; omega)
            rw [HF.out] at hfc
            refine hfc.mono ?_
            rintro e wd ⟨vF, rfl, hLF, hbb⟩
            refine hK _ _ ?_
            clear hK K hfc
            have hLF' := hLF
            obtain ⟨po2, pc2, co2, cc2, ro2, rc2, rfl, _, _, _⟩ := hLF
            have s9 : LgS w N l po co ro pc cc rc wd := ⟨xb.belowAll hbb, xr.belowAll hbb, btr hB hbb, Hl0.out.below (btr hB hbb)⟩
            obtain ⟨Wf, hWf⟩ : ∃ Wf, st8 wd (N + 1) (.int .i64 F.disk.size) (.slice po2 F.disk.pages.length pc2) (.slice co2 F.disk.cache.length cc2) (.int .i64 F.disk.left) (.int .i64 F.frm) (.int .i64 F.til) (.int .i64 F.ver) (.slice ro2 F.recs.length rc2) = Wf := ⟨_, rfl⟩
            obtain ⟨zR, zB, zL⟩ := s9.out hN hLF' hWf
            clear c0 l0
            have cX := s9.res.cell
            have lX := s9.res.lt
            have fX := s9.res.free
            have ZB := Lib.hid zB
            have ZL := Lib.hid zL
            have HWf := Lib.hid hWf
            clear zB zL hWf hLF' hbb xb xr hB HC HO s9
            simp only [List.setIfInBounds_toArray, List.set_cons_zero, List.set_cons_succ]
            refine wpAny_take (i := 14) (v := ?_) rfl (by kernel_rfl) (by kernel_rfl) (by kernel_rfl) (fun _ _ _ h => h) (Or.inl ⟨by rfl, ?_⟩) ?_
            rotate_left
            ·
             intro w; go_simp; try with_reducible rfl
            simp only [Act.put, List.setIfInBounds_toArray, List.set_cons_zero, List.set_cons_succ]
            refine wpAny_take (i := 15) (v := ?_) rfl (by kernel_rfl) (by kernel_rfl) (by kernel_rfl) (fun _ _ _ h => h) (Or.inl ⟨by rfl, ?_⟩) ?_
            rotate_left
            ·
             intro w; go_simp; try with_reducible rfl
            simp only [Act.put, List.setIfInBounds_toArray, List.set_cons_zero, List.set_cons_succ]
            refine wpAny_ready (rs := [16]) (by kernel_rfl) (by simp) ?_
            refine AllReady.cons rfl (fun K hK => ?_) AllReady.nil
            go_simp
            refine hK _ _ ?_
            clear hK K
            refine wpAny_ready (rs := [17]) (by kernel_rfl) (by simp) ?_
            refine AllReady.cons rfl (fun K hK => ?_) AllReady.nil
            go_simp
            refine hK _ _ ?_
            clear hK K
            refine wpAny_done (by kernel_rfl) ?_ _
            go_wp2
            have HW := HWf.out
            unfold st8 at HW
            rw [HW]
            have cZ := zR.cell
            refine bodyPost_ret (v := .tuple #[.agg (lgC F.disk po2 co2 pc2 cc2 F.frm F.til F.ver ro2 F.recs.length rc2), .int .i64 er]) (by simp [results, Tryd.results19, go_sem, cZ]) rfl ?_
            rw [HRF.out]
            exact ⟨_, rfl, ZL.out, ZB.out⟩
        ·
         go_simp
         refine hK _ _ ?_
         clear hK K
         simp only [List.setIfInBounds_toArray, List.set_cons_zero, List.set_cons_succ]
         refine wpAny_ready (rs := [0, 5]) (by kernel_rfl) (by simp) ?_
         refine AllReady.cons rfl (fun K hK => ?_) (AllReady.cons rfl (fun K hK => ?_) AllReady.nil)
         ·
          go_simp
          refine hK _ _ ?_
          clear hK K
          simp only [List.setIfInBounds_toArray, List.set_cons_zero]
          refine wpAny_ready (rs := [5]) (by kernel_rfl) (by simp) ?_
          refine AllReady.cons rfl (fun K hK => ?_) AllReady.nil
          go_simp
          refine (sl_ConcatS wc g _ _ x4 l.recs rs ⟨ro, rc, rfl, Hsl.out, Hst.out.below hB⟩ ⟨qo, qc, rfl, Hqs.out, Hqt.out.below hB⟩ (by have := Hbd.out; omega) hrl).mono ?_
          rintro e wc ⟨vC, rfl, hC, hbb⟩
          refine hK _ _ ?_
          clear hK K
          rw [HL.out] at hC
          obtain ⟨oC, cC, rfl, hCs, hCt⟩ := hC
          have HC : Hid (SlW oC L.length cC ∧ StrsAt (fun k => wS ≤ k ∧ k < wc.heap.size) wc oC L) := Lib.hid ⟨hCs, hCt.mono fun k hk => ⟨Nat.le_trans HwS.out hk.1, hk.2⟩⟩
          have hB := btr hB hbb
          have xb := xb.belowAll hbb
          have xr := xr.belowAll hbb
          have Hto := Lib.hid (Hto.out.below hbb)
          clear c0 l0 hbb x4 hCs hCt
          have c0 := xb.cell
          have l0 := xb.lt
          simp only [List.setIfInBounds_toArray, List.set_cons_zero, List.set_cons_succ]
          refine wpAny_ready (rs := [11]) (by kernel_rfl) (by simp) ?_
          refine AllReady.cons rfl (fun K hK => ?_) AllReady.nil
          go_simp
          rw [show IntKind.i64.wrap ((sz : Int) + (mo : Int)) = ((sz + mo : Nat) : Int) by rw [IntWalk.i64_in _ (by omega)]; omega]
          refine (Hnx.out _ hB).mono ?_
          rintro e wc ⟨bN, rfl, hN2, hbb⟩
          refine hK _ _ ?_
          clear hK K
          have HN := Lib.hid hN2
          have HC : Hid (SlW oC L.length cC ∧ StrsAt (fun k => wS ≤ k ∧ k < wc.heap.size) wc oC L) := Lib.hid ⟨HC.out.1, (HC.out.2.below hbb).mono fun k hk => ⟨hk.1, Nat.lt_of_lt_of_le hk.2 hbb.size⟩⟩
          have hB := btr hB hbb
          have xb := xb.belowAll hbb
          have xr := xr.belowAll hbb
          have Hto := Lib.hid (Hto.out.below hbb)
          clear c0 l0 hbb hN2
          have c0 := xb.cell
          have l0 := xb.lt
          simp only [List.setIfInBounds_toArray, List.set_cons_zero, List.set_cons_succ]
          refine wpAny_ready (rs := [12]) (by kernel_rfl) (by simp) ?_
          refine AllReady.cons rfl (fun K hK => ?_) AllReady.nil
          obtain ⟨us, hus, hul⟩ := HN.out.row
          obtain ⟨vs, hv1, hv2⟩ := Hto.out
          have hul1 : us.length = 2 := hul.1
          have hone : ∀ u ∈ us, u.oneCell' = true := by
           intro u hu
           obtain ⟨j, hj, rfl⟩ := List.getElem_of_mem hu
           have hj2 : j < 2 := by omega
           have hop := hul.2 j hj2 hj
           rcases j with _ | _ | j
           ·
            obtain ⟨bi, bd, e, _⟩ := hop
            rw [e]; rfl
           ·
            have e : us[1] = .func (.func 42) #[] #[] := hop
            rw [e]; rfl
           ·
            omega
          have hzc := hB.size
          refine wp_app (.tmp 55) (.tmp 60) 90 rfl w.heap.size 99 io _ 1 8 Tryd.underlying90 Hio.out.1 Hio.out.2.1 Hio.out.2.2.1 Hio.out.2.2.2 rfl (by decide) vT opT.length vs rfl hv1 (some ⟨bN, 0, none⟩) 2 2 us rfl (fun h => by cases h) (by omega) hus hone (by unfold maxLen; omega) (by omega) hzc ?_
          intro vF wc ho7 hg7
          refine hK _ _ ?_
          clear hK K
          have hul7 : OpL wc (vs ++ us) (opT ++ nextL l (sz + mo)) := (OpL.app hv2 hul).grown hv1 hg7
          rw [HopF.out] at hul7
          rw [← HopFl.out] at ho7
          have xb := xb.grown hg7 (fun e => ownsRow_ne_bx hv1 xb (by decide) e.symm)
          have xr := xr.grown hg7 (fun e => ownsRow_ne_bx hv1 xr (by decide) e.symm)
          have hB := hB.grown hg7 hzc (fun b e => (hv1.lt b e).1)
          obtain ⟨oF, cF, rfl, _, hrow, _⟩ := ownsRow_at ho7
          have HO := Lib.hid (OpsAt.of hrow hul7)
          have HC : Hid (SlW oC L.length cC ∧ StrsAt (fun k => wS ≤ k ∧ k < wc.heap.size) wc oC L) := Lib.hid ⟨HC.out.1, (HC.out.2.same (w' := wc) (fun k hk => hg7.block k hk.2 (fun e => by have := HloT.out k e.symm; have := hk.1; omega))).mono fun k hk => ⟨hk.1, Nat.lt_of_lt_of_le hk.2 hg7.size⟩⟩
          clear c0 l0 HN hus hul hv1 hv2 hone hul1 ho7 hg7 hul7 hrow
          have c0 := xb.cell
          have l0 := xb.lt
          simp only [Act.put, List.setIfInBounds_toArray, List.set_cons_zero, List.set_cons_succ]
          refine wpAny_ready (rs := [13]) (by kernel_rfl) (by simp) ?_
          refine AllReady.cons rfl (fun K hK => ?_) AllReady.nil
          go_simp
          have hfc := pl_finish l _ L oC cC opF oF cF wc (Hl0.out.below hB) HC.out.1 (HC.out.2.mono fun k hk => hk.2) HO.out (by have := HopFl.out; omega) (by have := Hver.out; omega) (by have := Hver.out; omega)
          rw [HF.out] at hfc
          refine hfc.mono ?_
          rintro e wd ⟨vF, rfl, hLF, hbb⟩
          refine hK _ _ ?_
          clear hK K hfc
          have hLF' := hLF
          obtain ⟨po2, pc2, co2, cc2, ro2, rc2, rfl, _, _, _⟩ := hLF
          have s9 : LgS w N l po co ro pc cc rc wd := ⟨xb.belowAll hbb, xr.belowAll hbb, btr hB hbb, Hl0.out.below (btr hB hbb)⟩
          obtain ⟨Wf, hWf⟩ : ∃ Wf, st8 wd (N + 1) (.int .i64 F.disk.size) (.slice po2 F.disk.pages.length pc2) (.slice co2 F.disk.cache.length cc2) (.int .i64 F.disk.left) (.int .i64 F.frm) (.int .i64 F.til) (.int .i64 F.ver) (.slice ro2 F.recs.length rc2) = Wf := ⟨_, rfl⟩
          obtain ⟨zR, zB, zL⟩ := s9.out hN hLF' hWf
          clear c0 l0
          have cX := s9.res.cell
          have lX := s9.res.lt
          have fX := s9.res.free
          have ZB := Lib.hid zB
          have ZL := Lib.hid zL
          have HWf := Lib.hid hWf
          clear zB zL hWf hLF' hbb xb xr hB HC HO s9
          simp only [List.setIfInBounds_toArray, List.set_cons_zero, List.set_cons_succ]
          refine wpAny_take (i := 14) (v := ?_) rfl (by kernel_rfl) (by kernel_rfl) (by kernel_rfl) (fun _ _ _ h => h) (Or.inl ⟨by rfl, ?_⟩) ?_
          rotate_left
          ·
           intro w; go_simp; try with_reducible rfl
          simp only [Act.put, List.setIfInBounds_toArray, List.set_cons_zero, List.set_cons_succ]
          refine wpAny_take (i := 15) (v := ?_) rfl (by kernel_rfl) (by kernel_rfl) (by kernel_rfl) (fun _ _ _ h => h) (Or.inl ⟨by rfl, ?_⟩) ?_
          rotate_left
          ·
           intro w; go_simp; try with_reducible rfl
          simp only [Act.put, List.setIfInBounds_toArray, List.set_cons_zero, List.set_cons_succ]
          refine wpAny_ready (rs := [16]) (by kernel_rfl) (by simp) ?_
          refine AllReady.cons rfl (fun K hK => ?_) AllReady.nil
          go_simp
          refine hK _ _ ?_
          clear hK K
          refine wpAny_ready (rs := [17]) (by kernel_rfl) (by simp) ?_
          refine AllReady.cons rfl (fun K hK => ?_) AllReady.nil
          go_simp
          refine hK _ _ ?_
          clear hK K
          refine wpAny_done (by kernel_rfl) ?_ _
          go_wp2
          have HW := HWf.out
          unfold st8 at HW
          rw [HW]
          have cZ := zR.cell
          refine bodyPost_ret (v := .tuple #[.agg (lgC F.disk po2 co2 pc2 cc2 F.frm F.til F.ver ro2 F.recs.length rc2), .int .i64 er]) (by simp [results, Tryd.results19, go_sem, cZ]) rfl ?_
          rw [HRF.out]
          exact ⟨_, rfl, ZL.out, ZB.out⟩
         ·
          go_simp
          refine (sl_ConcatS wc g _ _ x4 l.recs rs ⟨ro, rc, rfl, Hsl.out, Hst.out.below hB⟩ ⟨qo, qc, rfl, Hqs.out, Hqt.out.below hB⟩ (by have := Hbd.out; omega) hrl).mono ?_
          rintro e wc ⟨vC, rfl, hC, hbb⟩
          refine hK _ _ ?_
          clear hK K
          rw [HL.out] at hC
          obtain ⟨oC, cC, rfl, hCs, hCt⟩ := hC
          have HC : Hid (SlW oC L.length cC ∧ StrsAt (fun k => wS ≤ k ∧ k < wc.heap.size) wc oC L) := Lib.hid ⟨hCs, hCt.mono fun k hk => ⟨Nat.le_trans HwS.out hk.1, hk.2⟩⟩
          have hB := btr hB hbb
          have xb := xb.belowAll hbb
          have xr := xr.belowAll hbb
          have Hto := Lib.hid (Hto.out.below hbb)
          clear c0 l0 hbb x4 hCs hCt
          have c0 := xb.cell
          have l0 := xb.lt
          simp only [List.setIfInBounds_toArray, List.set_cons_zero, List.set_cons_succ]
          refine wpAny_ready (rs := [0, 11]) (by kernel_rfl) (by simp) ?_
          refine AllReady.cons rfl (fun K hK => ?_) (AllReady.cons rfl (fun K hK => ?_) AllReady.nil)
          ·
           go_simp
           refine hK _ _ ?_
           clear hK K
           simp only [List.setIfInBounds_toArray, List.set_cons_zero]
           refine wpAny_ready (rs := [11]) (by kernel_rfl) (by simp) ?_
           refine AllReady.cons rfl (fun K hK => ?_) AllReady.nil
           go_simp
           rw [show IntKind.i64.wrap ((sz : Int) + (mo : Int)) = ((sz + mo : Nat) : Int) by rw [IntWalk.i64_in _ (by omega)]; omega]
           refine (Hnx.out _ hB).mono ?_
           rintro e wc ⟨bN, rfl, hN2, hbb⟩
           refine hK _ _ ?_
           clear hK K
           have HN := Lib.hid hN2
           have HC : Hid (SlW oC L.length cC ∧ StrsAt (fun k => wS ≤ k ∧ k < wc.heap.size) wc oC L) := Lib.hid ⟨HC.out.1, (HC.out.2.below hbb).mono fun k hk => ⟨hk.1, Nat.lt_of_lt_of_le hk.2 hbb.size⟩⟩
           have hB := btr hB hbb
           have xb := xb.belowAll hbb
           have xr := xr.belowAll hbb
           have Hto := Lib.hid (Hto.out.below hbb)
           clear c0 l0 hbb hN2
           have c0 := xb.cell
           have l0 := xb.lt
           simp only [List.setIfInBounds_toArray, List.set_cons_zero, List.set_cons_succ]
           refine wpAny_ready (rs := [12]) (by kernel_rfl) (by simp) ?_
           refine AllReady.cons rfl (fun K hK => ?_) AllReady.nil
           obtain ⟨us, hus, hul⟩ := HN.out.row
           obtain ⟨vs, hv1, hv2⟩ := Hto.out
           have hul1 : us.length = 2 := hul.1
           have hone : ∀ u ∈ us, u.oneCell' = true := by
            intro u hu
            obtain ⟨j, hj, rfl⟩ := List.getElem_of_mem hu
            have hj2 : j < 2 := by omega
            have hop := hul.2 j hj2 hj
            rcases j with _ | _ | j
            ·
             obtain ⟨bi, bd, e, _⟩ := hop
             rw [e]; rfl
            ·
             have e : us[1] = .func (.func 42) #[] #[] := hop
             rw [e]; rfl
            ·
             omega
           have hzc := hB.size
           refine wp_app (.tmp 55) (.tmp 60) 90 rfl w.heap.size 99 io _ 1 8 Tryd.underlying90 Hio.out.1 Hio.out.2.1 Hio.out.2.2.1 Hio.out.2.2.2 rfl (by decide) vT opT.length vs rfl hv1 (some ⟨bN, 0, none⟩) 2 2 us rfl (fun h => by cases h) (by omega) hus hone (by unfold maxLen; omega) (by omega) hzc ?_
           intro vF wc ho7 hg7
           refine hK _ _ ?_
           clear hK K
           have hul7 : OpL wc (vs ++ us) (opT ++ nextL l (sz + mo)) := (OpL.app hv2 hul).grown hv1 hg7
           rw [HopF.out] at hul7
           rw [← HopFl.out] at ho7
           have xb := xb.grown hg7 (fun e => ownsRow_ne_bx hv1 xb (by decide) e.symm)
           have xr := xr.grown hg7 (fun e => ownsRow_ne_bx hv1 xr (by decide) e.symm)
           have hB := hB.grown hg7 hzc (fun b e => (hv1.lt b e).1)
           obtain ⟨oF, cF, rfl, _, hrow, _⟩ := ownsRow_at ho7
           have HO := Lib.hid (OpsAt.of hrow hul7)
           have HC : Hid (SlW oC L.length cC ∧ StrsAt (fun k => wS ≤ k ∧ k < wc.heap.size) wc oC L) := Lib.hid ⟨HC.out.1, (HC.out.2.same (w' := wc) (fun k hk => hg7.block k hk.2 (fun e => by have := HloT.out k e.symm; have := hk.1; omega))).mono fun k hk => ⟨hk.1, Nat.lt_of_lt_of_le hk.2 hg7.size⟩⟩
           clear c0 l0 HN hus hul hv1 hv2 hone hul1 ho7 hg7 hul7 hrow
           have c0 := xb.cell
           have l0 := xb.lt
           simp only [Act.put, List.setIfInBounds_toArray, List.set_cons_zero, List.set_cons_succ]
           refine wpAny_ready (rs := [13]) (by kernel_rfl) (by simp) ?_
           refine AllReady.cons rfl (fun K hK => ?_) AllReady.nil
           go_simp
           have hfc := pl_finish l _ L oC cC opF oF cF wc (Hl0.out.below hB) HC.out.1 (HC.out.2.mono fun k hk => hk.2) HO.out (by have := HopFl.out; omega) (by have := Hver.out; omega) (by have := Hver.out; omega)
           rw [HF.out] at hfc
           refine hfc.mono ?_
           rintro e wd ⟨vF, rfl, hLF, hbb⟩
           refine hK _ _ ?_
           clear hK K hfc
           have hLF' := hLF
           obtain ⟨po2, pc2, co2, cc2, ro2, rc2, rfl, _, _, _⟩ := hLF
           have s9 : LgS w N l po co ro pc cc rc wd := ⟨xb.belowAll hbb, xr.belowAll hbb, btr hB hbb, Hl0.out.below (btr hB hbb)⟩
           obtain ⟨Wf, hWf⟩ : ∃ Wf, st8 wd (N + 1) (.int .i64 F.disk.size) (.slice po2 F.disk.pages.length pc2) (.slice co2 F.disk.cache.length cc2) (.int .i64 F.disk.left) (.int .i64 F.frm) (.int .i64 F.til) (.int .i64 F.ver) (.slice ro2 F.recs.length rc2) = Wf := ⟨_, rfl⟩
           obtain ⟨zR, zB, zL⟩ := s9.out hN hLF' hWf
           clear c0 l0
           have cX := s9.res.cell
           have lX := s9.res.lt
           have fX := s9.res.free
           have ZB := Lib.hid zB
           have ZL := Lib.hid zL
           have HWf := Lib.hid hWf
           clear zB zL hWf hLF' hbb xb xr hB HC HO s9
           simp only [List.setIfInBounds_toArray, List.set_cons_zero, List.set_cons_succ]
           refine wpAny_take (i := 14) (v := ?_) rfl (by kernel_rfl) (by kernel_rfl) (by kernel_rfl) (fun _ _ _ h => h) (Or.inl ⟨by rfl, ?_⟩) ?_
           rotate_left
           ·
            intro w; go_simp; try with_reducible rfl
           simp only [Act.put, List.setIfInBounds_toArray, List.set_cons_zero, List.set_cons_succ]
           refine wpAny_take (i := 15) (v := ?_) rfl (by kernel_rfl) (by kernel_rfl) (by kernel_rfl) (fun _ _ _ h => h) (Or.inl ⟨by rfl, ?_⟩) ?_
           rotate_left
           ·
            intro w; go_simp; try with_reducible rfl
           simp only [Act.put, List.setIfInBounds_toArray, List.set_cons_zero, List.set_cons_succ]
           refine wpAny_ready (rs := [16]) (by kernel_rfl) (by simp) ?_
           refine AllReady.cons rfl (fun K hK => ?_) AllReady.nil
           go_simp
           refine hK _ _ ?_
           clear hK K
           refine wpAny_ready (rs := [17]) (by kernel_rfl) (by simp) ?_
           refine AllReady.cons rfl (fun K hK => ?_) AllReady.nil
           go_simp
           refine hK _ _ ?_
           clear hK K
           refine wpAny_done (by kernel_rfl) ?_ _
           go_wp2
           have HW := HWf.out
           unfold st8 at HW
           rw [HW]
           have cZ := zR.cell
           refine bodyPost_ret (v := .tuple #[.agg (lgC F.disk po2 co2 pc2 cc2 F.frm F.til F.ver ro2 F.recs.length rc2), .int .i64 er]) (by simp [results, Tryd.results19, go_sem, cZ]) rfl ?_
           rw [HRF.out]
           exact ⟨_, rfl, ZL.out, ZB.out⟩
          ·
           go_simp
           rw [show IntKind.i64.wrap ((sz : Int) + (mo : Int)) = ((sz + mo : Nat) : Int) by rw [IntWalk.i64_in _ (by omega)]; omega]
           refine (Hnx.out _ hB).mono ?_
           rintro e wc ⟨bN, rfl, hN2, hbb⟩
           refine hK _ _ ?_
           clear hK K
           have HN := Lib.hid hN2
           have HC : Hid (SlW oC L.length cC ∧ StrsAt (fun k => wS ≤ k ∧ k < wc.heap.size) wc oC L) := Lib.hid ⟨HC.out.1, (HC.out.2.below hbb).mono fun k hk => ⟨hk.1, Nat.lt_of_lt_of_le hk.2 hbb.size⟩⟩
           have hB := btr hB hbb
           have xb := xb.belowAll hbb
           have xr := xr.belowAll hbb
           have Hto := Lib.hid (Hto.out.below hbb)
           clear c0 l0 hbb hN2
           have c0 := xb.cell
           have l0 := xb.lt
           simp only [List.setIfInBounds_toArray, List.set_cons_zero, List.set_cons_succ]
           refine wpAny_ready (rs := [0, 12]) (by kernel_rfl) (by simp) ?_
           refine AllReady.cons rfl (fun K hK => ?_) (AllReady.cons rfl (fun K hK => ?_) AllReady.nil)
           ·
            go_simp
            refine hK _ _ ?_
            clear hK K
            simp only [List.setIfInBounds_toArray, List.set_cons_zero]
            refine wpAny_ready (rs := [12]) (by kernel_rfl) (by simp) ?_
            refine AllReady.cons rfl (fun K hK => ?_) AllReady.nil
            obtain ⟨us, hus, hul⟩ := HN.out.row
            obtain ⟨vs, hv1, hv2⟩ := Hto.out
            have hul1 : us.length = 2 := hul.1
            have hone : ∀ u ∈ us, u.oneCell' = true := by
             intro u hu
             obtain ⟨j, hj, rfl⟩ := List.getElem_of_mem hu
             have hj2 : j < 2 := by omega
             have hop := hul.2 j hj2 hj
             rcases j with _ | _ | j
             ·
              obtain ⟨bi, bd, e, _⟩ := hop
              rw [e]; rfl
             ·
              have e : us[1] = .func (.func 42) #[] #[] := hop
              rw [e]; rfl
             ·
              omega
            have hzc := hB.size
            refine wp_app (.tmp 55) (.tmp 60) 90 rfl w.heap.size 99 io _ 1 8 Tryd.underlying90 Hio.out.1 Hio.out.2.1 Hio.out.2.2.1 Hio.out.2.2.2 rfl (by decide) vT opT.length vs rfl hv1 (some ⟨bN, 0, none⟩) 2 2 us rfl (fun h => by cases h) (by omega) hus hone (by unfold maxLen; omega) (by omega) hzc ?_
            intro vF wc ho7 hg7
            refine hK _ _ ?_
            clear hK K
            have hul7 : OpL wc (vs ++ us) (opT ++ nextL l (sz + mo)) := (OpL.app hv2 hul).grown hv1 hg7
            rw [HopF.out] at hul7
            rw [← HopFl.out] at ho7
            have xb := xb.grown hg7 (fun e => ownsRow_ne_bx hv1 xb (by decide) e.symm)
            have xr := xr.grown hg7 (fun e => ownsRow_ne_bx hv1 xr (by decide) e.symm)
            have hB := hB.grown hg7 hzc (fun b e => (hv1.lt b e).1)
            obtain ⟨oF, cF, rfl, _, hrow, _⟩ := ownsRow_at ho7
            have HO := Lib.hid (OpsAt.of hrow hul7)
            have HC : Hid (SlW oC L.length cC ∧ StrsAt (fun k => wS ≤ k ∧ k < wc.heap.size) wc oC L) := Lib.hid ⟨HC.out.1, (HC.out.2.same (w' := wc) (fun k hk => hg7.block k hk.2 (fun e => by have := HloT.out k e.symm; have := hk.1; omega))).mono fun k hk => ⟨hk.1, Nat.lt_of_lt_of_le hk.2 hg7.size⟩⟩
            clear c0 l0 HN hus hul hv1 hv2 hone hul1 ho7 hg7 hul7 hrow
            have c0 := xb.cell
            have l0 := xb.lt
            simp only [Act.put, List.setIfInBounds_toArray, List.set_cons_zero, List.set_cons_succ]
            refine wpAny_ready (rs := [13]) (by kernel_rfl) (by simp) ?_
            refine AllReady.cons rfl (fun K hK => ?_) AllReady.nil
            go_simp
            have hfc := pl_finish l _ L oC cC opF oF cF wc (Hl0.out.below hB) HC.out.1 (HC.out.2.mono fun k hk => hk.2) HO.out (by have := HopFl.out; omega) (by have := Hver.out; omega) (by have := Hver.out; omega)
            rw [HF.out] at hfc
            refine hfc.mono ?_
            rintro e wd ⟨vF, rfl, hLF, hbb⟩
            refine hK _ _ ?_
            clear hK K hfc
            have hLF' := hLF
            obtain ⟨po2, pc2, co2, cc2, ro2, rc2, rfl, _, _, _⟩ := hLF
            have s9 : LgS w N l po co ro pc cc rc wd := ⟨xb.belowAll hbb, xr.belowAll hbb, btr hB hbb, Hl0.out.below (btr hB hbb)⟩
            obtain ⟨Wf, hWf⟩ : ∃ Wf, st8 wd (N + 1) (.int .i64 F.disk.size) (.slice po2 F.disk.pages.length pc2) (.slice co2 F.disk.cache.length cc2) (.int .i64 F.disk.left) (.int .i64 F.frm) (.int .i64 F.til) (.int .i64 F.ver) (.slice ro2 F.recs.length rc2) = Wf := ⟨_, rfl⟩
            obtain ⟨zR, zB, zL⟩ := s9.out hN hLF' hWf
            clear c0 l0
            have cX := s9.res.cell
            have lX := s9.res.lt
            have fX := s9.res.free
            have ZB := Lib.hid zB
            have ZL := Lib.hid zL
            have HWf := Lib.hid hWf
            clear zB zL hWf hLF' hbb xb xr hB HC HO s9
            simp only [List.setIfInBounds_toArray, List.set_cons_zero, List.set_cons_succ]
            refine wpAny_take (i := 14) (v := ?_) rfl (by kernel_rfl) (by kernel_rfl) (by kernel_rfl) (fun _ _ _ h => h) (Or.inl ⟨by rfl, ?_⟩) ?_
            rotate_left
            ·
             intro w; go_simp; try with_reducible rfl
            simp only [Act.put, List.setIfInBounds_toArray, List.set_cons_zero, List.set_cons_succ]
            refine wpAny_take (i := 15) (v := ?_) rfl (by kernel_rfl) (by kernel_rfl) (by kernel_rfl) (fun _ _ _ h => h) (Or.inl ⟨by rfl, ?_⟩) ?_
            rotate_left
            ·
             intro w; go_simp; try with_reducible rfl
            simp only [Act.put, List.setIfInBounds_toArray, List.set_cons_zero, List.set_cons_succ]
            refine wpAny_ready (rs := [16]) (by kernel_rfl) (by simp) ?_
            refine AllReady.cons rfl (fun K hK => ?_) AllReady.nil
            go_simp
            refine hK _ _ ?_
            clear hK K
            refine wpAny_ready (rs := [17]) (by kernel_rfl) (by simp) ?_
            refine AllReady.cons rfl (fun K hK => ?_) AllReady.nil
            go_simp
            refine hK _ _ ?_
            clear hK K
            refine wpAny_done (by kernel_rfl) ?_ _
            go_wp2
            have HW := HWf.out
            unfold st8 at HW
            rw [HW]
            have cZ := zR.cell
            refine bodyPost_ret (v := .tuple #[.agg (lgC F.disk po2 co2 pc2 cc2 F.frm F.til F.ver ro2 F.recs.length rc2), .int .i64 er]) (by simp [results, Tryd.results19, go_sem, cZ]) rfl ?_
            rw [HRF.out]
            exact ⟨_, rfl, ZL.out, ZB.out⟩
           ·
            obtain ⟨us, hus, hul⟩ := HN.out.row
            obtain ⟨vs, hv1, hv2⟩ := Hto.out
            have hul1 : us.length = 2 := hul.1
            have hone : ∀ u ∈ us, u.oneCell' = true := by
             intro u hu
             obtain ⟨j, hj, rfl⟩ := List.getElem_of_mem hu
             have hj2 : j < 2 := by omega
             have hop := hul.2 j hj2 hj
             rcases j with _ | _ | j
             ·
              obtain ⟨bi, bd, e, _⟩ := hop
              rw [e]; rfl
             ·
              have e : us[1] = .func (.func 42) #[] #[] := hop
              rw [e]; rfl
             ·
              omega
            have hzc := hB.size
            refine wp_app (.tmp 55) (.tmp 60) 90 rfl w.heap.size 99 io _ 1 8 Tryd.underlying90 Hio.out.1 Hio.out.2.1 Hio.out.2.2.1 Hio.out.2.2.2 rfl (by decide) vT opT.length vs rfl hv1 (some ⟨bN, 0, none⟩) 2 2 us rfl (fun h => by cases h) (by omega) hus hone (by unfold maxLen; omega) (by omega) hzc ?_
            intro vF wc ho7 hg7
            refine hK _ _ ?_
            clear hK K
            have hul7 : OpL wc (vs ++ us) (opT ++ nextL l (sz + mo)) := (OpL.app hv2 hul).grown hv1 hg7
            rw [HopF.out] at hul7
            rw [← HopFl.out] at ho7
            have xb := xb.grown hg7 (fun e => ownsRow_ne_bx hv1 xb (by decide) e.symm)
            have xr := xr.grown hg7 (fun e => ownsRow_ne_bx hv1 xr (by decide) e.symm)
            have hB := hB.grown hg7 hzc (fun b e => (hv1.lt b e).1)
            obtain ⟨oF, cF, rfl, _, hrow, _⟩ := ownsRow_at ho7
            have HO := Lib.hid (OpsAt.of hrow hul7)
            have HC : Hid (SlW oC L.length cC ∧ StrsAt (fun k => wS ≤ k ∧ k < wc.heap.size) wc oC L) := Lib.hid ⟨HC.out.1, (HC.out.2.same (w' := wc) (fun k hk => hg7.block k hk.2 (fun e => by have := HloT.out k e.symm; have := hk.1; omega))).mono fun k hk => ⟨hk.1, Nat.lt_of_lt_of_le hk.2 hg7.size⟩⟩
            clear c0 l0 HN hus hul hv1 hv2 hone hul1 ho7 hg7 hul7 hrow
            have c0 := xb.cell
            have l0 := xb.lt
            simp only [Act.put, List.setIfInBounds_toArray, List.set_cons_zero, List.set_cons_succ]
            refine wpAny_ready (rs := [0]) (by kernel_rfl) (by simp) ?_
            refine AllReady.cons rfl (fun K hK => ?_) AllReady.nil
            go_simp
            refine hK _ _ ?_
            clear hK K
            simp only [List.setIfInBounds_toArray, List.set_cons_zero]
            refine wpAny_ready (rs := [13]) (by kernel_rfl) (by simp) ?_
            refine AllReady.cons rfl (fun K hK => ?_) AllReady.nil
            go_simp
            have hfc := pl_finish l _ L oC cC opF oF cF wc (Hl0.out.below hB) HC.out.1 (HC.out.2.mono fun k hk => hk.2) HO.out (by have := HopFl.out; omega) (by have := Hver.out; omega) (by have := Hver.out; omega)
            rw [HF.out] at hfc
            refine hfc.mono ?_
            rintro e wd ⟨vF, rfl, hLF, hbb⟩
            refine hK _ _ ?_
            clear hK K hfc
            have hLF' := hLF
            obtain ⟨po2, pc2, co2, cc2, ro2, rc2, rfl, _, _, _⟩ := hLF
            have s9 : LgS w N l po co ro pc cc rc wd := ⟨xb.belowAll hbb, xr.belowAll hbb, btr hB hbb, Hl0.out.below (btr hB hbb)⟩
            obtain ⟨Wf, hWf⟩ : ∃ Wf, st8 wd (N + 1) (.int .i64 F.disk.size) (.slice po2 F.disk.pages.length pc2) (.slice co2 F.disk.cache.length cc2) (.int .i64 F.disk.left) (.int .i64 F.frm) (.int .i64 F.til) (.int .i64 F.ver) (.slice ro2 F.recs.length rc2) = Wf := ⟨_, rfl⟩
            obtain ⟨zR, zB, zL⟩ := s9.out hN hLF' hWf
            clear c0 l0
            have cX := s9.res.cell
            have lX := s9.res.lt
            have fX := s9.res.free
            have ZB := Lib.hid zB
            have ZL := Lib.hid zL
            have HWf := Lib.hid hWf
            clear zB zL hWf hLF' hbb xb xr hB HC HO s9
            simp only [List.setIfInBounds_toArray, List.set_cons_zero, List.set_cons_succ]
            refine wpAny_take (i := 14) (v := ?_) rfl (by kernel_rfl) (by kernel_rfl) (by kernel_rfl) (fun _ _ _ h => h) (Or.inl ⟨by rfl, ?_⟩) ?_
            rotate_left
            ·
             intro w; go_simp; try with_reducible rfl
            simp only [Act.put, List.setIfInBounds_toArray, List.set_cons_zero, List.set_cons_succ]
            refine wpAny_take (i := 15) (v := ?_) rfl (by kernel_rfl) (by kernel_rfl) (by kernel_rfl) (fun _ _ _ h => h) (Or.inl ⟨by rfl, ?_⟩) ?_
            rotate_left
            ·
             intro w; go_simp; try with_reducible rfl
            simp only [Act.put, List.setIfInBounds_toArray, List.set_cons_zero, List.set_cons_succ]
            refine wpAny_ready (rs := [16]) (by kernel_rfl) (by simp) ?_
            refine AllReady.cons rfl (fun K hK => ?_) AllReady.nil
            go_simp
            refine hK _ _ ?_
            clear hK K
            refine wpAny_ready (rs := [17]) (by kernel_rfl) (by simp) ?_
            refine AllReady.cons rfl (fun K hK => ?_) AllReady.nil
            go_simp
            refine hK _ _ ?_
            clear hK K
            refine wpAny_done (by kernel_rfl) ?_ _
            go_wp2
            have HW := HWf.out
            unfold st8 at HW
            rw [HW]
            have cZ := zR.cell
            refine bodyPost_ret (v := .tuple #[.agg (lgC F.disk po2 co2 pc2 cc2 F.frm F.til F.ver ro2 F.recs.length rc2), .int .i64 er]) (by simp [results, Tryd.results19, go_sem, cZ]) rfl ?_
            rw [HRF.out]
            exact ⟨_, rfl, ZL.out, ZB.out⟩
       ·
        go_simp
        refine hK _ _ ?_
        clear hK K
        simp only [List.setIfInBounds_toArray, List.set_cons_zero, List.set_cons_succ]
        refine wpAny_ready (rs := [0, 4]) (by kernel_rfl) (by simp) ?_
        refine AllReady.cons rfl (fun K hK => ?_) (AllReady.cons rfl (fun K hK => ?_) AllReady.nil)
        ·
         go_simp
         refine hK _ _ ?_
         clear hK K
         simp only [List.setIfInBounds_toArray, List.set_cons_zero]
         refine wpAny_ready (rs := [4]) (by kernel_rfl) (by simp) ?_
         refine AllReady.cons rfl (fun K hK => ?_) AllReady.nil
         go_simp
         refine hK _ _ ?_
         clear hK K
         have x4 := Bx.new wc #[.slice ro l.recs.length rc, .slice qo rs.length qc] 27
         have hbb := Below.one wc (.cells #[.slice ro l.recs.length rc, .slice qo rs.length qc] 27)
         obtain ⟨g, hg⟩ : ∃ g, wc.heap.size = g := ⟨_, rfl⟩
         rw [hg] at x4
         obtain ⟨wc, hwc⟩ : ∃ W', wc.alloc (.cells #[.slice ro l.recs.length rc, .slice qo rs.length qc] 27) = W' := ⟨_, rfl⟩
         rw [hwc] at x4 hbb
         rw [hwc, hg]
         clear hwc
         have hB := btr hB hbb
         have xb := xb.belowAll hbb
         have xr := xr.belowAll hbb
         have Hto := Lib.hid (Hto.out.below hbb)
         have HwS : Hid (wS ≤ wc.heap.size) := Lib.hid (Nat.le_trans HwS.out hbb.size)
         clear c0 l0 hbb hg
         have c0 := xb.cell
         have l0 := xb.lt
         simp only [List.setIfInBounds_toArray, List.set_cons_zero, List.set_cons_succ]
         refine wpAny_ready (rs := [5]) (by kernel_rfl) (by simp) ?_
         refine AllReady.cons rfl (fun K hK => ?_) AllReady.nil
         go_simp
         refine (sl_ConcatS wc g _ _ x4 l.recs rs ⟨ro, rc, rfl, Hsl.out, Hst.out.below hB⟩ ⟨qo, qc, rfl, Hqs.out, Hqt.out.below hB⟩ (by have := Hbd.out; omega) hrl).mono ?_
         rintro e wc ⟨vC, rfl, hC, hbb⟩
         refine hK _ _ ?_
         clear hK K
         rw [HL.out] at hC
         obtain ⟨oC, cC, rfl, hCs, hCt⟩ := hC
         have HC : Hid (SlW oC L.length cC ∧ StrsAt (fun k => wS ≤ k ∧ k < wc.heap.size) wc oC L) := Lib.hid ⟨hCs, hCt.mono fun k hk => ⟨Nat.le_trans HwS.out hk.1, hk.2⟩⟩
         have hB := btr hB hbb
         have xb := xb.belowAll hbb
         have xr := xr.belowAll hbb
         have Hto := Lib.hid (Hto.out.below hbb)
         clear c0 l0 hbb x4 hCs hCt
         have c0 := xb.cell
         have l0 := xb.lt
         simp only [List.setIfInBounds_toArray, List.set_cons_zero, List.set_cons_succ]
         refine wpAny_ready (rs := [11]) (by kernel_rfl) (by simp) ?_
         refine AllReady.cons rfl (fun K hK => ?_) AllReady.nil
         go_simp
         rw [show IntKind.i64.wrap ((sz : Int) + (mo : Int)) = ((sz + mo : Nat) : Int) by rw [IntWalk.i64_in _ (by omega)]; omega]
         refine (Hnx.out _ hB).mono ?_
         rintro e wc ⟨bN, rfl, hN2, hbb⟩
         refine hK _ _ ?_
         clear hK K
         have HN := Lib.hid hN2
         have HC : Hid (SlW oC L.length cC ∧ StrsAt (fun k => wS ≤ k ∧ k < wc.heap.size) wc oC L) := Lib.hid ⟨HC.out.1, (HC.out.2.below hbb).mono fun k hk => ⟨hk.1, Nat.lt_of_lt_of_le hk.2 hbb.size⟩⟩
         have hB := btr hB hbb
         have xb := xb.belowAll hbb
         have xr := xr.belowAll hbb
         have Hto := Lib.hid (Hto.out.below hbb)
         clear c0 l0 hbb hN2
         have c0 := xb.cell
         have l0 := xb.lt
         simp only [List.setIfInBounds_toArray, List.set_cons_zero, List.set_cons_succ]
         refine wpAny_ready (rs := [12]) (by kernel_rfl) (by simp) ?_
         refine AllReady.cons rfl (fun K hK => ?_) AllReady.nil
         obtain ⟨us, hus, hul⟩ := HN.out.row
         obtain ⟨vs, hv1, hv2⟩ := Hto.out
         have hul1 : us.length = 2 := hul.1
         have hone : ∀ u ∈ us, u.oneCell' = true := by
          intro u hu
          obtain ⟨j, hj, rfl⟩ := List.getElem_of_mem hu
          have hj2 : j < 2 := by omega
          have hop := hul.2 j hj2 hj
          rcases j with _ | _ | j
          ·
           obtain ⟨bi, bd, e, _⟩ := hop
           rw [e]; rfl
          ·
           have e : us[1] = .func (.func 42) #[] #[] := hop
           rw [e]; rfl
          ·
           omega
         have hzc := hB.size
         refine wp_app (.tmp 55) (.tmp 60) 90 rfl w.heap.size 99 io _ 1 8 Tryd.underlying90 Hio.out.1 Hio.out.2.1 Hio.out.2.2.1 Hio.out.2.2.2 rfl (by decide) vT opT.length vs rfl hv1 (some ⟨bN, 0, none⟩) 2 2 us rfl (fun h => by cases h) (by omega) hus hone (by unfold maxLen; omega) (by omega) hzc ?_
         intro vF wc ho7 hg7
         refine hK _ _ ?_
         clear hK K
         have hul7 : OpL wc (vs ++ us) (opT ++ nextL l (sz + mo)) := (OpL.app hv2 hul).grown hv1 hg7
         rw [HopF.out] at hul7
         rw [← HopFl.out] at ho7
         have xb := xb.grown hg7 (fun e => ownsRow_ne_bx hv1 xb (by decide) e.symm)
         have xr := xr.grown hg7 (fun e => ownsRow_ne_bx hv1 xr (by decide) e.symm)
         have hB := hB.grown hg7 hzc (fun b e => (hv1.lt b e).1)
         obtain ⟨oF, cF, rfl, _, hrow, _⟩ := ownsRow_at ho7
         have HO := Lib.hid (OpsAt.of hrow hul7)
         have HC : Hid (SlW oC L.length cC ∧ StrsAt (fun k => wS ≤ k ∧ k < wc.heap.size) wc oC L) := Lib.hid ⟨HC.out.1, (HC.out.2.same (w' := wc) (fun k hk => hg7.block k hk.2 (fun e => by have := HloT.out k e.symm; have := hk.1; omega))).mono fun k hk => ⟨hk.1, Nat.lt_of_lt_of_le hk.2 hg7.size⟩⟩
         clear c0 l0 HN hus hul hv1 hv2 hone hul1 ho7 hg7 hul7 hrow
         have c0 := xb.cell
         have l0 := xb.lt
         simp only [Act.put, List.setIfInBounds_toArray, List.set_cons_zero, List.set_cons_succ]
         refine wpAny_ready (rs := [13]) (by kernel_rfl) (by simp) ?_
         refine AllReady.cons rfl (fun K hK => ?_) AllReady.nil
         go_simp
         have hfc := pl_finish l _ L oC cC opF oF cF wc (Hl0.out.below hB) HC.out.1 (HC.out.2.mono fun k hk => hk.2) HO.out (by have := HopFl.out; omega) (by have := Hver.out; omega) (by have := Hver.out; omega)
         rw [HF.out] at hfc
         refine hfc.mono ?_
         rintro e wd ⟨vF, rfl, hLF, hbb⟩
         refine hK _ _ ?_
         clear hK K hfc
         have hLF' := hLF
         obtain ⟨po2, pc2, co2, cc2, ro2, rc2, rfl, _, _, _⟩ := hLF
         have s9 : LgS w N l po co ro pc cc rc wd := ⟨xb.belowAll hbb, xr.belowAll hbb, btr hB hbb, Hl0.out.below (btr hB hbb)⟩
         obtain ⟨Wf, hWf⟩ : ∃ Wf, st8 wd (N + 1) (.int .i64 F.disk.size) (.slice po2 F.disk.pages.length pc2) (.slice co2 F.disk.cache.length cc2) (.int .i64 F.disk.left) (.int .i64 F.frm) (.int .i64 F.til) (.int .i64 F.ver) (.slice ro2 F.recs.length rc2) = Wf := ⟨_, rfl⟩
         obtain ⟨zR, zB, zL⟩ := s9.out hN hLF' hWf
         clear c0 l0
         have cX := s9.res.cell
         have lX := s9.res.lt
         have fX := s9.res.free
         have ZB := Lib.hid zB
         have ZL := Lib.hid zL
         have HWf := Lib.hid hWf
         clear zB zL hWf hLF' hbb xb xr hB HC HO s9
         simp only [List.setIfInBounds_toArray, List.set_cons_zero, List.set_cons_succ]
         refine wpAny_take (i := 14) (v := ?_) rfl (by kernel_rfl) (by kernel_rfl) (by kernel_rfl) (fun _ _ _ h => h) (Or.inl ⟨by rfl, ?_⟩) ?_
         rotate_left
         ·
          intro w; go_simp; try with_reducible rfl
         simp only [Act.put, List.setIfInBounds_toArray, List.set_cons_zero, List.set_cons_succ]
         refine wpAny_take (i := 15) (v := ?_) rfl (by kernel_rfl) (by kernel_rfl) (by kernel_rfl) (fun _ _ _ h => h) (Or.inl ⟨by rfl, ?_⟩) ?_
         rotate_left
         ·
          intro w; go_simp; try with_reducible rfl
         simp only [Act.put, List.setIfInBounds_toArray, List.set_cons_zero, List.set_cons_succ]
         refine wpAny_ready (rs := [16]) (by kernel_rfl) (by simp) ?_
         refine AllReady.cons rfl (fun K hK => ?_) AllReady.nil
         go_simp
         refine hK _ _ ?_
         clear hK K
         refine wpAny_ready (rs := [17]) (by kernel_rfl) (by simp) ?_
         refine AllReady.cons rfl (fun K hK => ?_) AllReady.nil
         go_simp
         refine hK _ _ ?_
         clear hK K
         refine wpAny_done (by kernel_rfl) ?_ _
         go_wp2
         have HW := HWf.out
         unfold st8 at HW
         rw [HW]
         have cZ := zR.cell
         refine bodyPost_ret (v := .tuple #[.agg (lgC F.disk po2 co2 pc2 cc2 F.frm F.til F.ver ro2 F.recs.length rc2), .int .i64 er]) (by simp [results, Tryd.results19, go_sem, cZ]) rfl ?_
         rw [HRF.out]
         exact ⟨_, rfl, ZL.out, ZB.out⟩
        ·
         go_simp
         refine hK _ _ ?_
         clear hK K
         have x4 := Bx.new wc #[.slice ro l.recs.length rc, .slice qo rs.length qc] 27
         have hbb := Below.one wc (.cells #[.slice ro l.recs.length rc, .slice qo rs.length qc] 27)
         obtain ⟨g, hg⟩ : ∃ g, wc.heap.size = g := ⟨_, rfl⟩
         rw [hg] at x4
         obtain ⟨wc, hwc⟩ : ∃ W', wc.alloc (.cells #[.slice ro l.recs.length rc, .slice qo rs.length qc] 27) = W' := ⟨_, rfl⟩
         rw [hwc] at x4 hbb
         rw [hwc, hg]
         clear hwc
         have hB := btr hB hbb
         have xb := xb.belowAll hbb
         have xr := xr.belowAll hbb
         have Hto := Lib.hid (Hto.out.below hbb)
         have HwS : Hid (wS ≤ wc.heap.size) := Lib.hid (Nat.le_trans HwS.out hbb.size)
         clear c0 l0 hbb hg
         have c0 := xb.cell
         have l0 := xb.lt
         simp only [List.setIfInBounds_toArray, List.set_cons_zero, List.set_cons_succ]
         refine wpAny_ready (rs := [0, 5]) (by kernel_rfl) (by simp) ?_
         refine AllReady.cons rfl (fun K hK => ?_) (AllReady.cons rfl (fun K hK => ?_) AllReady.nil)
         ·
          go_simp
          refine hK _ _ ?_
          clear hK K
          simp only [List.setIfInBounds_toArray, List.set_cons_zero]
          refine wpAny_ready (rs := [5]) (by kernel_rfl) (by simp) ?_
          refine AllReady.cons rfl (fun K hK => ?_) AllReady.nil
          go_simp
          refine (sl_ConcatS wc g _ _ x4 l.recs rs ⟨ro, rc, rfl, Hsl.out, Hst.out.below hB⟩ ⟨qo, qc, rfl, Hqs.out, Hqt.out.below hB⟩ (by have := Hbd.out; omega) hrl).mono ?_
          rintro e wc ⟨vC, rfl, hC, hbb⟩
          refine hK _ _ ?_
          clear hK K
          rw [HL.out] at hC
          obtain ⟨oC, cC, rfl, hCs, hCt⟩ := hC
          have HC : Hid (SlW oC L.length cC ∧ StrsAt (fun k => wS ≤ k ∧ k < wc.heap.size) wc oC L) := Lib.hid ⟨hCs, hCt.mono fun k hk => ⟨Nat.le_trans HwS.out hk.1, hk.2⟩⟩
          have hB := btr hB hbb
          have xb := xb.belowAll hbb
          have xr := xr.belowAll hbb
          have Hto := Lib.hid (Hto.out.below hbb)
          clear c0 l0 hbb x4 hCs hCt
          have c0 := xb.cell
          have l0 := xb.lt
          simp only [List.setIfInBounds_toArray, List.set_cons_zero, List.set_cons_succ]
          refine wpAny_ready (rs := [11]) (by kernel_rfl) (by simp) ?_
          refine AllReady.cons rfl (fun K hK => ?_) AllReady.nil
          go_simp
          rw [show IntKind.i64.wrap ((sz : Int) + (mo : Int)) = ((sz + mo : Nat) : Int) by rw [IntWalk.i64_in _ (by omega)]; omega]
          refine (Hnx.out _ hB).mono ?_
          rintro e wc ⟨bN, rfl, hN2, hbb⟩
          refine hK _ _ ?_
          clear hK K
          have HN := Lib.hid hN2
          have HC : Hid (SlW oC L.length cC ∧ StrsAt (fun k => wS ≤ k ∧ k < wc.heap.size) wc oC L) := Lib.hid ⟨HC.out.1, (HC.out.2.below hbb).mono fun k hk => ⟨hk.1, Nat.lt_of_lt_of_le hk.2 hbb.size⟩⟩
          have hB := btr hB hbb
          have xb := xb.belowAll hbb
          have xr := xr.belowAll hbb
          have Hto := Lib.hid (Hto.out.below hbb)
          clear c0 l0 hbb hN2
          have c0 := xb.cell
          have l0 := xb.lt
          simp only [List.setIfInBounds_toArray, List.set_cons_zero, List.set_cons_succ]
          refine wpAny_ready (rs := [12]) (by kernel_rfl) (by simp) ?_
          refine AllReady.cons rfl (fun K hK => ?_) AllReady.nil
          obtain ⟨us, hus, hul⟩ := HN.out.row
          obtain ⟨vs, hv1, hv2⟩ := Hto.out
          have hul1 : us.length = 2 := hul.1
          have hone : ∀ u ∈ us, u.oneCell' = true := by
           intro u hu
           obtain ⟨j, hj, rfl⟩ := List.getElem_of_mem hu
           have hj2 : j < 2 := by omega
           have hop := hul.2 j hj2 hj
           rcases j with _ | _ | j
           ·
            obtain ⟨bi, bd, e, _⟩ := hop
            rw [e]; rfl
           ·
            have e : us[1] = .func (.func 42) #[] #[] := hop
            rw [e]; rfl
           ·
            omega
          have hzc := hB.size
          refine wp_app (.tmp 55) (.tmp 60) 90 rfl w.heap.size 99 io _ 1 8 Tryd.underlying90 Hio.out.1 Hio.out.2.1 Hio.out.2.2.1 Hio.out.2.2.2 rfl (by decide) vT opT.length vs rfl hv1 (some ⟨bN, 0, none⟩) 2 2 us rfl (fun h => by cases h) (by omega) hus hone (by unfold maxLen; omega) (by omega) hzc ?_
          intro vF wc ho7 hg7
          refine hK _ _ ?_
          clear hK K
          have hul7 : OpL wc (vs ++ us) (opT ++ nextL l (sz + mo)) := (OpL.app hv2 hul).grown hv1 hg7
          rw [HopF.out] at hul7
          rw [← HopFl.out] at ho7
          have xb := xb.grown hg7 (fun e => ownsRow_ne_bx hv1 xb (by decide) e.symm)
          have xr := xr.grown hg7 (fun e => ownsRow_ne_bx hv1 xr (by decide) e.symm)
          have hB := hB.grown hg7 hzc (fun b e => (hv1.lt b e).1)
          obtain ⟨oF, cF, rfl, _, hrow, _⟩ := ownsRow_at ho7
          have HO := Lib.hid (OpsAt.of hrow hul7)
          have HC : Hid (SlW oC L.length cC ∧ StrsAt (fun k => wS ≤ k ∧ k < wc.heap.size) wc oC L) := Lib.hid ⟨HC.out.1, (HC.out.2.same (w' := wc) (fun k hk => hg7.block k hk.2 (fun e => by have := HloT.out k e.symm; have := hk.1; omega))).mono fun k hk => ⟨hk.1, Nat.lt_of_lt_of_le hk.2 hg7.size⟩⟩
          clear c0 l0 HN hus hul hv1 hv2 hone hul1 ho7 hg7 hul7 hrow
          have c0 := xb.cell
          have l0 := xb.lt
          simp only [Act.put, List.setIfInBounds_toArray, List.set_cons_zero, List.set_cons_succ]
          refine wpAny_ready (rs := [13]) (by kernel_rfl) (by simp) ?_
          refine AllReady.cons rfl (fun K hK => ?_) AllReady.nil
          go_simp
          have hfc := pl_finish l _ L oC cC opF oF cF wc (Hl0.out.below hB) HC.out.1 (HC.out.2.mono fun k hk => hk.2) HO.out (by have := HopFl.out; omega) (by have := Hver.out; omega) (by have := Hver.out; omega)
          rw [HF.out] at hfc
          refine hfc.mono ?_
          rintro e wd ⟨vF, rfl, hLF, hbb⟩
          refine hK _ _ ?_
          clear hK K hfc
          have hLF' := hLF
          obtain ⟨po2, pc2, co2, cc2, ro2, rc2, rfl, _, _, _⟩ := hLF
          have s9 : LgS w N l po co ro pc cc rc wd := ⟨xb.belowAll hbb, xr.belowAll hbb, btr hB hbb, Hl0.out.below (btr hB hbb)⟩
          obtain ⟨Wf, hWf⟩ : ∃ Wf, st8 wd (N + 1) (.int .i64 F.disk.size) (.slice po2 F.disk.pages.length pc2) (.slice co2 F.disk.cache.length cc2) (.int .i64 F.disk.left) (.int .i64 F.frm) (.int .i64 F.til) (.int .i64 F.ver) (.slice ro2 F.recs.length rc2) = Wf := ⟨_, rfl⟩
          obtain ⟨zR, zB, zL⟩ := s9.out hN hLF' hWf
          clear c0 l0
          have cX := s9.res.cell
          have lX := s9.res.lt
          have fX := s9.res.free
          have ZB := Lib.hid zB
          have ZL := Lib.hid zL
          have HWf := Lib.hid hWf
          clear zB zL hWf hLF' hbb xb xr hB HC HO s9
          simp only [List.setIfInBounds_toArray, List.set_cons_zero, List.set_cons_succ]
          refine wpAny_take (i := 14) (v := ?_) rfl (by kernel_rfl) (by kernel_rfl) (by kernel_rfl) (fun _ _ _ h => h) (Or.inl ⟨by rfl, ?_⟩) ?_
          rotate_left
          ·
           intro w; go_simp; try with_reducible rfl
          simp only [Act.put, List.setIfInBounds_toArray, List.set_cons_zero, List.set_cons_succ]
          refine wpAny_take (i := 15) (v := ?_) rfl (by kernel_rfl) (by kernel_rfl) (by kernel_rfl) (fun _ _ _ h => h) (Or.inl ⟨by rfl, ?_⟩) ?_
          rotate_left
          ·
           intro w; go_simp; try with_reducible rfl
          simp only [Act.put, List.setIfInBounds_toArray, List.set_cons_zero, List.set_cons_succ]
          refine wpAny_ready (rs := [16]) (by kernel_rfl) (by simp) ?_
          refine AllReady.cons rfl (fun K hK => ?_) AllReady.nil
          go_simp
          refine hK _ _ ?_
          clear hK K
          refine wpAny_ready (rs := [17]) (by kernel_rfl) (by simp) ?_
          refine AllReady.cons rfl (fun K hK => ?_) AllReady.nil
          go_simp
          refine hK _ _ ?_
          clear hK K
          refine wpAny_done (by kernel_rfl) ?_ _
          go_wp2
          have HW := HWf.out
          unfold st8 at HW
          rw [HW]
          have cZ := zR.cell
          refine bodyPost_ret (v := .tuple #[.agg (lgC F.disk po2 co2 pc2 cc2 F.frm F.til F.ver ro2 F.recs.length rc2), .int .i64 er]) (by simp [results, Tryd.results19, go_sem, cZ]) rfl ?_
          rw [HRF.out]
          exact ⟨_, rfl, ZL.out, ZB.out⟩
         ·
          go_simp
          refine (sl_ConcatS wc g _ _ x4 l.recs rs ⟨ro, rc, rfl, Hsl.out, Hst.out.below hB⟩ ⟨qo, qc, rfl, Hqs.out, Hqt.out.below hB⟩ (by have := Hbd.out; omega) hrl).mono ?_
          rintro e wc ⟨vC, rfl, hC, hbb⟩
          refine hK _ _ ?_
          clear hK K
          rw [HL.out] at hC
          obtain ⟨oC, cC, rfl, hCs, hCt⟩ := hC
          have HC : Hid (SlW oC L.length cC ∧ StrsAt (fun k => wS ≤ k ∧ k < wc.heap.size) wc oC L) := Lib.hid ⟨hCs, hCt.mono fun k hk => ⟨Nat.le_trans HwS.out hk.1, hk.2⟩⟩
          have hB := btr hB hbb
          have xb := xb.belowAll hbb
          have xr := xr.belowAll hbb
          have Hto := Lib.hid (Hto.out.below hbb)
          clear c0 l0 hbb x4 hCs hCt
          have c0 := xb.cell
          have l0 := xb.lt
          simp only [List.setIfInBounds_toArray, List.set_cons_zero, List.set_cons_succ]
          refine wpAny_ready (rs := [0, 11]) (by kernel_rfl) (by simp) ?_
          refine AllReady.cons rfl (fun K hK => ?_) (AllReady.cons rfl (fun K hK => ?_) AllReady.nil)
          ·
           go_simp
           refine hK _ _ ?_
           clear hK K
           simp only [List.setIfInBounds_toArray, List.set_cons_zero]
           refine wpAny_ready (rs := [11]) (by kernel_rfl) (by simp) ?_
           refine AllReady.cons rfl (fun K hK => ?_) AllReady.nil
           go_simp
           rw [show IntKind.i64.wrap ((sz : Int) + (mo : Int)) = ((sz + mo : Nat) : Int) by rw [IntWalk.i64_in _ (by omega)]; omega]
           refine (Hnx.out _ hB).mono ?_
           rintro e wc ⟨bN, rfl, hN2, hbb⟩
           refine hK _ _ ?_
           clear hK K
           have HN := Lib.hid hN2
           have HC : Hid (SlW oC L.length cC ∧ StrsAt (fun k => wS ≤ k ∧ k < wc.heap.size) wc oC L) := Lib.hid ⟨HC.out.1, (HC.out.2.below hbb).mono fun k hk => ⟨hk.1, Nat.lt_of_lt_of_le hk.2 hbb.size⟩⟩
           have hB := btr hB hbb
           have xb := xb.belowAll hbb
           have xr := xr.belowAll hbb
           have Hto := Lib.hid (Hto.out.below hbb)
           clear c0 l0 hbb hN2
           have c0 := xb.cell
           have l0 := xb.lt
           simp only [List.setIfInBounds_toArray, List.set_cons_zero, List.set_cons_succ]
           refine wpAny_ready (rs := [12]) (by kernel_rfl) (by simp) ?_
           refine AllReady.cons rfl (fun K hK => ?_) AllReady.nil
           obtain ⟨us, hus, hul⟩ := HN.out.row
           obtain ⟨vs, hv1, hv2⟩ := Hto.out
           have hul1 : us.length = 2 := hul.1
           have hone : ∀ u ∈ us, u.oneCell' = true := by
            intro u hu
            obtain ⟨j, hj, rfl⟩ := List.getElem_of_mem hu
            have hj2 : j < 2 := by omega
            have hop := hul.2 j hj2 hj
            rcases j with _ | _ | j
            ·
             obtain ⟨bi, bd, e, _⟩ := hop
             rw [e]; rfl
            ·
             have e : us[1] = .func (.func 42) #[] #[] := hop
             rw [e]; rfl
            ·
             omega
           have hzc := hB.size
           refine wp_app (.tmp 55) (.tmp 60) 90 rfl w.heap.size 99 io _ 1 8 Tryd.underlying90 Hio.out.1 Hio.out.2.1 Hio.out.2.2.1 Hio.out.2.2.2 rfl (by decide) vT opT.length vs rfl hv1 (some ⟨bN, 0, none⟩) 2 2 us rfl (fun h => by cases h) (by omega) hus hone (by unfold maxLen; omega) (by omega) hzc ?_
           intro vF wc ho7 hg7
           refine hK _ _ ?_
           clear hK K
           have hul7 : OpL wc (vs ++ us) (opT ++ nextL l (sz + mo)) := (OpL.app hv2 hul).grown hv1 hg7
           rw [HopF.out] at hul7
           rw [← HopFl.out] at ho7
           have xb := xb.grown hg7 (fun e => ownsRow_ne_bx hv1 xb (by decide) e.symm)
           have xr := xr.grown hg7 (fun e => ownsRow_ne_bx hv1 xr (by decide) e.symm)
           have hB := hB.grown hg7 hzc (fun b e => (hv1.lt b e).1)
           obtain ⟨oF, cF, rfl, _, hrow, _⟩ := ownsRow_at ho7
           have HO := Lib.hid (OpsAt.of hrow hul7)
           have HC : Hid (SlW oC L.length cC ∧ StrsAt (fun k => wS ≤ k ∧ k < wc.heap.size) wc oC L) := Lib.hid ⟨HC.out.1, (HC.out.2.same (w' := wc) (fun k hk => hg7.block k hk.2 (fun e => by have := HloT.out k e.symm; have := hk.1; omega))).mono fun k hk => ⟨hk.1, Nat.lt_of_lt_of_le hk.2 hg7.size⟩⟩
           clear c0 l0 HN hus hul hv1 hv2 hone hul1 ho7 hg7 hul7 hrow
           have c0 := xb.cell
           have l0 := xb.lt
           simp only [Act.put, List.setIfInBounds_toArray, List.set_cons_zero, List.set_cons_succ]
           refine wpAny_ready (rs := [13]) (by kernel_rfl) (by simp) ?_
           refine AllReady.cons rfl (fun K hK => ?_) AllReady.nil
           go_simp
           have hfc := pl_finish l _ L oC cC opF oF cF wc (Hl0.out.below hB) HC.out.1 (HC.out.2.mono fun k hk => hk.2) HO.out (by have := HopFl.out; omega) (by have := Hver.out; omega) (by have := Hver.out; omega)
           rw [HF.out] at hfc
           refine hfc.mono ?_
           rintro e wd ⟨vF, rfl, hLF, hbb⟩
           refine hK _ _ ?_
           clear hK K hfc
           have hLF' := hLF
           obtain ⟨po2, pc2, co2, cc2, ro2, rc2, rfl, _, _, _⟩ := hLF
           have s9 : LgS w N l po co ro pc cc rc wd := ⟨xb.belowAll hbb, xr.belowAll hbb, btr hB hbb, Hl0.out.below (btr hB hbb)⟩
           obtain ⟨Wf, hWf⟩ : ∃ Wf, st8 wd (N + 1) (.int .i64 F.disk.size) (.slice po2 F.disk.pages.length pc2) (.slice co2 F.disk.cache.length cc2) (.int .i64 F.disk.left) (.int .i64 F.frm) (.int .i64 F.til) (.int .i64 F.ver) (.slice ro2 F.recs.length rc2) = Wf := ⟨_, rfl⟩
           obtain ⟨zR, zB, zL⟩ := s9.out hN hLF' hWf
           clear c0 l0
           have cX := s9.res.cell
           have lX := s9.res.lt
           have fX := s9.res.free
           have ZB := Lib.hid zB
           have ZL := Lib.hid zL
           have HWf := Lib.hid hWf
           clear zB zL hWf hLF' hbb xb xr hB HC HO s9
           simp only [List.setIfInBounds_toArray, List.set_cons_zero, List.set_cons_succ]
           refine wpAny_take (i := 14) (v := ?_) rfl (by kernel_rfl) (by kernel_rfl) (by kernel_rfl) (fun _ _ _ h => h) (Or.inl ⟨by rfl, ?_⟩) ?_
           rotate_left
           ·
            intro w; go_simp; try with_reducible rfl
           simp only [Act.put, List.setIfInBounds_toArray, List.set_cons_zero, List.set_cons_succ]
           refine wpAny_take (i := 15) (v := ?_) rfl (by kernel_rfl) (by kernel_rfl) (by kernel_rfl) (fun _ _ _ h => h) (Or.inl ⟨by rfl, ?_⟩) ?_
           rotate_left
           ·
            intro w; go_simp; try with_reducible rfl
           simp only [Act.put, List.setIfInBounds_toArray, List.set_cons_zero, List.set_cons_succ]
           refine wpAny_ready (rs := [16]) (by kernel_rfl) (by simp) ?_
           refine AllReady.cons rfl (fun K hK => ?_) AllReady.nil
           go_simp
           refine hK _ _ ?_
           clear hK K
           refine wpAny_ready (rs := [17]) (by kernel_rfl) (by simp) ?_
           refine AllReady.cons rfl (fun K hK => ?_) AllReady.nil
           go_simp
           refine hK _ _ ?_
           clear hK K
           refine wpAny_done (by kernel_rfl) ?_ _
           go_wp2
           have HW := HWf.out
           unfold st8 at HW
           rw [HW]
           have cZ := zR.cell
           refine bodyPost_ret (v := .tuple #[.agg (lgC F.disk po2 co2 pc2 cc2 F.frm F.til F.ver ro2 F.recs.length rc2), .int .i64 er]) (by simp [results, Tryd.results19, go_sem, cZ]) rfl ?_
           rw [HRF.out]
           exact ⟨_, rfl, ZL.out, ZB.out⟩
          ·
           go_simp
           rw [show IntKind.i64.wrap ((sz : Int) + (mo : Int)) = ((sz + mo : Nat) : Int) by rw [IntWalk.i64_in _ (by omega)]; omega]
           refine (Hnx.out _ hB).mono ?_
           rintro e wc ⟨bN, rfl, hN2, hbb⟩
           refine hK _ _ ?_
           clear hK K
           have HN := Lib.hid hN2
           have HC : Hid (SlW oC L.length cC ∧ StrsAt (fun k => wS ≤ k ∧ k < wc.heap.size) wc oC L) := Lib.hid ⟨HC.out.1, (HC.out.2.below hbb).mono fun k hk => ⟨hk.1, Nat.lt_of_lt_of_le hk.2 hbb.size⟩⟩
           have hB := btr hB hbb
           have xb := xb.belowAll hbb
           have xr := xr.belowAll hbb
           have Hto := Lib.hid (Hto.out.below hbb)
           clear c0 l0 hbb hN2
           have c0 := xb.cell
           have l0 := xb.lt
           simp only [List.setIfInBounds_toArray, List.set_cons_zero, List.set_cons_succ]
           refine wpAny_ready (rs := [0, 12]) (by kernel_rfl) (by simp) ?_
           refine AllReady.cons rfl (fun K hK => ?_) (AllReady.cons rfl (fun K hK => ?_) AllReady.nil)
           ·
            go_simp
            refine hK _ _ ?_
            clear hK K
            simp only [List.setIfInBounds_toArray, List.set_cons_zero]
            refine wpAny_ready (rs := [12]) (by kernel_rfl) (by simp) ?_
            refine AllReady.cons rfl (fun K hK => ?_) AllReady.nil
            obtain ⟨us, hus, hul⟩ := HN.out.row
            obtain ⟨vs, hv1, hv2⟩ := Hto.out
            have hul1 : us.length = 2 := hul.1
            have hone : ∀ u ∈ us, u.oneCell' = true := by
             intro u hu
             obtain ⟨j, hj, rfl⟩ := List.getElem_of_mem hu
             have hj2 : j < 2 := by omega
             have hop := hul.2 j hj2 hj
             rcases j with _ | _ | j
             ·
              obtain ⟨bi, bd, e, _⟩ := hop
              rw [e]; rfl
             ·
              have e : us[1] = .func (.func 42) #[] #[] := hop
              rw [e]; rfl
             ·
              omega
            have hzc := hB.size
            refine wp_app (.tmp 55) (.tmp 60) 90 rfl w.heap.size 99 io _ 1 8 Tryd.underlying90 Hio.out.1 Hio.out.2.1 Hio.out.2.2.1 Hio.out.2.2.2 rfl (by decide) vT opT.length vs rfl hv1 (some ⟨bN, 0, none⟩) 2 2 us rfl (fun h => by cases h) (by omega) hus hone (by unfold maxLen; omega) (by omega) hzc ?_
            intro vF wc ho7 hg7
            refine hK _ _ ?_
            clear hK K
            have hul7 : OpL wc (vs ++ us) (opT ++ nextL l (sz + mo)) := (OpL.app hv2 hul).grown hv1 hg7
            rw [HopF.out] at hul7
            rw [← HopFl.out] at ho7
            have xb := xb.grown hg7 (fun e => ownsRow_ne_bx hv1 xb (by decide) e.symm)
            have xr := xr.grown hg7 (fun e => ownsRow_ne_bx hv1 xr (by decide) e.symm)
            have hB := hB.grown hg7 hzc (fun b e => (hv1.lt b e).1)
            obtain ⟨oF, cF, rfl, _, hrow, _⟩ := ownsRow_at ho7
            have HO := Lib.hid (OpsAt.of hrow hul7)
            have HC : Hid (SlW oC L.length cC ∧ StrsAt (fun k => wS ≤ k ∧ k < wc.heap.size) wc oC L) := Lib.hid ⟨HC.out.1, (HC.out.2.same (w' := wc) (fun k hk => hg7.block k hk.2 (fun e => by have := HloT.out k e.symm; have := hk.1; omega))).mono fun k hk => ⟨hk.1, Nat.lt_of_lt_of_le hk.2 hg7.size⟩⟩
            clear c0 l0 HN hus hul hv1 hv2 hone hul1 ho7 hg7 hul7 hrow
            have c0 := xb.cell
            have l0 := xb.lt
            simp only [Act.put, List.setIfInBounds_toArray, List.set_cons_zero, List.set_cons_succ]
            refine wpAny_ready (rs := [13]) (by kernel_rfl) (by simp) ?_
            refine AllReady.cons rfl (fun K hK => ?_) AllReady.nil
            go_simp
            have hfc := pl_finish l _ L oC cC opF oF cF wc (Hl0.out.below hB) HC.out.1 (HC.out.2.mono fun k hk => hk.2) HO.out (by have := HopFl.out; omega) (by have := Hver.out; omega) (by have := Hver.out; omega)
            rw [HF.out] at hfc
            refine hfc.mono ?_
            rintro e wd ⟨vF, rfl, hLF, hbb⟩
            refine hK _ _ ?_
            clear hK K hfc
            have hLF' := hLF
            obtain ⟨po2, pc2, co2, cc2, ro2, rc2, rfl, _, _, _⟩ := hLF
            have s9 : LgS w N l po co ro pc cc rc wd := ⟨xb.belowAll hbb, xr.belowAll hbb, btr hB hbb, Hl0.out.below (btr hB hbb)⟩
            obtain ⟨Wf, hWf⟩ : ∃ Wf, st8 wd (N + 1) (.int .i64 F.disk.size) (.slice po2 F.disk.pages.length pc2) (.slice co2 F.disk.cache.length cc2) (.int .i64 F.disk.left) (.int .i64 F.frm) (.int .i64 F.til) (.int .i64 F.ver) (.slice ro2 F.recs.length rc2) = Wf := ⟨_, rfl⟩
            obtain ⟨zR, zB, zL⟩ := s9.out hN hLF' hWf
            clear c0 l0
            have cX := s9.res.cell
            have lX := s9.res.lt
            have fX := s9.res.free
            have ZB := Lib.hid zB
            have ZL := Lib.hid zL
            have HWf := Lib.hid hWf
            clear zB zL hWf hLF' hbb xb xr hB HC HO s9
            simp only [List.setIfInBounds_toArray, List.set_cons_zero, List.set_cons_succ]
            refine wpAny_take (i := 14) (v := ?_) rfl (by kernel_rfl) (by kernel_rfl) (by kernel_rfl) (fun _ _ _ h => h) (Or.inl ⟨by rfl, ?_⟩) ?_
            rotate_left
            ·
             intro w; go_simp; try with_reducible rfl
            simp only [Act.put, List.setIfInBounds_toArray, List.set_cons_zero, List.set_cons_succ]
            refine wpAny_take (i := 15) (v := ?_) rfl (by kernel_rfl) (by kernel_rfl) (by kernel_rfl) (fun _ _ _ h => h) (Or.inl ⟨by rfl, ?_⟩) ?_
            rotate_left
            ·
             intro w; go_simp; try with_reducible rfl
            simp only [Act.put, List.setIfInBounds_toArray, List.set_cons_zero, List.set_cons_succ]
            refine wpAny_ready (rs := [16]) (by kernel_rfl) (by simp) ?_
            refine AllReady.cons rfl (fun K hK => ?_) AllReady.nil
            go_simp
            refine hK _ _ ?_
            clear hK K
            refine wpAny_ready (rs := [17]) (by kernel_rfl) (by simp) ?_
            refine AllReady.cons rfl (fun K hK => ?_) AllReady.nil
            go_simp
            refine hK _ _ ?_
            clear hK K
            refine wpAny_done (by kernel_rfl) ?_ _
            go_wp2
            have HW := HWf.out
            unfold st8 at HW
            rw [HW]
            have cZ := zR.cell
            refine bodyPost_ret (v := .tuple #[.agg (lgC F.disk po2 co2 pc2 cc2 F.frm F.til F.ver ro2 F.recs.length rc2), .int .i64 er]) (by simp [results, Tryd.results19, go_sem, cZ]) rfl ?_
            rw [HRF.out]
            exact ⟨_, rfl, ZL.out, ZB.out⟩
           ·
            obtain ⟨us, hus, hul⟩ := HN.out.row
            obtain ⟨vs, hv1, hv2⟩ := Hto.out
            have hul1 : us.length = 2 := hul.1
            have hone : ∀ u ∈ us, u.oneCell' = true := by
             intro u hu
             obtain ⟨j, hj, rfl⟩ := List.getElem_of_mem hu
             have hj2 : j < 2 := by omega
             have hop := hul.2 j hj2 hj
             rcases j with _ | _ | j
             ·
              obtain ⟨bi, bd, e, _⟩ := hop
              rw [e]; rfl
             ·
              have e : us[1] = .func (.func 42) #[] #[] := hop
              rw [e]; rfl
             ·
              omega
            have hzc := hB.size
            refine wp_app (.tmp 55) (.tmp 60) 90 rfl w.heap.size 99 io _ 1 8 Tryd.underlying90 Hio.out.1 Hio.out.2.1 Hio.out.2.2.1 Hio.out.2.2.2 rfl (by decide) vT opT.length vs rfl hv1 (some ⟨bN, 0, none⟩) 2 2 us rfl (fun h => by cases h) (by omega) hus hone (by unfold maxLen; omega) (by omega) hzc ?_
            intro vF wc ho7 hg7
            refine hK _ _ ?_
            clear hK K
            have hul7 : OpL wc (vs ++ us) (opT ++ nextL l (sz + mo)) := (OpL.app hv2 hul).grown hv1 hg7
            rw [HopF.out] at hul7
            rw [← HopFl.out] at ho7
            have xb := xb.grown hg7 (fun e => ownsRow_ne_bx hv1 xb (by decide) e.symm)
            have xr := xr.grown hg7 (fun e => ownsRow_ne_bx hv1 xr (by decide) e.symm)
            have hB := hB.grown hg7 hzc (fun b e => (hv1.lt b e).1)
            obtain ⟨oF, cF, rfl, _, hrow, _⟩ := ownsRow_at ho7
            have HO := Lib.hid (OpsAt.of hrow hul7)
            have HC : Hid (SlW oC L.length cC ∧ StrsAt (fun k => wS ≤ k ∧ k < wc.heap.size) wc oC L) := Lib.hid ⟨HC.out.1, (HC.out.2.same (w' := wc) (fun k hk => hg7.block k hk.2 (fun e => by have := HloT.out k e.symm; have := hk.1; omega))).mono fun k hk => ⟨hk.1, Nat.lt_of_lt_of_le hk.2 hg7.size⟩⟩
            clear c0 l0 HN hus hul hv1 hv2 hone hul1 ho7 hg7 hul7 hrow
            have c0 := xb.cell
            have l0 := xb.lt
            simp only [Act.put, List.setIfInBounds_toArray, List.set_cons_zero, List.set_cons_succ]
            refine wpAny_ready (rs := [0]) (by kernel_rfl) (by simp) ?_
            refine AllReady.cons rfl (fun K hK => ?_) AllReady.nil
            go_simp
            refine hK _ _ ?_
            clear hK K
            simp only [List.setIfInBounds_toArray, List.set_cons_zero]
            refine wpAny_ready (rs := [13]) (by kernel_rfl) (by simp) ?_
            refine AllReady.cons rfl (fun K hK => ?_) AllReady.nil
            go_simp
            have hfc := pl_finish l _ L oC cC opF oF cF wc (Hl0.out.below hB) HC.out.1 (HC.out.2.mono fun k hk => hk.2) HO.out (by have := HopFl.out; omega) (by have := Hver.out; omega) (by have := Hver.out; omega)
            rw [HF.out] at hfc
            refine hfc.mono ?_
            rintro e wd ⟨vF, rfl, hLF, hbb⟩
            refine hK _ _ ?_
            clear hK K hfc
            have hLF' := hLF
            obtain ⟨po2, pc2, co2, cc2, ro2, rc2, rfl, _, _, _⟩ := hLF
            have s9 : LgS w N l po co ro pc cc rc wd := ⟨xb.belowAll hbb, xr.belowAll hbb, btr hB hbb, Hl0.out.below (btr hB hbb)⟩
            obtain ⟨Wf, hWf⟩ : ∃ Wf, st8 wd (N + 1) (.int .i64 F.disk.size) (.slice po2 F.disk.pages.length pc2) (.slice co2 F.disk.cache.length cc2) (.int .i64 F.disk.left) (.int .i64 F.frm) (.int .i64 F.til) (.int .i64 F.ver) (.slice ro2 F.recs.length rc2) = Wf := ⟨_, rfl⟩
            obtain ⟨zR, zB, zL⟩ := s9.out hN hLF' hWf
            clear c0 l0
            have cX := s9.res.cell
            have lX := s9.res.lt
            have fX := s9.res.free
            have ZB := Lib.hid zB
            have ZL := Lib.hid zL
            have HWf := Lib.hid hWf
            clear zB zL hWf hLF' hbb xb xr hB HC HO s9
            simp only [List.setIfInBounds_toArray, List.set_cons_zero, List.set_cons_succ]
            refine wpAny_take (i := 14) (v := ?_) rfl (by kernel_rfl) (by kernel_rfl) (by kernel_rfl) (fun _ _ _ h => h) (Or.inl ⟨by rfl, ?_⟩) ?_
            rotate_left
            ·
             intro w; go_simp; try with_reducible rfl
            simp only [Act.put, List.setIfInBounds_toArray, List.set_cons_zero, List.set_cons_succ]
            refine wpAny_take (i := 15) (v := ?_) rfl (by kernel_rfl) (by kernel_rfl) (by kernel_rfl) (fun _ _ _ h => h) (Or.inl ⟨by rfl, ?_⟩) ?_
            rotate_left
            ·
             intro w; go_simp; try with_reducible rfl
            simp only [Act.put, List.setIfInBounds_toArray, List.set_cons_zero, List.set_cons_succ]
            refine wpAny_ready (rs := [16]) (by kernel_rfl) (by simp) ?_
            refine AllReady.cons rfl (fun K hK => ?_) AllReady.nil
            go_simp
            refine hK _ _ ?_
            clear hK K
            refine wpAny_ready (rs := [17]) (by kernel_rfl) (by simp) ?_
            refine AllReady.cons rfl (fun K hK => ?_) AllReady.nil
            go_simp
            refine hK _ _ ?_
            clear hK K
            refine wpAny_done (by kernel_rfl) ?_ _
            go_wp2
            have HW := HWf.out
            unfold st8 at HW
            rw [HW]
            have cZ := zR.cell
            refine bodyPost_ret (v := .tuple #[.agg (lgC F.disk po2 co2 pc2 cc2 F.frm F.til F.ver ro2 F.recs.length rc2), .int .i64 er]) (by simp [results, Tryd.results19, go_sem, cZ]) rfl ?_
            rw [HRF.out]
            exact ⟨_, rfl, ZL.out, ZB.out⟩
      ·
       go_simp
       refine hK _ _ ?_
       clear hK K
       simp only [List.setIfInBounds_toArray, List.set_cons_zero, List.set_cons_succ]
       refine wpAny_ready (rs := [0, 2]) (by kernel_rfl) (by simp) ?_
       refine AllReady.cons rfl (fun K hK => ?_) (AllReady.cons rfl (fun K hK => ?_) AllReady.nil)
       ·
        go_simp
        refine hK _ _ ?_
        clear hK K
        simp only [List.setIfInBounds_toArray, List.set_cons_zero]
        refine wpAny_ready (rs := [2]) (by kernel_rfl) (by simp) ?_
        refine AllReady.cons rfl (fun K hK => ?_) AllReady.nil
        go_simp
        refine hK _ _ ?_
        clear hK K
        simp only [List.setIfInBounds_toArray, List.set_cons_zero, List.set_cons_succ]
        refine wpAny_ready (rs := [4]) (by kernel_rfl) (by simp) ?_
        refine AllReady.cons rfl (fun K hK => ?_) AllReady.nil
        go_simp
        refine hK _ _ ?_
        clear hK K
        have x4 := Bx.new wc #[.slice ro l.recs.length rc, .slice qo rs.length qc] 27
        have hbb := Below.one wc (.cells #[.slice ro l.recs.length rc, .slice qo rs.length qc] 27)
        obtain ⟨g, hg⟩ : ∃ g, wc.heap.size = g := ⟨_, rfl⟩
        rw [hg] at x4
        obtain ⟨wc, hwc⟩ : ∃ W', wc.alloc (.cells #[.slice ro l.recs.length rc, .slice qo rs.length qc] 27) = W' := ⟨_, rfl⟩
        rw [hwc] at x4 hbb
        rw [hwc, hg]
        clear hwc
        have hB := btr hB hbb
        have xb := xb.belowAll hbb
        have xr := xr.belowAll hbb
        have Hto := Lib.hid (Hto.out.below hbb)
        have HwS : Hid (wS ≤ wc.heap.size) := Lib.hid (Nat.le_trans HwS.out hbb.size)
        clear c0 l0 hbb hg
        have c0 := xb.cell
        have l0 := xb.lt
        simp only [List.setIfInBounds_toArray, List.set_cons_zero, List.set_cons_succ]
        refine wpAny_ready (rs := [5]) (by kernel_rfl) (by simp) ?_
        refine AllReady.cons rfl (fun K hK => ?_) AllReady.nil
        go_simp
        refine (sl_ConcatS wc g _ _ x4 l.recs rs ⟨ro, rc, rfl, Hsl.out, Hst.out.below hB⟩ ⟨qo, qc, rfl, Hqs.out, Hqt.out.below hB⟩ (by have := Hbd.out; omega) hrl).mono ?_
        rintro e wc ⟨vC, rfl, hC, hbb⟩
        refine hK _ _ ?_
        clear hK K
        rw [HL.out] at hC
        obtain ⟨oC, cC, rfl, hCs, hCt⟩ := hC
        have HC : Hid (SlW oC L.length cC ∧ StrsAt (fun k => wS ≤ k ∧ k < wc.heap.size) wc oC L) := Lib.hid ⟨hCs, hCt.mono fun k hk => ⟨Nat.le_trans HwS.out hk.1, hk.2⟩⟩
        have hB := btr hB hbb
        have xb := xb.belowAll hbb
        have xr := xr.belowAll hbb
        have Hto := Lib.hid (Hto.out.below hbb)
        clear c0 l0 hbb x4 hCs hCt
        have c0 := xb.cell
        have l0 := xb.lt
        simp only [List.setIfInBounds_toArray, List.set_cons_zero, List.set_cons_succ]
        refine wpAny_ready (rs := [11]) (by kernel_rfl) (by simp) ?_
        refine AllReady.cons rfl (fun K hK => ?_) AllReady.nil
        go_simp
        rw [show IntKind.i64.wrap ((sz : Int) + (mo : Int)) = ((sz + mo : Nat) : Int) by rw [IntWalk.i64_in _ (by omega)]; omega]
        refine (Hnx.out _ hB).mono ?_
        rintro e wc ⟨bN, rfl, hN2, hbb⟩
        refine hK _ _ ?_
        clear hK K
        have HN := Lib.hid hN2
        have HC : Hid (SlW oC L.length cC ∧ StrsAt (fun k => wS ≤ k ∧ k < wc.heap.size) wc oC L) := Lib.hid ⟨HC.out.1, (HC.out.2.below hbb).mono fun k hk => ⟨hk.1, Nat.lt_of_lt_of_le hk.2 hbb.size⟩⟩
        have hB := btr hB hbb
        have xb := xb.belowAll hbb
        have xr := xr.belowAll hbb
        have Hto := Lib.hid (Hto.out.below hbb)
        clear c0 l0 hbb hN2
        have c0 := xb.cell
        have l0 := xb.lt
        simp only [List.setIfInBounds_toArray, List.set_cons_zero, List.set_cons_succ]
        refine wpAny_ready (rs := [12]) (by kernel_rfl) (by simp) ?_
        refine AllReady.cons rfl (fun K hK => ?_) AllReady.nil
        obtain ⟨us, hus, hul⟩ := HN.out.row
        obtain ⟨vs, hv1, hv2⟩ := Hto.out
        have hul1 : us.length = 2 := hul.1
        have hone : ∀ u ∈ us, u.oneCell' = true := by
         intro u hu
         obtain ⟨j, hj, rfl⟩ := List.getElem_of_mem hu
         have hj2 : j < 2 := by omega
         have hop := hul.2 j hj2 hj
         rcases j with _ | _ | j
         ·
          obtain ⟨bi, bd, e, _⟩ := hop
          rw [e]; rfl
         ·
          have e : us[1] = .func (.func 42) #[] #[] := hop
          rw [e]; rfl
         ·
          omega
        have hzc := hB.size
        refine wp_app (.tmp 55) (.tmp 60) 90 rfl w.heap.size 99 io _ 1 8 Tryd.underlying90 Hio.out.1 Hio.out.2.1 Hio.out.2.2.1 Hio.out.2.2.2 rfl (by decide) vT opT.length vs rfl hv1 (some ⟨bN, 0, none⟩) 2 2 us rfl (fun h => by cases h) (by omega) hus hone (by unfold maxLen; omega) (by omega) hzc ?_
        intro vF wc ho7 hg7
        refine hK _ _ ?_
        clear hK K
        have hul7 : OpL wc (vs ++ us) (opT ++ nextL l (sz + mo)) := (OpL.app hv2 hul).grown hv1 hg7
        rw [HopF.out] at hul7
        rw [← HopFl.out] at ho7
        have xb := xb.grown hg7 (fun e => ownsRow_ne_bx hv1 xb (by decide) e.symm)
        have xr := xr.grown hg7 (fun e => ownsRow_ne_bx hv1 xr (by decide) e.symm)
        have hB := hB.grown hg7 hzc (fun b e => (hv1.lt b e).1)
        obtain ⟨oF, cF, rfl, _, hrow, _⟩ := ownsRow_at ho7
        have HO := Lib.hid (OpsAt.of hrow hul7)
        have HC : Hid (SlW oC L.length cC ∧ StrsAt (fun k => wS ≤ k ∧ k < wc.heap.size) wc oC L) := Lib.hid ⟨HC.out.1, (HC.out.2.same (w' := wc) (fun k hk => hg7.block k hk.2 (fun e => by have := HloT.out k e.symm; have := hk.1; omega))).mono fun k hk => ⟨hk.1, Nat.lt_of_lt_of_le hk.2 hg7.size⟩⟩
        clear c0 l0 HN hus hul hv1 hv2 hone hul1 ho7 hg7 hul7 hrow
        have c0 := xb.cell
        have l0 := xb.lt
        simp only [Act.put, List.setIfInBounds_toArray, List.set_cons_zero, List.set_cons_succ]
        refine wpAny_ready (rs := [13]) (by kernel_rfl) (by simp) ?_
        refine AllReady.cons rfl (fun K hK => ?_) AllReady.nil
        go_simp
        have hfc := pl_finish l _ L oC cC opF oF cF wc (Hl0.out.below hB) HC.out.1 (HC.out.2.mono fun k hk => hk.2) HO.out (by have := HopFl.out; omega) (by have := Hver.out; omega) (by have := Hver.out; omega)
        rw [HF.out] at hfc
        refine hfc.mono ?_
        rintro e wd ⟨vF, rfl, hLF, hbb⟩
        refine hK _ _ ?_
        clear hK K hfc
        have hLF' := hLF
        obtain ⟨po2, pc2, co2, cc2, ro2, rc2, rfl, _, _, _⟩ := hLF
        have s9 : LgS w N l po co ro pc cc rc wd := ⟨xb.belowAll hbb, xr.belowAll hbb, btr hB hbb, Hl0.out.below (btr hB hbb)⟩
        obtain ⟨Wf, hWf⟩ : ∃ Wf, st8 wd (N + 1) (.int .i64 F.disk.size) (.slice po2 F.disk.pages.length pc2) (.slice co2 F.disk.cache.length cc2) (.int .i64 F.disk.left) (.int .i64 F.frm) (.int .i64 F.til) (.int .i64 F.ver) (.slice ro2 F.recs.length rc2) = Wf := ⟨_, rfl⟩
        obtain ⟨zR, zB, zL⟩ := s9.out hN hLF' hWf
        clear c0 l0
        have cX := s9.res.cell
        have lX := s9.res.lt
        have fX := s9.res.free
        have ZB := Lib.hid zB
        have ZL := Lib.hid zL
        have HWf := Lib.hid hWf
        clear zB zL hWf hLF' hbb xb xr hB HC HO s9
        simp only [List.setIfInBounds_toArray, List.set_cons_zero, List.set_cons_succ]
        refine wpAny_take (i := 14) (v := ?_) rfl (by kernel_rfl) (by kernel_rfl) (by kernel_rfl) (fun _ _ _ h => h) (Or.inl ⟨by rfl, ?_⟩) ?_
        rotate_left
        ·
         intro w; go_simp; try with_reducible rfl
        simp only [Act.put, List.setIfInBounds_toArray, List.set_cons_zero, List.set_cons_succ]
        refine wpAny_take (i := 15) (v := ?_) rfl (by kernel_rfl) (by kernel_rfl) (by kernel_rfl) (fun _ _ _ h => h) (Or.inl ⟨by rfl, ?_⟩) ?_
        rotate_left
        ·
         intro w; go_simp; try with_reducible rfl
        simp only [Act.put, List.setIfInBounds_toArray, List.set_cons_zero, List.set_cons_succ]
        refine wpAny_ready (rs := [16]) (by kernel_rfl) (by simp) ?_
        refine AllReady.cons rfl (fun K hK => ?_) AllReady.nil
        go_simp
        refine hK _ _ ?_
        clear hK K
        refine wpAny_ready (rs := [17]) (by kernel_rfl) (by simp) ?_
        refine AllReady.cons rfl (fun K hK => ?_) AllReady.nil
        go_simp
        refine hK _ _ ?_
        clear hK K
        refine wpAny_done (by kernel_rfl) ?_ _
        go_wp2
        have HW := HWf.out
        unfold st8 at HW
        rw [HW]
        have cZ := zR.cell
        refine bodyPost_ret (v := .tuple #[.agg (lgC F.disk po2 co2 pc2 cc2 F.frm F.til F.ver ro2 F.recs.length rc2), .int .i64 er]) (by simp [results, Tryd.results19, go_sem, cZ]) rfl ?_
        rw [HRF.out]
        exact ⟨_, rfl, ZL.out, ZB.out⟩
       ·
        go_simp
        refine hK _ _ ?_
        clear hK K
        simp only [List.setIfInBounds_toArray, List.set_cons_zero, List.set_cons_succ]
        refine wpAny_ready (rs := [0, 4]) (by kernel_rfl) (by simp) ?_
        refine AllReady.cons rfl (fun K hK => ?_) (AllReady.cons rfl (fun K hK => ?_) AllReady.nil)
        ·
         go_simp
         refine hK _ _ ?_
         clear hK K
         simp only [List.setIfInBounds_toArray, List.set_cons_zero]
         refine wpAny_ready (rs := [4]) (by kernel_rfl) (by simp) ?_
         refine AllReady.cons rfl (fun K hK => ?_) AllReady.nil
         go_simp
         refine hK _ _ ?_
         clear hK K
         have x4 := Bx.new wc #[.slice ro l.recs.length rc, .slice qo rs.length qc] 27
         have hbb := Below.one wc (.cells #[.slice ro l.recs.length rc, .slice qo rs.length qc] 27)
         obtain ⟨g, hg⟩ : ∃ g, wc.heap.size = g := ⟨_, rfl⟩
         rw [hg] at x4
         obtain ⟨wc, hwc⟩ : ∃ W', wc.alloc (.cells #[.slice ro l.recs.length rc, .slice qo rs.length qc] 27) = W' := ⟨_, rfl⟩
         rw [hwc] at x4 hbb
         rw [hwc, hg]
         clear hwc
         have hB := btr hB hbb
         have xb := xb.belowAll hbb
         have xr := xr.belowAll hbb
         have Hto := Lib.hid (Hto.out.below hbb)
         have HwS : Hid (wS ≤ wc.heap.size) := Lib.hid (Nat.le_trans HwS.out hbb.size)
         clear c0 l0 hbb hg
         have c0 := xb.cell
         have l0 := xb.lt
         simp only [List.setIfInBounds_toArray, List.set_cons_zero, List.set_cons_succ]
         refine wpAny_ready (rs := [5]) (by kernel_rfl) (by simp) ?_
         refine AllReady.cons rfl (fun K hK => ?_) AllReady.nil
         go_simp
         refine (sl_ConcatS wc g _ _ x4 l.recs rs ⟨ro, rc, rfl, Hsl.out, Hst.out.below hB⟩ ⟨qo, qc, rfl, Hqs.out, Hqt.out.below hB⟩ (by have := Hbd.out; omega) hrl).mono ?_
         rintro e wc ⟨vC, rfl, hC, hbb⟩
         refine hK _ _ ?_
         clear hK K
         rw [HL.out] at hC
         obtain ⟨oC, cC, rfl, hCs, hCt⟩ := hC
         have HC : Hid (SlW oC L.length cC ∧ StrsAt (fun k => wS ≤ k ∧ k < wc.heap.size) wc oC L) := Lib.hid ⟨hCs, hCt.mono fun k hk => ⟨Nat.le_trans HwS.out hk.1, hk.2⟩⟩
         have hB := btr hB hbb
         have xb := xb.belowAll hbb
         have xr := xr.belowAll hbb
         have Hto := Lib.hid (Hto.out.below hbb)
         clear c0 l0 hbb x4 hCs hCt
         have c0 := xb.cell
         have l0 := xb.lt
         simp only [List.setIfInBounds_toArray, List.set_cons_zero, List.set_cons_succ]
         refine wpAny_ready (rs := [11]) (by kernel_rfl) (by simp) ?_
         refine AllReady.cons rfl (fun K hK => ?_) AllReady.nil
         go_simp
         rw [show IntKind.i64.wrap ((sz : Int) + (mo : Int)) = ((sz + mo : Nat) : Int) by rw [IntWalk.i64_in _ (by omega)]; omega]
         refine (Hnx.out _ hB).mono ?_
         rintro e wc ⟨bN, rfl, hN2, hbb⟩
         refine hK _ _ ?_
         clear hK K
         have HN := Lib.hid hN2
         have HC : Hid (SlW oC L.length cC ∧ StrsAt (fun k => wS ≤ k ∧ k < wc.heap.size) wc oC L) := Lib.hid ⟨HC.out.1, (HC.out.2.below hbb).mono fun k hk => ⟨hk.1, Nat.lt_of_lt_of_le hk.2 hbb.size⟩⟩
         have hB := btr hB hbb
         have xb := xb.belowAll hbb
         have xr := xr.belowAll hbb
         have Hto := Lib.hid (Hto.out.below hbb)
         clear c0 l0 hbb hN2
         have c0 := xb.cell
         have l0 := xb.lt
         simp only [List.setIfInBounds_toArray, List.set_cons_zero, List.set_cons_succ]
         refine wpAny_ready (rs := [12]) (by kernel_rfl) (by simp) ?_
         refine AllReady.cons rfl (fun K hK => ?_) AllReady.nil
         obtain ⟨us, hus, hul⟩ := HN.out.row
         obtain ⟨vs, hv1, hv2⟩ := Hto.out
         have hul1 : us.length = 2 := hul.1
         have hone : ∀ u ∈ us, u.oneCell' = true := by
          intro u hu
          obtain ⟨j, hj, rfl⟩ := List.getElem_of_mem hu
          have hj2 : j < 2 := by omega
          have hop := hul.2 j hj2 hj
          rcases j with _ | _ | j
          ·
           obtain ⟨bi, bd, e, _⟩ := hop
           rw [e]; rfl
          ·
           have e : us[1] = .func (.func 42) #[] #[] := hop
           rw [e]; rfl
          ·
           omega
         have hzc := hB.size
         refine wp_app (.tmp 55) (.tmp 60) 90 rfl w.heap.size 99 io _ 1 8 Tryd.underlying90 Hio.out.1 Hio.out.2.1 Hio.out.2.2.1 Hio.out.2.2.2 rfl (by decide) vT opT.length vs rfl hv1 (some ⟨bN, 0, none⟩) 2 2 us rfl (fun h => by cases h) (by omega) hus hone (by unfold maxLen; omega) (by omega) hzc ?_
         intro vF wc ho7 hg7
         refine hK _ _ ?_
         clear hK K
         have hul7 : OpL wc (vs ++ us) (opT ++ nextL l (sz + mo)) := (OpL.app hv2 hul).grown hv1 hg7
         rw [HopF.out] at hul7
         rw [← HopFl.out] at ho7
         have xb := xb.grown hg7 (fun e => ownsRow_ne_bx hv1 xb (by decide) e.symm)
         have xr := xr.grown hg7 (fun e => ownsRow_ne_bx hv1 xr (by decide) e.symm)
         have hB := hB.grown hg7 hzc (fun b e => (hv1.lt b e).1)
         obtain ⟨oF, cF, rfl, _, hrow, _⟩ := ownsRow_at ho7
         have HO := Lib.hid (OpsAt.of hrow hul7)
         have HC : Hid (SlW oC L.length cC ∧ StrsAt (fun k => wS ≤ k ∧ k < wc.heap.size) wc oC L) := Lib.hid ⟨HC.out.1, (HC.out.2.same (w' := wc) (fun k hk => hg7.block k hk.2 (fun e => by have := HloT.out k e.symm; have := hk.1; omega))).mono fun k hk => ⟨hk.1, Nat.lt_of_lt_of_le hk.2 hg7.size⟩⟩
         clear c0 l0 HN hus hul hv1 hv2 hone hul1 ho7 hg7 hul7 hrow
         have c0 := xb.cell
         have l0 := xb.lt
         simp only [Act.put, List.setIfInBounds_toArray, List.set_cons_zero, List.set_cons_succ]
         refine wpAny_ready (rs := [13]) (by kernel_rfl) (by simp) ?_
         refine AllReady.cons rfl (fun K hK => ?_) AllReady.nil
         go_simp
         have hfc := pl_finish l _ L oC cC opF oF cF wc (Hl0.out.below hB) HC.out.1 (HC.out.2.mono fun k hk => hk.2) HO.out (by have := HopFl.out; omega) (by have := Hver.out; omega) (by have := Hver.out; omega)
         rw [HF.out] at hfc
         refine hfc.mono ?_
         rintro e wd ⟨vF, rfl, hLF, hbb⟩
         refine hK _ _ ?_
         clear hK K hfc
         have hLF' := hLF
         obtain ⟨po2, pc2, co2, cc2, ro2, rc2, rfl, _, _, _⟩ := hLF
         have s9 : LgS w N l po co ro pc cc rc wd := ⟨xb.belowAll hbb, xr.belowAll hbb, btr hB hbb, Hl0.out.below (btr hB hbb)⟩
         obtain ⟨Wf, hWf⟩ : ∃ Wf, st8 wd (N + 1) (.int .i64 F.disk.size) (.slice po2 F.disk.pages.length pc2) (.slice co2 F.disk.cache.length cc2) (.int .i64 F.disk.left) (.int .i64 F.frm) (.int .i64 F.til) (.int .i64 F.ver) (.slice ro2 F.recs.length rc2) = Wf := ⟨_, rfl⟩
         obtain ⟨zR, zB, zL⟩ := s9.out hN hLF' hWf
         clear c0 l0
         have cX := s9.res.cell
         have lX := s9.res.lt
         have fX := s9.res.free
         have ZB := Lib.hid zB
         have ZL := Lib.hid zL
         have HWf := Lib.hid hWf
         clear zB zL hWf hLF' hbb xb xr hB HC HO s9
         simp only [List.setIfInBounds_toArray, List.set_cons_zero, List.set_cons_succ]
         refine wpAny_take (i := 14) (v := ?_) rfl (by kernel_rfl) (by kernel_rfl) (by kernel_rfl) (fun _ _ _ h => h) (Or.inl ⟨by rfl, ?_⟩) ?_
         rotate_left
         ·
          intro w; go_simp; try with_reducible rfl
         simp only [Act.put, List.setIfInBounds_toArray, List.set_cons_zero, List.set_cons_succ]
         refine wpAny_take (i := 15) (v := ?_) rfl (by kernel_rfl) (by kernel_rfl) (by kernel_rfl) (fun _ _ _ h => h) (Or.inl ⟨by rfl, ?_⟩) ?_
         rotate_left
         ·
          intro w; go_simp; try with_reducible rfl
         simp only [Act.put, List.setIfInBounds_toArray, List.set_cons_zero, List.set_cons_succ]
         refine wpAny_ready (rs := [16]) (by kernel_rfl) (by simp) ?_
         refine AllReady.cons rfl (fun K hK => ?_) AllReady.nil
         go_simp
         refine hK _ _ ?_
         clear hK K
         refine wpAny_ready (rs := [17]) (by kernel_rfl) (by simp) ?_
         refine AllReady.cons rfl (fun K hK => ?_) AllReady.nil
         go_simp
         refine hK _ _ ?_
         clear hK K
         refine wpAny_done (by kernel_rfl) ?_ _
         go_wp2
         have HW := HWf.out
         unfold st8 at HW
         rw [HW]
         have cZ := zR.cell
         refine bodyPost_ret (v := .tuple #[.agg (lgC F.disk po2 co2 pc2 cc2 F.frm F.til F.ver ro2 F.recs.length rc2), .int .i64 er]) (by simp [results, Tryd.results19, go_sem, cZ]) rfl ?_
         rw [HRF.out]
         exact ⟨_, rfl, ZL.out, ZB.out⟩
        ·
         go_simp
         refine hK _ _ ?_
         clear hK K
         have x4 := Bx.new wc #[.slice ro l.recs.length rc, .slice qo rs.length qc] 27
         have hbb := Below.one wc (.cells #[.slice ro l.recs.length rc, .slice qo rs.length qc] 27)
         obtain ⟨g, hg⟩ : ∃ g, wc.heap.size = g := ⟨_, rfl⟩
         rw [hg] at x4
         obtain ⟨wc, hwc⟩ : ∃ W', wc.alloc (.cells #[.slice ro l.recs.length rc, .slice qo rs.length qc] 27) = W' := ⟨_, rfl⟩
         rw [hwc] at x4 hbb
         rw [hwc, hg]
         clear hwc
         have hB := btr hB hbb
         have xb := xb.belowAll hbb
         have xr := xr.belowAll hbb
         have Hto := Lib.hid (Hto.out.below hbb)
         have HwS : Hid (wS ≤ wc.heap.size) := Lib.hid (Nat.le_trans HwS.out hbb.size)
         clear c0 l0 hbb hg
         have c0 := xb.cell
         have l0 := xb.lt
         simp only [List.setIfInBounds_toArray, List.set_cons_zero, List.set_cons_succ]
         refine wpAny_ready (rs := [0, 5]) (by kernel_rfl) (by simp) ?_
         refine AllReady.cons rfl (fun K hK => ?_) (AllReady.cons rfl (fun K hK => ?_) AllReady.nil)
         ·
          go_simp
          refine hK _ _ ?_
          clear hK K
          simp only [List.setIfInBounds_toArray, List.set_cons_zero]
          refine wpAny_ready (rs := [5]) (by kernel_rfl) (by simp) ?_
          refine AllReady.cons rfl (fun K hK => ?_) AllReady.nil
          go_simp
          refine (sl_ConcatS wc g _ _ x4 l.recs rs ⟨ro, rc, rfl, Hsl.out, Hst.out.below hB⟩ ⟨qo, qc, rfl, Hqs.out, Hqt.out.below hB⟩ (by have := Hbd.out; omega) hrl).mono ?_
          rintro e wc ⟨vC, rfl, hC, hbb⟩
          refine hK _ _ ?_
          clear hK K
          rw [HL.out] at hC
          obtain ⟨oC, cC, rfl, hCs, hCt⟩ := hC
          have HC : Hid (SlW oC L.length cC ∧ StrsAt (fun k => wS ≤ k ∧ k < wc.heap.size) wc oC L) := Lib.hid ⟨hCs, hCt.mono fun k hk => ⟨Nat.le_trans HwS.out hk.1, hk.2⟩⟩
          have hB := btr hB hbb
          have xb := xb.belowAll hbb
          have xr := xr.belowAll hbb
          have Hto := Lib.hid (Hto.out.below hbb)
          clear c0 l0 hbb x4 hCs hCt
          have c0 := xb.cell
          have l0 := xb.lt
          simp only [List.setIfInBounds_toArray, List.set_cons_zero, List.set_cons_succ]
          refine wpAny_ready (rs := [11]) (by kernel_rfl) (by simp) ?_
          refine AllReady.cons rfl (fun K hK => ?_) AllReady.nil
          go_simp
          rw [show IntKind.i64.wrap ((sz : Int) + (mo : Int)) = ((sz + mo : Nat) : Int) by rw [IntWalk.i64_in _ (by omega)]; omega]
          refine (Hnx.out _ hB).mono ?_
          rintro e wc ⟨bN, rfl, hN2, hbb⟩
          refine hK _ _ ?_
          clear hK K
          have HN := Lib.hid hN2
          have HC : Hid (SlW oC L.length cC ∧ StrsAt (fun k => wS ≤ k ∧ k < wc.heap.size) wc oC L) := Lib.hid ⟨HC.out.1, (HC.out.2.below hbb).mono fun k hk => ⟨hk.1, Nat.lt_of_lt_of_le hk.2 hbb.size⟩⟩
          have hB := btr hB hbb
          have xb := xb.belowAll hbb
          have xr := xr.belowAll hbb
          have Hto := Lib.hid (Hto.out.below hbb)
          clear c0 l0 hbb hN2
          have c0 := xb.cell
          have l0 := xb.lt
          simp only [List.setIfInBounds_toArray, List.set_cons_zero, List.set_cons_succ]
          refine wpAny_ready (rs := [12]) (by kernel_rfl) (by simp) ?_
          refine AllReady.cons rfl (fun K hK => ?_) AllReady.nil
          obtain ⟨us, hus, hul⟩ := HN.out.row
          obtain ⟨vs, hv1, hv2⟩ := Hto.out
          have hul1 : us.length = 2 := hul.1
          have hone : ∀ u ∈ us, u.oneCell' = true := by
           intro u hu
           obtain ⟨j, hj, rfl⟩ := List.getElem_of_mem hu
           have hj2 : j < 2 := by omega
           have hop := hul.2 j hj2 hj
           rcases j with _ | _ | j
           ·
            obtain ⟨bi, bd, e, _⟩ := hop
            rw [e]; rfl
           ·
            have e : us[1] = .func (.func 42) #[] #[] := hop
            rw [e]; rfl
           ·
            omega
          have hzc := hB.size
          refine wp_app (.tmp 55) (.tmp 60) 90 rfl w.heap.size 99 io _ 1 8 Tryd.underlying90 Hio.out.1 Hio.out.2.1 Hio.out.2.2.1 Hio.out.2.2.2 rfl (by decide) vT opT.length vs rfl hv1 (some ⟨bN, 0, none⟩) 2 2 us rfl (fun h => by cases h) (by omega) hus hone (by unfold maxLen; omega) (by omega) hzc ?_
          intro vF wc ho7 hg7
          refine hK _ _ ?_
          clear hK K
          have hul7 : OpL wc (vs ++ us) (opT ++ nextL l (sz + mo)) := (OpL.app hv2 hul).grown hv1 hg7
          rw [HopF.out] at hul7
          rw [← HopFl.out] at ho7
          have xb := xb.grown hg7 (fun e => ownsRow_ne_bx hv1 xb (by decide) e.symm)
          have xr := xr.grown hg7 (fun e => ownsRow_ne_bx hv1 xr (by decide) e.symm)
          have hB := hB.grown hg7 hzc (fun b e => (hv1.lt b e).1)
          obtain ⟨oF, cF, rfl, _, hrow, _⟩ := ownsRow_at ho7
          have HO := Lib.hid (OpsAt.of hrow hul7)
          have HC : Hid (SlW oC L.length cC ∧ StrsAt (fun k => wS ≤ k ∧ k < wc.heap.size) wc oC L) := Lib.hid ⟨HC.out.1, (HC.out.2.same (w' := wc) (fun k hk => hg7.block k hk.2 (fun e => by have := HloT.out k e.symm; have := hk.1; omega))).mono fun k hk => ⟨hk.1, Nat.lt_of_lt_of_le hk.2 hg7.size⟩⟩
          clear c0 l0 HN hus hul hv1 hv2 hone hul1 ho7 hg7 hul7 hrow
          have c0 := xb.cell
          have l0 := xb.lt
          simp only [Act.put, List.setIfInBounds_toArray, List.set_cons_zero, List.set_cons_succ]
          refine wpAny_ready (rs := [13]) (by kernel_rfl) (by simp) ?_
          refine AllReady.cons rfl (fun K hK => ?_) AllReady.nil
          go_simp
          have hfc := pl_finish l _ L oC cC opF oF cF wc (Hl0.out.below hB) HC.out.1 (HC.out.2.mono fun k hk => hk.2) HO.out (by have := HopFl.out; omega) (by have := Hver.out; omega) (by have := Hver.out; omega)
          rw [HF.out] at hfc
          refine hfc.mono ?_
          rintro e wd ⟨vF, rfl, hLF, hbb⟩
          refine hK _ _ ?_
          clear hK K hfc
          have hLF' := hLF
          obtain ⟨po2, pc2, co2, cc2, ro2, rc2, rfl, _, _, _⟩ := hLF
          have s9 : LgS w N l po co ro pc cc rc wd := ⟨xb.belowAll hbb, xr.belowAll hbb, btr hB hbb, Hl0.out.below (btr hB hbb)⟩
          obtain ⟨Wf, hWf⟩ : ∃ Wf, st8 wd (N + 1) (.int .i64 F.disk.size) (.slice po2 F.disk.pages.length pc2) (.slice co2 F.disk.cache.length cc2) (.int .i64 F.disk.left) (.int .i64 F.frm) (.int .i64 F.til) (.int .i64 F.ver) (.slice ro2 F.recs.length rc2) = Wf := ⟨_, rfl⟩
          obtain ⟨zR, zB, zL⟩ := s9.out hN hLF' hWf
          clear c0 l0
          have cX := s9.res.cell
          have lX := s9.res.lt
          have fX := s9.res.free
          have ZB := Lib.hid zB
          have ZL := Lib.hid zL
          have HWf := Lib.hid hWf
          clear zB zL hWf hLF' hbb xb xr hB HC HO s9
          simp only [List.setIfInBounds_toArray, List.set_cons_zero, List.set_cons_succ]
          refine wpAny_take (i := 14) (v := ?_) rfl (by kernel_rfl) (by kernel_rfl) (by kernel_rfl) (fun _ _ _ h => h) (Or.inl ⟨by rfl, ?_⟩) ?_
          rotate_left
          ·
           intro w; go_simp; try with_reducible rfl
          simp only [Act.put, List.setIfInBounds_toArray, List.set_cons_zero, List.set_cons_succ]
          refine wpAny_take (i := 15) (v := ?_) rfl (by kernel_rfl) (by kernel_rfl) (by kernel_rfl) (fun _ _ _ h => h) (Or.inl ⟨by rfl, ?_⟩) ?_
          rotate_left
          ·
           intro w; go_simp; try with_reducible rfl
          simp only [Act.put, List.setIfInBounds_toArray, List.set_cons_zero, List.set_cons_succ]
          refine wpAny_ready (rs := [16]) (by kernel_rfl) (by simp) ?_
          refine AllReady.cons rfl (fun K hK => ?_) AllReady.nil
          go_simp
          refine hK _ _ ?_
          clear hK K
          refine wpAny_ready (rs := [17]) (by kernel_rfl) (by simp) ?_
          refine AllReady.cons rfl (fun K hK => ?_) AllReady.nil
          go_simp
          refine hK _ _ ?_
          clear hK K
          refine wpAny_done (by kernel_rfl) ?_ _
          go_wp2
          have HW := HWf.out
          unfold st8 at HW
          rw [HW]
          have cZ := zR.cell
          refine bodyPost_ret (v := .tuple #[.agg (lgC F.disk po2 co2 pc2 cc2 F.frm F.til F.ver ro2 F.recs.length rc2), .int .i64 er]) (by simp [results, Tryd.results19, go_sem, cZ]) rfl ?_
          rw [HRF.out]
          exact ⟨_, rfl, ZL.out, ZB.out⟩
         ·
          go_simp
          refine (sl_ConcatS wc g _ _ x4 l.recs rs ⟨ro, rc, rfl, Hsl.out, Hst.out.below hB⟩ ⟨qo, qc, rfl, Hqs.out, Hqt.out.below hB⟩ (by have := Hbd.out; omega) hrl).mono ?_
          rintro e wc ⟨vC, rfl, hC, hbb⟩
          refine hK _ _ ?_
          clear hK K
          rw [HL.out] at hC
          obtain ⟨oC, cC, rfl, hCs, hCt⟩ := hC
          have HC : Hid (SlW oC L.length cC ∧ StrsAt (fun k => wS ≤ k ∧ k < wc.heap.size) wc oC L) := Lib.hid ⟨hCs, hCt.mono fun k hk => ⟨Nat.le_trans HwS.out hk.1, hk.2⟩⟩
          have hB := btr hB hbb
          have xb := xb.belowAll hbb
          have xr := xr.belowAll hbb
          have Hto := Lib.hid (Hto.out.below hbb)
          clear c0 l0 hbb x4 hCs hCt
          have c0 := xb.cell
          have l0 := xb.lt
          simp only [List.setIfInBounds_toArray, List.set_cons_zero, List.set_cons_succ]
          refine wpAny_ready (rs := [0, 11]) (by kernel_rfl) (by simp) ?_
          refine AllReady.cons rfl (fun K hK => ?_) (AllReady.cons rfl (fun K hK => ?_) AllReady.nil)
          ·
           go_simp
           refine hK _ _ ?_
           clear hK K
           simp only [List.setIfInBounds_toArray, List.set_cons_zero]
           refine wpAny_ready (rs := [11]) (by kernel_rfl) (by simp) ?_
           refine AllReady.cons rfl (fun K hK => ?_) AllReady.nil
           go_simp
           rw [show IntKind.i64.wrap ((sz : Int) + (mo : Int)) = ((sz + mo : Nat) : Int) by rw [IntWalk.i64_in _ (by omega)]; omega]
           refine (Hnx.out _ hB).mono ?_
           rintro e wc ⟨bN, rfl, hN2, hbb⟩
           refine hK _ _ ?_
           clear hK K
           have HN := Lib.hid hN2
           have HC : Hid (SlW oC L.length cC ∧ StrsAt (fun k => wS ≤ k ∧ k < wc.heap.size) wc oC L) := Lib.hid ⟨HC.out.1, (HC.out.2.below hbb).mono fun k hk => ⟨hk.1, Nat.lt_of_lt_of_le hk.2 hbb.size⟩⟩
           have hB := btr hB hbb
           have xb := xb.belowAll hbb
           have xr := xr.belowAll hbb
           have Hto := Lib.hid (Hto.out.below hbb)
           clear c0 l0 hbb hN2
           have c0 := xb.cell
           have l0 := xb.lt
           simp only [List.setIfInBounds_toArray, List.set_cons_zero, List.set_cons_succ]
           refine wpAny_ready (rs := [12]) (by kernel_rfl) (by simp) ?_
           refine AllReady.cons rfl (fun K hK => ?_) AllReady.nil
           obtain ⟨us, hus, hul⟩ := HN.out.row
           obtain ⟨vs, hv1, hv2⟩ := Hto.out
           have hul1 : us.length = 2 := hul.1
           have hone : ∀ u ∈ us, u.oneCell' = true := by
            intro u hu
            obtain ⟨j, hj, rfl⟩ := List.getElem_of_mem hu
            have hj2 : j < 2 := by omega
            have hop := hul.2 j hj2 hj
            rcases j with _ | _ | j
            ·
             obtain ⟨bi, bd, e, _⟩ := hop
             rw [e]; rfl
            ·
             have e : us[1] = .func (.func 42) #[] #[] := hop
             rw [e]; rfl
            ·
             omega
           have hzc := hB.size
           refine wp_app (.tmp 55) (.tmp 60) 90 rfl w.heap.size 99 io _ 1 8 Tryd.underlying90 Hio.out.1 Hio.out.2.1 Hio.out.2.2.1 Hio.out.2.2.2 rfl (by decide) vT opT.length vs rfl hv1 (some ⟨bN, 0, none⟩) 2 2 us rfl (fun h => by cases h) (by omega) hus hone (by unfold maxLen; omega) (by omega) hzc ?_
           intro vF wc ho7 hg7
           refine hK _ _ ?_
           clear hK K
           have hul7 : OpL wc (vs ++ us) (opT ++ nextL l (sz + mo)) := (OpL.app hv2 hul).grown hv1 hg7
           rw [HopF.out] at hul7
           rw [← HopFl.out] at ho7
           have xb := xb.grown hg7 (fun e => ownsRow_ne_bx hv1 xb (by decide) e.symm)
           have xr := xr.grown hg7 (fun e => ownsRow_ne_bx hv1 xr (by decide) e.symm)
           have hB := hB.grown hg7 hzc (fun b e => (hv1.lt b e).1)
           obtain ⟨oF, cF, rfl, _, hrow, _⟩ := ownsRow_at ho7
           have HO := Lib.hid (OpsAt.of hrow hul7)
           have HC : Hid (SlW oC L.length cC ∧ StrsAt (fun k => wS ≤ k ∧ k < wc.heap.size) wc oC L) := Lib.hid ⟨HC.out.1, (HC.out.2.same (w' := wc) (fun k hk => hg7.block k hk.2 (fun e => by have := HloT.out k e.symm; have := hk.1; omega))).mono fun k hk => ⟨hk.1, Nat.lt_of_lt_of_le hk.2 hg7.size⟩⟩
           clear c0 l0 HN hus hul hv1 hv2 hone hul1 ho7 hg7 hul7 hrow
           have c0 := xb.cell
           have l0 := xb.lt
           simp only [Act.put, List.setIfInBounds_toArray, List.set_cons_zero, List.set_cons_succ]
           refine wpAny_ready (rs := [13]) (by kernel_rfl) (by simp) ?_
           refine AllReady.cons rfl (fun K hK => ?_) AllReady.nil
           go_simp
           have hfc := pl_finish l _ L oC cC opF oF cF wc (Hl0.out.below hB) HC.out.1 (HC.out.2.mono fun k hk => hk.2) HO.out (by have := HopFl.out; omega) (by have := Hver.out; omega) (by have := Hver.out; omega)
           rw [HF.out] at hfc
           refine hfc.mono ?_
           rintro e wd ⟨vF, rfl, hLF, hbb⟩
           refine hK _ _ ?_
           clear hK K hfc
           have hLF' := hLF
           obtain ⟨po2, pc2, co2, cc2, ro2, rc2, rfl, _, _, _⟩ := hLF
           have s9 : LgS w N l po co ro pc cc rc wd := ⟨xb.belowAll hbb, xr.belowAll hbb, btr hB hbb, Hl0.out.below (btr hB hbb)⟩
           obtain ⟨Wf, hWf⟩ : ∃ Wf, st8 wd (N + 1) (.int .i64 F.disk.size) (.slice po2 F.disk.pages.length pc2) (.slice co2 F.disk.cache.length cc2) (.int .i64 F.disk.left) (.int .i64 F.frm) (.int .i64 F.til) (.int .i64 F.ver) (.slice ro2 F.recs.length rc2) = Wf := ⟨_, rfl⟩
           obtain ⟨zR, zB, zL⟩ := s9.out hN hLF' hWf
           clear c0 l0
           have cX := s9.res.cell
           have lX := s9.res.lt
           have fX := s9.res.free
           have ZB := Lib.hid zB
           have ZL := Lib.hid zL
           have HWf := Lib.hid hWf
           clear zB zL hWf hLF' hbb xb xr hB HC HO s9
           simp only [List.setIfInBounds_toArray, List.set_cons_zero, List.set_cons_succ]
           refine wpAny_take (i := 14) (v := ?_) rfl (by kernel_rfl) (by kernel_rfl) (by kernel_rfl) (fun _ _ _ h => h) (Or.inl ⟨by rfl, ?_⟩) ?_
           rotate_left
           ·
            intro w; go_simp; try with_reducible rfl
           simp only [Act.put, List.setIfInBounds_toArray, List.set_cons_zero, List.set_cons_succ]
           refine wpAny_take (i := 15) (v := ?_) rfl (by kernel_rfl) (by kernel_rfl) (by kernel_rfl) (fun _ _ _ h => h) (Or.inl ⟨by rfl, ?_⟩) ?_
           rotate_left
           ·
            intro w; go_simp; try with_reducible rfl
           simp only [Act.put, List.setIfInBounds_toArray, List.set_cons_zero, List.set_cons_succ]
           refine wpAny_ready (rs := [16]) (by kernel_rfl) (by simp) ?_
           refine AllReady.cons rfl (fun K hK => ?_) AllReady.nil
           go_simp
           refine hK _ _ ?_
           clear hK K
           refine wpAny_ready (rs := [17]) (by kernel_rfl) (by simp) ?_
           refine AllReady.cons rfl (fun K hK => ?_) AllReady.nil
           go_simp
           refine hK _ _ ?_
           clear hK K
           refine wpAny_done (by kernel_rfl) ?_ _
           go_wp2
           have HW := HWf.out
           unfold st8 at HW
           rw [HW]
           have cZ := zR.cell
           refine bodyPost_ret (v := .tuple #[.agg (lgC F.disk po2 co2 pc2 cc2 F.frm F.til F.ver ro2 F.recs.length rc2), .int .i64 er]) (by simp [results, Tryd.results19, go_sem, cZ]) rfl ?_
           rw [HRF.out]
           exact ⟨_, rfl, ZL.out, ZB.out⟩
          ·
           go_simp
           rw [show IntKind.i64.wrap ((sz : Int) + (mo : Int)) = ((sz + mo : Nat) : Int) by rw [IntWalk.i64_in _ (by omega)]; omega]
           refine (Hnx.out _ hB).mono ?_
           rintro e wc ⟨bN, rfl, hN2, hbb⟩
           refine hK _ _ ?_
           clear hK K
           have HN := Lib.hid hN2
           have HC : Hid (SlW oC L.length cC ∧ StrsAt (fun k => wS ≤ k ∧ k < wc.heap.size) wc oC L) := Lib.hid ⟨HC.out.1, (HC.out.2.below hbb).mono fun k hk => ⟨hk.1, Nat.lt_of_lt_of_le hk.2 hbb.size⟩⟩
           have hB := btr hB hbb
           have xb := xb.belowAll hbb
           have xr := xr.belowAll hbb
           have Hto := Lib.hid (Hto.out.below hbb)
           clear c0 l0 hbb hN2
           have c0 := xb.cell
           have l0 := xb.lt
           simp only [List.setIfInBounds_toArray, List.set_cons_zero, List.set_cons_succ]
           refine wpAny_ready (rs := [0, 12]) (by kernel_rfl) (by simp) ?_
           refine AllReady.cons rfl (fun K hK => ?_) (AllReady.cons rfl (fun K hK => ?_) AllReady.nil)
           ·
            go_simp
            refine hK _ _ ?_
            clear hK K
            simp only [List.setIfInBounds_toArray, List.set_cons_zero]
            refine wpAny_ready (rs := [12]) (by kernel_rfl) (by simp) ?_
            refine AllReady.cons rfl (fun K hK => ?_) AllReady.nil
            obtain ⟨us, hus, hul⟩ := HN.out.row
            obtain ⟨vs, hv1, hv2⟩ := Hto.out
            have hul1 : us.length = 2 := hul.1
            have hone : ∀ u ∈ us, u.oneCell' = true := by
             intro u hu
             obtain ⟨j, hj, rfl⟩ := List.getElem_of_mem hu
             have hj2 : j < 2 := by omega
             have hop := hul.2 j hj2 hj
             rcases j with _ | _ | j
             ·
              obtain ⟨bi, bd, e, _⟩ := hop
              rw [e]; rfl
             ·
              have e : us[1] = .func (.func 42) #[] #[] := hop
              rw [e]; rfl
             ·
              omega
            have hzc := hB.size
            refine wp_app (.tmp 55) (.tmp 60) 90 rfl w.heap.size 99 io _ 1 8 Tryd.underlying90 Hio.out.1 Hio.out.2.1 Hio.out.2.2.1 Hio.out.2.2.2 rfl (by decide) vT opT.length vs rfl hv1 (some ⟨bN, 0, none⟩) 2 2 us rfl (fun h => by cases h) (by omega) hus hone (by unfold maxLen; omega) (by omega) hzc ?_
            intro vF wc ho7 hg7
            refine hK _ _ ?_
            clear hK K
            have hul7 : OpL wc (vs ++ us) (opT ++ nextL l (sz + mo)) := (OpL.app hv2 hul).grown hv1 hg7
            rw [HopF.out] at hul7
            rw [← HopFl.out] at ho7
            have xb := xb.grown hg7 (fun e => ownsRow_ne_bx hv1 xb (by decide) e.symm)
            have xr := xr.grown hg7 (fun e => ownsRow_ne_bx hv1 xr (by decide) e.symm)
            have hB := hB.grown hg7 hzc (fun b e => (hv1.lt b e).1)
            obtain ⟨oF, cF, rfl, _, hrow, _⟩ := ownsRow_at ho7
            have HO := Lib.hid (OpsAt.of hrow hul7)
            have HC : Hid (SlW oC L.length cC ∧ StrsAt (fun k => wS ≤ k ∧ k < wc.heap.size) wc oC L) := Lib.hid ⟨HC.out.1, (HC.out.2.same (w' := wc) (fun k hk => hg7.block k hk.2 (fun e => by have := HloT.out k e.symm; have := hk.1; omega))).mono fun k hk => ⟨hk.1, Nat.lt_of_lt_of_le hk.2 hg7.size⟩⟩
            clear c0 l0 HN hus hul hv1 hv2 hone hul1 ho7 hg7 hul7 hrow
            have c0 := xb.cell
            have l0 := xb.lt
            simp only [Act.put, List.setIfInBounds_toArray, List.set_cons_zero, List.set_cons_succ]
            refine wpAny_ready (rs := [13]) (by kernel_rfl) (by simp) ?_
            refine AllReady.cons rfl (fun K hK => ?_) AllReady.nil
            go_simp
            have hfc := pl_finish l _ L oC cC opF oF cF wc (Hl0.out.below hB) HC.out.1 (HC.out.2.mono fun k hk => hk.2) HO.out (by have := HopFl.out; omega) (by have := Hver.out; omega) (by have := Hver.out; omega)
            rw [HF.out] at hfc
            refine hfc.mono ?_
            rintro e wd ⟨vF, rfl, hLF, hbb⟩
            refine hK _ _ ?_
            clear hK K hfc
            have hLF' := hLF
            obtain ⟨po2, pc2, co2, cc2, ro2, rc2, rfl, _, _, _⟩ := hLF
            have s9 : LgS w N l po co ro pc cc rc wd := ⟨xb.belowAll hbb, xr.belowAll hbb, btr hB hbb, Hl0.out.below (btr hB hbb)⟩
            obtain ⟨Wf, hWf⟩ : ∃ Wf, st8 wd (N + 1) (.int .i64 F.disk.size) (.slice po2 F.disk.pages.length pc2) (.slice co2 F.disk.cache.length cc2) (.int .i64 F.disk.left) (.int .i64 F.frm) (.int .i64 F.til) (.int .i64 F.ver) (.slice ro2 F.recs.length rc2) = Wf := ⟨_, rfl⟩
            obtain ⟨zR, zB, zL⟩ := s9.out hN hLF' hWf
            clear c0 l0
            have cX := s9.res.cell
            have lX := s9.res.lt
            have fX := s9.res.free
            have ZB := Lib.hid zB
            have ZL := Lib.hid zL
            have HWf := Lib.hid hWf
            clear zB zL hWf hLF' hbb xb xr hB HC HO s9
            simp only [List.setIfInBounds_toArray, List.set_cons_zero, List.set_cons_succ]
            refine wpAny_take (i := 14) (v := ?_) rfl (by kernel_rfl) (by kernel_rfl) (by kernel_rfl) (fun _ _ _ h => h) (Or.inl ⟨by rfl, ?_⟩) ?_
            rotate_left
            ·
             intro w; go_simp; try with_reducible rfl
            simp only [Act.put, List.setIfInBounds_toArray, List.set_cons_zero, List.set_cons_succ]
            refine wpAny_take (i := 15) (v := ?_) rfl (by kernel_rfl) (by kernel_rfl) (by kernel_rfl) (fun _ _ _ h => h) (Or.inl ⟨by rfl, ?_⟩) ?_
            rotate_left
            ·
             intro w; go_simp; try with_reducible rfl
            simp only [Act.put, List.setIfInBounds_toArray, List.set_cons_zero, List.set_cons_succ]
            refine wpAny_ready (rs := [16]) (by kernel_rfl) (by simp) ?_
            refine AllReady.cons rfl (fun K hK => ?_) AllReady.nil
            go_simp
            refine hK _ _ ?_
            clear hK K
            refine wpAny_ready (rs := [17]) (by kernel_rfl) (by simp) ?_
            refine AllReady.cons rfl (fun K hK => ?_) AllReady.nil
            go_simp
            refine hK _ _ ?_
            clear hK K
            refine wpAny_done (by kernel_rfl) ?_ _
            go_wp2
            have HW := HWf.out
            unfold st8 at HW
            rw [HW]
            have cZ := zR.cell
            refine bodyPost_ret (v := .tuple #[.agg (lgC F.disk po2 co2 pc2 cc2 F.frm F.til F.ver ro2 F.recs.length rc2), .int .i64 er]) (by simp [results, Tryd.results19, go_sem, cZ]) rfl ?_
            rw [HRF.out]
            exact ⟨_, rfl, ZL.out, ZB.out⟩
           ·
            obtain ⟨us, hus, hul⟩ := HN.out.row
            obtain ⟨vs, hv1, hv2⟩ := Hto.out
            have hul1 : us.length = 2 := hul.1
            have hone : ∀ u ∈ us, u.oneCell' = true := by
             intro u hu
             obtain ⟨j, hj, rfl⟩ := List.getElem_of_mem hu
             have hj2 : j < 2 := by omega
             have hop := hul.2 j hj2 hj
             rcases j with _ | _ | j
             ·
              obtain ⟨bi, bd, e, _⟩ := hop
              rw [e]; rfl
             ·
              have e : us[1] = .func (.func 42) #[] #[] := hop
              rw [e]; rfl
             ·
              omega
            have hzc := hB.size
            refine wp_app (.tmp 55) (.tmp 60) 90 rfl w.heap.size 99 io _ 1 8 Tryd.underlying90 Hio.out.1 Hio.out.2.1 Hio.out.2.2.1 Hio.out.2.2.2 rfl (by decide) vT opT.length vs rfl hv1 (some ⟨bN, 0, none⟩) 2 2 us rfl (fun h => by cases h) (by omega) hus hone (by unfold maxLen; omega) (by omega) hzc ?_
            intro vF wc ho7 hg7
            refine hK _ _ ?_
            clear hK K
            have hul7 : OpL wc (vs ++ us) (opT ++ nextL l (sz + mo)) := (OpL.app hv2 hul).grown hv1 hg7
            rw [HopF.out] at hul7
            rw [← HopFl.out] at ho7
            have xb := xb.grown hg7 (fun e => ownsRow_ne_bx hv1 xb (by decide) e.symm)
            have xr := xr.grown hg7 (fun e => ownsRow_ne_bx hv1 xr (by decide) e.symm)
            have hB := hB.grown hg7 hzc (fun b e => (hv1.lt b e).1)
            obtain ⟨oF, cF, rfl, _, hrow, _⟩ := ownsRow_at ho7
            have HO := Lib.hid (OpsAt.of hrow hul7)
            have HC : Hid (SlW oC L.length cC ∧ StrsAt (fun k => wS ≤ k ∧ k < wc.heap.size) wc oC L) := Lib.hid ⟨HC.out.1, (HC.out.2.same (w' := wc) (fun k hk => hg7.block k hk.2 (fun e => by have := HloT.out k e.symm; have := hk.1; omega))).mono fun k hk => ⟨hk.1, Nat.lt_of_lt_of_le hk.2 hg7.size⟩⟩
            clear c0 l0 HN hus hul hv1 hv2 hone hul1 ho7 hg7 hul7 hrow
            have c0 := xb.cell
            have l0 := xb.lt
            simp only [Act.put, List.setIfInBounds_toArray, List.set_cons_zero, List.set_cons_succ]
            refine wpAny_ready (rs := [0]) (by kernel_rfl) (by simp) ?_
            refine AllReady.cons rfl (fun K hK => ?_) AllReady.nil
            go_simp
            refine hK _ _ ?_
            clear hK K
            simp only [List.setIfInBounds_toArray, List.set_cons_zero]
            refine wpAny_ready (rs := [13]) (by kernel_rfl) (by simp) ?_
            refine AllReady.cons rfl (fun K hK => ?_) AllReady.nil
            go_simp
            have hfc := pl_finish l _ L oC cC opF oF cF wc (Hl0.out.below hB) HC.out.1 (HC.out.2.mono fun k hk => hk.2) HO.out (by have := HopFl.out; omega) (by have := Hver.out; omega) (by have := Hver.out; omega)
            rw [HF.out] at hfc
            refine hfc.mono ?_
            rintro e wd ⟨vF, rfl, hLF, hbb⟩
            refine hK _ _ ?_
            clear hK K hfc
            have hLF' := hLF
            obtain ⟨po2, pc2, co2, cc2, ro2, rc2, rfl, _, _, _⟩ := hLF
            have s9 : LgS w N l po co ro pc cc rc wd := ⟨xb.belowAll hbb, xr.belowAll hbb, btr hB hbb, Hl0.out.below (btr hB hbb)⟩
            obtain ⟨Wf, hWf⟩ : ∃ Wf, st8 wd (N + 1) (.int .i64 F.disk.size) (.slice po2 F.disk.pages.length pc2) (.slice co2 F.disk.cache.length cc2) (.int .i64 F.disk.left) (.int .i64 F.frm) (.int .i64 F.til) (.int .i64 F.ver) (.slice ro2 F.recs.length rc2) = Wf := ⟨_, rfl⟩
            obtain ⟨zR, zB, zL⟩ := s9.out hN hLF' hWf
            clear c0 l0
            have cX := s9.res.cell
            have lX := s9.res.lt
            have fX := s9.res.free
            have ZB := Lib.hid zB
            have ZL := Lib.hid zL
            have HWf := Lib.hid hWf
            clear zB zL hWf hLF' hbb xb xr hB HC HO s9
            simp only [List.setIfInBounds_toArray, List.set_cons_zero, List.set_cons_succ]
            refine wpAny_take (i := 14) (v := ?_) rfl (by kernel_rfl) (by kernel_rfl) (by kernel_rfl) (fun _ _ _ h => h) (Or.inl ⟨by rfl, ?_⟩) ?_
            rotate_left
            ·
             intro w; go_simp; try with_reducible rfl
            simp only [Act.put, List.setIfInBounds_toArray, List.set_cons_zero, List.set_cons_succ]
            refine wpAny_take (i := 15) (v := ?_) rfl (by kernel_rfl) (by kernel_rfl) (by kernel_rfl) (fun _ _ _ h => h) (Or.inl ⟨by rfl, ?_⟩) ?_
            rotate_left
            ·
             intro w; go_simp; try with_reducible rfl
            simp only [Act.put, List.setIfInBounds_toArray, List.set_cons_zero, List.set_cons_succ]
            refine wpAny_ready (rs := [16]) (by kernel_rfl) (by simp) ?_
            refine AllReady.cons rfl (fun K hK => ?_) AllReady.nil
            go_simp
            refine hK _ _ ?_
            clear hK K
            refine wpAny_ready (rs := [17]) (by kernel_rfl) (by simp) ?_
            refine AllReady.cons rfl (fun K hK => ?_) AllReady.nil
            go_simp
            refine hK _ _ ?_
            clear hK K
            refine wpAny_done (by kernel_rfl) ?_ _
            go_wp2
            have HW := HWf.out
            unfold st8 at HW
            rw [HW]
            have cZ := zR.cell
            refine bodyPost_ret (v := .tuple #[.agg (lgC F.disk po2 co2 pc2 cc2 F.frm F.til F.ver ro2 F.recs.length rc2), .int .i64 er]) (by simp [results, Tryd.results19, go_sem, cZ]) rfl ?_
            rw [HRF.out]
            exact ⟨_, rfl, ZL.out, ZB.out⟩
     ·
      have HRR : Hid (R = (zeroL, 17)) := Lib.hid (by rw [Hfull.out, if_pos (.inr (of_decide_eq_true g6))])
      obtain ⟨er0, her⟩ : ∃ er : Int, er = 17 := ⟨17, rfl⟩
      have Her := Lib.hid her
      rw [← her] at HRR
      clear her
      go_enter Tryd.func19, Tryd.ntmps19
      go_wp2_with fail
      refine Hv.out.mono ?_
      rintro e w1 ⟨rfl, hb1⟩
      have s1 := s0.next hb1
      clear c0 l0 hW0 hb1
      have c0 := s1.box.cell
      have l0 := s1.box.lt
      go_wp2_with fail
      refine (Hbig.out _ s1.below).mono ?_
      rintro e w2 ⟨rfl, hb2⟩
      have s2 := s1.next hb2
      clear c0 l0 hb2 s1
      have c0 := s2.box.cell
      have l0 := s2.box.lt
      go_wp2_with fail
      refine (HSA.out _ s2.below).mono ?_
      rintro e w3 ⟨rfl, hb3⟩
      have s3 := s2.next hb3
      clear c0 l0 hb3 s2
      have c0 := s3.box.cell
      have l0 := s3.box.lt
      go_wp2_with fail
      refine (HSB.out _ s3.below).mono ?_
      rintro e w4 ⟨rfl, hb4⟩
      have s4 := s3.next hb4
      clear c0 l0 hb4 s3
      have c0 := s4.box.cell
      have l0 := s4.box.lt
      go_wp2_with fail
      refine (HAA.out _ s4.below).mono ?_
      rintro e w5 ⟨rfl, hb5⟩
      have s5 := s4.next hb5
      clear c0 l0 hb5 s4
      have c0 := s5.box.cell
      have l0 := s5.box.lt
      clear c0 l0
      obtain ⟨Wf, hWf⟩ : ∃ Wf, st8 w5 (N + 1) (.int .i64 0) (.slice none 0 0) (.slice none 0 0) (.int .i64 0) (.int .i64 0) (.int .i64 0) (.int .i64 0) (.slice none 0 0) = Wf := ⟨_, rfl⟩
      obtain ⟨zR, zB⟩ := s5.outZ hN hWf
      have s1 := s5
      have c0 := s5.box.cell
      have l0 := s5.box.lt
      have cX := s1.res.cell
      have lX := s1.res.lt
      have fX := s1.res.free
      have ZB := Lib.hid zB
      have HWf := Lib.hid hWf
      clear zB hWf
      go_wp2
      have HW := HWf.out
      unfold st8 at HW
      rw [HW]
      have cZ := zR.cell
      refine bodyPost_ret (v := .tuple #[.agg lgZ, .int .i64 er0]) (by simp [results, Tryd.results19, go_sem, cZ, Her.out]) rfl ?_
      rw [HRR.out]
      exact ⟨_, rfl, LgV.zero _, ZB.out⟩
    ·
     have HRR : Hid (R = (zeroL, 17)) := Lib.hid (by rw [Hfull.out, if_pos (.inl (of_decide_eq_true g5))])
     obtain ⟨er0, her⟩ : ∃ er : Int, er = 17 := ⟨17, rfl⟩
     have Her := Lib.hid her
     rw [← her] at HRR
     clear her
     go_enter Tryd.func19, Tryd.ntmps19
     go_wp2_with fail
     refine Hv.out.mono ?_
     rintro e w1 ⟨rfl, hb1⟩
     have s1 := s0.next hb1
     clear c0 l0 hW0 hb1
     have c0 := s1.box.cell
     have l0 := s1.box.lt
     go_wp2_with fail
     refine (Hbig.out _ s1.below).mono ?_
     rintro e w2 ⟨rfl, hb2⟩
     have s2 := s1.next hb2
     clear c0 l0 hb2 s1
     have c0 := s2.box.cell
     have l0 := s2.box.lt
     go_wp2_with fail
     refine (HSA.out _ s2.below).mono ?_
     rintro e w3 ⟨rfl, hb3⟩
     have s3 := s2.next hb3
     clear c0 l0 hb3 s2
     have c0 := s3.box.cell
     have l0 := s3.box.lt
     go_wp2_with fail
     refine (HSB.out _ s3.below).mono ?_
     rintro e w4 ⟨rfl, hb4⟩
     have s4 := s3.next hb4
     clear c0 l0 hb4 s3
     have c0 := s4.box.cell
     have l0 := s4.box.lt
     go_wp2_with fail
     refine (HAA.out _ s4.below).mono ?_
     rintro e w5 ⟨rfl, hb5⟩
     have s5 := s4.next hb5
     clear c0 l0 hb5 s4
     have c0 := s5.box.cell
     have l0 := s5.box.lt
     clear c0 l0
     obtain ⟨Wf, hWf⟩ : ∃ Wf, st8 w5 (N + 1) (.int .i64 0) (.slice none 0 0) (.slice none 0 0) (.int .i64 0) (.int .i64 0) (.int .i64 0) (.int .i64 0) (.slice none 0 0) = Wf := ⟨_, rfl⟩
     obtain ⟨zR, zB⟩ := s5.outZ hN hWf
     have s1 := s5
     have c0 := s5.box.cell
     have l0 := s5.box.lt
     have cX := s1.res.cell
     have lX := s1.res.lt
     have fX := s1.res.free
     have ZB := Lib.hid zB
     have HWf := Lib.hid hWf
     clear zB hWf
     go_wp2
     have HW := HWf.out
     unfold st8 at HW
     rw [HW]
     have cZ := zR.cell
     refine bodyPost_ret (v := .tuple #[.agg lgZ, .int .i64 er0]) (by simp [results, Tryd.results19, go_sem, cZ, Her.out]) rfl ?_
     rw [HRR.out]
     exact ⟨_, rfl, LgV.zero _, ZB.out⟩
   ·
    have hn0 : rs.length = 0 := by simpa using g0
    have HRR : Hid (R = (l, 0)) := Lib.hid (by rw [← hR]; unfold apL; rw [if_neg (by simp [g]), if_neg (by simp [hbg]), if_pos hn0])
    clear hv hR g hbg hn0
    go_enter Tryd.func19, Tryd.ntmps19
    go_wp2_with fail
    refine Hv.out.mono ?_
    rintro e w1 ⟨rfl, hb1⟩
    have s1 := s0.next hb1
    clear c0 l0 hW0 hb1
    have c0 := s1.box.cell
    have l0 := s1.box.lt
    go_wp2_with fail
    refine (Hbig.out _ s1.below).mono ?_
    rintro e w2 ⟨rfl, hb2⟩
    have s2 := s1.next hb2
    clear c0 l0
    have c0 := s2.box.cell
    have l0 := s2.box.lt
    obtain ⟨Wf, hWf⟩ : ∃ Wf, st8 w2 (N + 1) (.int .i64 l.disk.size) (.slice po l.disk.pages.length pc) (.slice co l.disk.cache.length cc) (.int .i64 l.disk.left) (.int .i64 l.frm) (.int .i64 l.til) (.int .i64 l.ver) (.slice ro l.recs.length rc) = Wf := ⟨_, rfl⟩
    obtain ⟨zR, zB, zL⟩ := s2.out hN s2.val hWf
    have cX := s2.res.cell
    have lX := s2.res.lt
    have fX := s2.res.free
    have ZB := Lib.hid zB
    have ZL := Lib.hid zL
    have HWf := Lib.hid hWf
    clear zB zL hWf
    go_wp2
    have HW := HWf.out
    unfold st8 at HW
    rw [HW]
    have cZ := zR.cell
    refine bodyPost_ret (v := .tuple #[.agg (lgC l.disk po co pc cc l.frm l.til l.ver ro l.recs.length rc), .int .i64 0]) (by simp [results, Tryd.results19, go_sem, cZ]) rfl ?_
    rw [HRR.out]
    exact ⟨_, rfl, ZL.out, ZB.out⟩
end Go.Proofs.YtghikgjknhjjgaaDoor
