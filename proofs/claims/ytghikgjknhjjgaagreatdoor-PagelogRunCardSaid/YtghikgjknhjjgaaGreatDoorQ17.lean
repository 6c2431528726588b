/- The reference's finish. The reference's Cut = cutL. -/
import Derived.Test.YtghikgjknhjjgaaGreatDoorQ16
import Derived.Test.YtghikgjknhjjgaaGreatDoorQ06
namespace Go.Proofs.YtghikgjknhjjgaaGreatDoor
set_option maxRecDepth 100000
open Go.RowKit Go.Shelf
def annBx (cs : Array Value) (t : TypeId) : Ann := ⟨fun r => .pointer (some ⟨r.lo, 0, none⟩), fun r W => Bx W r.lo cs t ∧ r.hi = r.lo + 1⟩
theorem lz_bx {cs : Array Value} {t : TypeId} (w : World) : lzPost (annBx cs t) w (.pointer (some ⟨w.heap.size, 0, none⟩)) (w.alloc (.cells cs t)) :=
 ⟨Below.one _ _, fun _ => undef, rfl, fun _ hb => ⟨(Bx.new w cs t).belowAll hb, by simp⟩⟩
def annDE (d : Dsk) (er : Int) : Ann := ⟨fun r => .tuple #[r.x 0, .int .i64 er], fun r W => DskV W (r.x 0) d⟩
theorem lz_de {f : FuncId} {args : Array Value} {d : Dsk} {er : Int} {W : World} (h : Calls Tryz.prog f args W (RetVE W d er)) : Calls Tryz.prog f args W fun e w' => ∃ u, e = .returned u ∧ lzPost (annDE d er) W u w' :=
 h.mono fun _ _ ⟨v, he, ho, hb⟩ => ⟨_, he, hb, fun _ => v, rfl, fun _ hb' => ho.below hb'⟩
theorem rv_write (d : Dsk) (v : Value) (i : Int) (data : ByteArray) (w : World) (hD : DskV w v d) (hd : data.size ≤ 140737488351232) (hn : d.cache.length ≤ 1000000) {A : Dsk} {er : Int} (he : writeD d i data = (A, er)) :
  Calls Tryz.prog 39 #[v, .int .i64 i, .string data] w (RetVE w A er) := by
 refine (ref40_write d v i data w (inS_all w) hD hd hn).mono ?_
 rintro e w' ⟨v', rfl, h, hb⟩
 rw [he] at h ⊢
 exact ⟨v', rfl, .of h (gr_all hb), hb⟩
theorem rv_flush (d : Dsk) (v : Value) (w : World) (hD : DskV w v d) {A : Dsk} {er : Int} (he : flushD d = (A, er)) :
  Calls Tryz.prog 40 #[v] w (RetVE w A er) := by
 refine (ref40_flush d v w (inS_all w) hD).mono ?_
 rintro e w' ⟨v', rfl, h, hb⟩
 rw [he] at h ⊢
 exact ⟨v', rfl, .of h (gr_all hb), hb⟩
theorem finL_two (l : Lg) (recs : List ByteArray) (i : Int) (H : ByteArray) (A1 A : Dsk) (e1 er : Int) (h1 : writeD l.disk i H = (A1, e1)) (h2 : e1 ≠ 0 → A = A1 ∧ er = e1) (h3 : e1 = 0 → flushD A1 = (A, er)) :
  finL l recs [.wr i H, .fl] = if er ≠ 0 then ({ l with disk := A }, er) else ({ l with disk := A, ver := l.ver + 1, recs := recs }, 0) := by
 have hp : perfP l.disk [.wr i H, .fl] = (A, er) := by
  rw [perfP]
  have e : opP l.disk (.wr i H) = (A1, e1) := h1
  rw [e]
  by_cases h : e1 = 0
  ·
   rw [if_neg (by simp [h]), perfP]
   have e' : opP A1 .fl = (A, er) := h3 h
   simp only [e']
   by_cases h' : er = 0
   ·
    rw [if_neg (by simp [h']), perfP, h']
   ·
    rw [if_pos h']
  ·
   rw [if_pos h, (h2 h).1, (h2 h).2]
 unfold finL
 rw [hp]
set_option maxRecDepth 100000 in
set_option maxHeartbeats 4000000 in
theorem rf_finish (l : Lg) (v : Value) (recs : List ByteArray) (ro' : Option Addr) (rc' : Nat) (V : Nat) (w : World) (hL : LgV w v l) (hsl' : SlW ro' recs.length rc') (hst' : StrsAt (· < w.heap.size) w ro' recs)
    (hV : l.ver = V) (hVb : V ≤ 1099511627776) (hz : 24 ≤ l.disk.size) (hz2 : l.disk.size ≤ 512) (hf : 0 ≤ l.frm) (hf2 : l.frm ≤ 1000000) (hc : l.disk.cache.length ≤ 999990) (hrs : sizeL recs ≤ 3000000) (hrl : recs.length ≤ 3000000) :
    Calls Tryz.prog 41 #[v, .slice ro' recs.length rc'] w (RetLE w (finL l recs (nextL l (sizeL recs))).1 (finL l recs (nextL l (sizeL recs))).2) := by
  obtain ⟨R, hR⟩ : ∃ R, finL l recs (nextL l (sizeL recs)) = R := ⟨_, rfl⟩
  rw [hR]
  obtain ⟨sz, hsz⟩ : ∃ sz, sizeL recs = sz := ⟨_, rfl⟩
  have hSz := fun W (hb : Below w.heap.size w W) => rf_Size W ro' rc' recs (hst'.below hb) (by omega) (by omega)
  rw [hsz] at hR hrs
  simp only [hsz] at hSz
  obtain ⟨⟨size, pages, cache, left⟩, frm, til, ver, recs0⟩ := l
  simp only at hV hz hz2 hf hf2 hc
  obtain ⟨z, rfl⟩ : ∃ z : Nat, size = z := ⟨size.toNat, by omega⟩
  subst hV
  obtain ⟨po, pc, co, cc, ro, rc, rfl, hD, hsl, hst⟩ := hL
  obtain ⟨N, hN⟩ : ∃ N, w.heap.size = N := ⟨_, rfl⟩
  obtain ⟨k, hk⟩ : ∃ k : Int, ((V : Int) + 1) % 2 = k := ⟨_, rfl⟩
  have hk2 : 0 ≤ k ∧ k ≤ 1 := by omega
  obtain ⟨H, hH⟩ : ∃ H, bs (hdrL z (V + 1) sz) = H := ⟨_, rfl⟩
  have hHs : H.size ≤ 1000 := by rw [← hH, bs_size]; simp [hdrL, num8]; omega
  have hnx : nextL ⟨⟨z, pages, cache, left⟩, frm, til, V, recs0⟩ sz = [.wr (frm + k) H, .fl] := by
    unfold nextL
    simp only
    rw [Int.tmod_eq_emod_of_nonneg (by omega), hk, ← hH]
    congr 3
  rw [hnx] at hR
  have hhd := fun W => rf_Header z (V + 1) sz W (by omega) (by omega)
  simp only [hH, Int.natCast_add, Int.natCast_one] at hhd
  obtain ⟨A1, e1, hA1⟩ : ∃ A1 e1, writeD ⟨z, pages, cache, left⟩ (frm + k) H = (A1, e1) := ⟨_, _, rfl⟩
  obtain ⟨A, er, hA2, hA3⟩ : ∃ A er, (e1 ≠ 0 → A = A1 ∧ er = e1) ∧ (e1 = 0 → flushD A1 = (A, er)) := by
    by_cases h : e1 = 0
    · exact ⟨_, _, fun h' => absurd h h', fun _ => rfl⟩
    · exact ⟨A1, e1, fun _ => ⟨rfl, rfl⟩, fun h' => absurd h' h⟩
  have hfin := finL_two ⟨⟨z, pages, cache, left⟩, frm, til, V, recs0⟩ recs (frm + k) H A1 A e1 er hA1 hA2 hA3
  rw [hR] at hfin
  simp only at hD hsl hst
  obtain ⟨W0, hW0⟩ : ∃ W0, (w.alloc (.cells (lgC ⟨z, pages, cache, left⟩ po co pc cc frm til V ro recs0.length rc) 27)).alloc (.cells lgZ 27) = W0 := ⟨_, rfl⟩
  have x0 : Bx W0 N (lgC ⟨z, pages, cache, left⟩ po co pc cc frm til V ro recs0.length rc) 27 := by subst hW0 hN; exact (Bx.new w _ _).alloc _
  have x1 : Bx W0 (N + 1) lgZ 27 := by subst hW0 hN; exact Bx.newAt _ _ _ _ (by simp)
  have hB0 : Below w.heap.size w W0 := by subst hW0; exact (Below.one w _).alloc (by simp) _
  have hwr := fun W (hb : Below w.heap.size w W) => rv_write ⟨z, pages, cache, left⟩ _ (frm + k) H W (hD.below hb) (by omega) (by simp only; omega) hA1
  have Hwr := Lib.hid hwr
  have Hhd := Lib.hid hhd
  have HSz := Lib.hid hSz
  have Hfin := Lib.hid hfin
  have Hst := Lib.hid hst
  have Hst' := Lib.hid hst'
  have Hsl := Lib.hid hsl
  have Hsl' := Lib.hid hsl'
  have HA2 := Lib.hid hA2
  have HA3 := Lib.hid hA3
  clear hwr hhd hSz hfin hst hst' hsl hsl' hA2 hA3 hA1 hR hsz hH hnx hD
  have c0 := x0.cell
  have l0 := x0.lt
  go_enter Tryz.func41, Tryz.ntmps41
  have cQ := Lat.cells W0
  have HBw : Hid (∀ x : Lat W0, Below w.heap.size w x.w) := Lib.hid (fun x => btr hB0 x.h)
  go_wp2
  refine wp_region_late 19 17 2 #[true, true, true, true, true, true, true, true, true, true, true, true, true, true, true, true, true, false, true, false, false] #[true, true, true, true, true, true, true, true, true, true, true, true, true, true, true, true, true, true, true, false, false] (fun i => if i = 12 then some (annK (.int .i64 sz)) else if i = 13 then some (annK (.string H)) else if i = 14 then some (annDE A1 e1) else if i = 18 then some (annBx dZ 25) else none) _ (by kernel_rfl) rfl (by rfl) (by rfl) (by kernel_rfl) (by rfl) rfl (fun _ _ _ _ h => h) (extract_pure _ _ rfl) ?_
  simp only [List.take_succ_cons, List.take_zero]
  refine LW.block 12 12 (by rfl) (by kernel_rfl) (by kernel_rfl) ?_
  simp only [List.take_succ_cons, List.take_zero, List.drop_succ_cons, List.drop_zero]
  repeat (first | go_big_quiet_skip | (go_big_quiet_want; go_big_quiet_op; go_big_quiet_on))
  refine wpQuiet_nil ?_
  refine LW.lzy _ (by rfl) (by rfl) ?_ ?_
  · intro yL _
    unfold lzAt
    go_simp
    exact lz_constB (HSz.out _ (HBw.out _))
  intro _
  simp only [Act.put, List.setIfInBounds_toArray, List.set_cons_zero, List.set_cons_succ]
  (try simp only [annK])
  refine LW.lzy _ (by rfl) (by rfl) ?_ ?_
  · intro yL _
    unfold lzAt
    go_simp
    exact lz_constB (Hhd.out _)
  intro _
  simp only [Act.put, List.setIfInBounds_toArray, List.set_cons_zero, List.set_cons_succ]
  (try simp only [annK])
  refine LW.lzy _ (by rfl) (by rfl) ?_ ?_
  · intro yL _
    unfold lzAt
    go_simp
    exact lz_de (Hwr.out _ (HBw.out _))
  intro r14
  simp only [Act.put, List.setIfInBounds_toArray, List.set_cons_zero, List.set_cons_succ, annDE]
  refine LW.block 3 18 (by rfl) (by kernel_rfl) (by kernel_rfl) ?_
  simp only [List.take_succ_cons, List.take_zero, List.drop_succ_cons, List.drop_zero]
  repeat (first | go_big_quiet_skip | (go_big_quiet_want; go_big_quiet_op; go_big_quiet_on))
  refine wpQuiet_nil ?_
  refine LW.lzy _ (by rfl) (by rfl) ?_ ?_
  · intro yL _
    unfold lzAt
    go_simp
    exact lz_bx yL.w
  intro r18
  simp only [Act.put, List.setIfInBounds_toArray, List.set_cons_zero, List.set_cons_succ, annBx]
  refine LW.done ?_
  intro w2 hG
  have hR14 : DskV w2 (r14.x 0) A1 := hG.get 14 rfl rfl
  obtain ⟨xb, hxb⟩ : Bx w2 r18.lo dZ 25 ∧ r18.hi = r18.lo + 1 := hG.get 18 rfl rfl
  have g18 := hG.range 18 r18 rfl
  have hG2 := hG.below
  have hM1 := hR14
  obtain ⟨po1, pc1, co1, cc1, e14⟩ := hR14.agg
  rw [e14] at hM1 ⊢
  obtain ⟨b, hbe⟩ : ∃ b, r18.lo = b := ⟨_, rfl⟩
  rw [hbe] at xb ⊢
  have hbN : N + 2 ≤ b := by have := g18.1; have : W0.heap.size = N + 2 := by subst hW0 hN; simp
                             omega
  have y0 := x0.belowAll hG2
  have y1 := x1.belowAll hG2
  have hB2 := btr hB0 hG2
  have hz2' := hB2.size
  clear hG hxb g18 hG2 c0 l0 cQ hW0 x0 x1 hB0 hbe
  have cX := xb.cell
  have lX := xb.lt
  have fX := xb.free
  obtain ⟨w3, hw3⟩ : ∃ w3, st4 w2 b (.int .i64 A1.size) (.slice po1 A1.pages.length pc1) (.slice co1 A1.cache.length cc1) (.int .i64 A1.left) = w3 := ⟨_, rfl⟩
  have ho3 : Only b w2 w3 := by subst hw3; exact only_st4
  have zb : Bx w3 b (dC A1 po1 co1 pc1 cc1) 25 := by subst hw3; exact xb.st4
  have z0 := y0.only ho3 (by omega)
  have z1 := y1.only ho3 (by omega)
  have hB3 : Below w.heap.size w w3 := by subst hw3; exact below_st4 hB2 (by omega)
  have hM3 := hM1.only xb noS_dZ ho3
  refine wpAny_ready (rs := [19]) (by kernel_rfl) (by simp) ?_
  refine AllReady.cons rfl (fun K hK => ?_) AllReady.nil
  go_simp
  refine hK _ _ ?_
  clear hK K
  refine wpAny_ready (rs := [20]) (by kernel_rfl) (by simp) ?_
  refine AllReady.cons rfl (fun K hK => ?_) AllReady.nil
  go_simp
  refine hK _ _ ?_
  clear hK K
  refine wpAny_done (by kernel_rfl) ?_ _
  unfold st4 at hw3
  rw [hw3]
  clear hw3 cX lX fX xb y0 y1 hB2 hM1 hz2' ho3
  have hz3 := hB3.size
  have cb := zb.cell
  have lb := zb.lt
  have fb := zb.free
  cases g1 : (e1 == 0)
  · have he1 : e1 ≠ 0 := by simpa using g1
    obtain ⟨rfl, rfl⟩ := HA2.out he1
    have g2 : (er != 0) = true := by simpa using he1
    have hLg : LgV w3 (.agg (lgC A po1 co1 pc1 cc1 frm til V ro recs0.length rc)) ⟨A, frm, til, V, recs0⟩ := ⟨po1, pc1, co1, cc1, ro, rc, rfl, hM3, Hsl.out, (Hst.out.below hB3).mono fun b hb => Nat.lt_of_lt_of_le hb hz3⟩
    obtain ⟨Wf, hWf⟩ : ∃ Wf, st8 (st4 w3 N (.int .i64 A.size) (.slice po1 A.pages.length pc1) (.slice co1 A.cache.length cc1) (.int .i64 A.left)) (N + 1) (.int .i64 A.size) (.slice po1 A.pages.length pc1) (.slice co1 A.cache.length cc1) (.int .i64 A.left) (.int .i64 frm) (.int .i64 til) (.int .i64 V) (.slice ro recs0.length rc) = Wf := ⟨_, rfl⟩
    have ya := z1.only (r := N) (only_st4 (v0 := .int .i64 A.size) (v1 := .slice po1 A.pages.length pc1) (v2 := .slice co1 A.cache.length cc1) (v3 := .int .i64 A.left)) (by omega)
    have zR : Bx Wf (N + 1) (lgC A po1 co1 pc1 cc1 frm til V ro recs0.length rc) 27 := by subst hWf; exact ya.set8
    have zB : Below w.heap.size w Wf := by subst hWf; exact below_set8 (below_st4 hB3 (by omega)) (by omega)
    have zL : LgV Wf (.agg (lgC A po1 co1 pc1 cc1 frm til V ro recs0.length rc)) ⟨A, frm, til, V, recs0⟩ := by subst hWf; exact (hLg.only z0 (noS_lg _ _ _ _ _ _ _ _ _ _ _ _ _ _) only_st4).only ya (noS_lg _ _ _ _ _ _ _ _ _ _ _ _ _ _) Only.eight
    have HWf := Lib.hid hWf
    have HB := Lib.hid zB
    have HL := Lib.hid zL
    clear hWf zB zL ya hLg hM3 hB3
    have c0 := z0.cell
    have l0 := z0.lt
    have f0 := z0.free
    have c1 := z1.cell
    have l1 := z1.lt
    have f1 := z1.free
    go_wp2
    have HW := HWf.out
    unfold st4 st8 at HW
    rw [HW]
    have cZ := zR.cell
    refine bodyPost_ret (v := .tuple #[.agg (lgC A po1 co1 pc1 cc1 frm til V ro recs0.length rc), .int .i64 er]) (by simp [results, Tryz.results41, go_sem, cZ]) rfl ?_
    rw [Hfin.out, if_pos he1]
    exact ⟨_, rfl, HL.out, HB.out⟩
  · have he1 : e1 = 0 := by simpa using g1
    have hfl := rv_flush A1 _ w3 hM3 (HA3.out he1)
    have c0 := z0.cell
    have l0 := z0.lt
    have c1 := z1.cell
    have l1 := z1.lt
    go_wp2_with fail
    refine hfl.mono ?_
    rintro e w4 ⟨v4, rfl, hM4, hb4⟩
    clear c0 l0 c1 l1 cb lb fb hfl
    have hM5 := hM4
    obtain ⟨po2, pc2, co2, cc2, rfl⟩ := hM4.agg
    have xb := zb.belowAll hb4
    have y0 := z0.belowAll hb4
    have y1 := z1.belowAll hb4
    have hB4 := btr hB3 hb4
    have hz4 := hB4.size
    obtain ⟨w5, hw5⟩ : ∃ w5, st4 w4 b (.int .i64 A.size) (.slice po2 A.pages.length pc2) (.slice co2 A.cache.length cc2) (.int .i64 A.left) = w5 := ⟨_, rfl⟩
    have ho5 : Only b w4 w5 := by subst hw5; exact only_st4
    have q0 := y0.only ho5 (by omega)
    have q1 := y1.only ho5 (by omega)
    have hB5 : Below w.heap.size w w5 := by subst hw5; exact below_st4 hB4 (by omega)
    have hM6 := hM5.only xb (noS_dC _ _ _ _ _) ho5
    have hz5 := hB5.size
    have cb := xb.cell
    have lb := xb.lt
    have fb := xb.free
    have c0 := y0.cell
    have l0 := y0.lt
    have f0 := y0.free
    have c1 := y1.cell
    have l1 := y1.lt
    have f1 := y1.free
    have Hw5 := Lib.hid hw5
    clear hw5 hM4 hM5 zb z0 z1 hB3 hM3 hb4
    cases g2 : (er != 0)
    · have ge : er = 0 := by simpa using g2
      subst ge
      have hLg : LgV w5 (.agg (lgC A po2 co2 pc2 cc2 frm til ((V : Int) + 1) ro' recs.length rc')) ⟨A, frm, til, (V : Int) + 1, recs⟩ := ⟨po2, pc2, co2, cc2, ro', rc', rfl, hM6, Hsl'.out, (Hst'.out.below hB5).mono fun b hb => Nat.lt_of_lt_of_le hb hz5⟩
      obtain ⟨Wa, hWa⟩ : ∃ Wa, (st4 w5 N (.int .i64 A.size) (.slice po2 A.pages.length pc2) (.slice co2 A.cache.length cc2) (.int .i64 A.left) |>.setCell ⟨N, 6, none⟩ (.int .i64 ((V : Int) + 1))).setCell ⟨N, 7, none⟩ (.slice ro' recs.length rc') = Wa := ⟨_, rfl⟩
      have hOa : Only N w5 Wa := by subst hWa; exact (only_st4.set 6 _).set 7 _
      have hBa : Below w.heap.size w Wa := by subst hWa; exact below_set1 (b := N) (below_set1 (b := N) (below_st4 hB5 (by omega)) (by omega)) (by omega)
      obtain ⟨Wf, hWf⟩ : ∃ Wf, st8 Wa (N + 1) (.int .i64 A.size) (.slice po2 A.pages.length pc2) (.slice co2 A.cache.length cc2) (.int .i64 A.left) (.int .i64 frm) (.int .i64 til) (.int .i64 ((V : Int) + 1)) (.slice ro' recs.length rc') = Wf := ⟨_, rfl⟩
      have ya := q1.only hOa (by omega)
      have zR : Bx Wf (N + 1) (lgC A po2 co2 pc2 cc2 frm til ((V : Int) + 1) ro' recs.length rc') 27 := by subst hWf; exact ya.set8
      have zB : Below w.heap.size w Wf := by subst hWf; exact below_set8 hBa (by omega)
      have zL : LgV Wf (.agg (lgC A po2 co2 pc2 cc2 frm til ((V : Int) + 1) ro' recs.length rc')) ⟨A, frm, til, (V : Int) + 1, recs⟩ := by subst hWf; exact (hLg.only q0 (noS_lg _ _ _ _ _ _ _ _ _ _ _ _ _ _) hOa).only ya (noS_lg _ _ _ _ _ _ _ _ _ _ _ _ _ _) Only.eight
      have HWa := Lib.hid hWa
      have HWf := Lib.hid hWf
      have HB := Lib.hid zB
      have HL := Lib.hid zL
      clear hWf hWa zB zL ya hOa hBa hLg hM6 hB5 hB4 ho5 q0 q1
      go_wp2
      have HW := HWf.out
      rw [← HWa.out, ← Hw5.out] at HW
      unfold st4 st8 at HW
      rw [HW]
      have cZ := zR.cell
      refine bodyPost_ret (v := .tuple #[.agg (lgC A po2 co2 pc2 cc2 frm til ((V : Int) + 1) ro' recs.length rc'), .int .i64 0]) (by simp [results, Tryz.results41, go_sem, cZ]) rfl ?_
      rw [Hfin.out, if_neg (by simp)]
      exact ⟨_, rfl, HL.out, HB.out⟩
    · have ge : er ≠ 0 := by simpa using g2
      have hLg : LgV w5 (.agg (lgC A po2 co2 pc2 cc2 frm til V ro recs0.length rc)) ⟨A, frm, til, V, recs0⟩ := ⟨po2, pc2, co2, cc2, ro, rc, rfl, hM6, Hsl.out, (Hst.out.below hB5).mono fun b hb => Nat.lt_of_lt_of_le hb hz5⟩
      obtain ⟨Wf, hWf⟩ : ∃ Wf, st8 (st4 w5 N (.int .i64 A.size) (.slice po2 A.pages.length pc2) (.slice co2 A.cache.length cc2) (.int .i64 A.left)) (N + 1) (.int .i64 A.size) (.slice po2 A.pages.length pc2) (.slice co2 A.cache.length cc2) (.int .i64 A.left) (.int .i64 frm) (.int .i64 til) (.int .i64 V) (.slice ro recs0.length rc) = Wf := ⟨_, rfl⟩
      have ya := q1.only (r := N) (only_st4 (v0 := .int .i64 A.size) (v1 := .slice po2 A.pages.length pc2) (v2 := .slice co2 A.cache.length cc2) (v3 := .int .i64 A.left)) (by omega)
      have zR : Bx Wf (N + 1) (lgC A po2 co2 pc2 cc2 frm til V ro recs0.length rc) 27 := by subst hWf; exact ya.set8
      have zB : Below w.heap.size w Wf := by subst hWf; exact below_set8 (below_st4 hB5 (by omega)) (by omega)
      have zL : LgV Wf (.agg (lgC A po2 co2 pc2 cc2 frm til V ro recs0.length rc)) ⟨A, frm, til, V, recs0⟩ := by subst hWf; exact (hLg.only q0 (noS_lg _ _ _ _ _ _ _ _ _ _ _ _ _ _) only_st4).only ya (noS_lg _ _ _ _ _ _ _ _ _ _ _ _ _ _) Only.eight
      have HWf := Lib.hid hWf
      have HB := Lib.hid zB
      have HL := Lib.hid zL
      clear hWf zB zL ya hLg hM6 hB5 hB4 ho5 q0 q1
      go_wp2
      have HW := HWf.out
      rw [← Hw5.out] at HW
      unfold st4 st8 at HW
      rw [HW]
      have cZ := zR.cell
      refine bodyPost_ret (v := .tuple #[.agg (lgC A po2 co2 pc2 cc2 frm til V ro recs0.length rc), .int .i64 er]) (by simp [results, Tryz.results41, go_sem, cZ]) rfl ?_
      rw [Hfin.out, if_pos ge]
      exact ⟨_, rfl, HL.out, HB.out⟩
end Go.Proofs.YtghikgjknhjjgaaGreatDoor
namespace Go.Proofs.YtghikgjknhjjgaaGreatDoor
set_option maxRecDepth 100000
open Go.RowKit Go.Shelf
/-- an append to an empty slice -/
theorem run_append_emptyS {P : Program} (w : World) (t ty e : TypeId) (i : TypeInfo) (z : Value) (ht : P.underlying t = some (.slice e)) (hi : P.info? e = some i) (hz : i.zero = some z) (hzs : z.cells.size = i.size)
  (g : Nat) {base : Nat} (hb : base ≤ g) (hgl : g < w.heap.size) (hg : w.heap[g]? = some (.cells #[] e (0, 0))) (a : Addr) (m c : Nat) (news : List Value) (hl : news.length = m * i.size) (hnews : ∀ j u, news[j]? = some u → w.cell? (a.add j) = some u)
  (h63 : m ≤ maxLen) (hbytes : m * i.bytes ≤ 140737488355328) :
  ∃ v' w', (Builtin.append_ #[t, t] ty #[.slice (some ⟨g, 0, none⟩) 0 0, .slice (some a) m c]).run P w = .ok v' w' ∧ w'.ownsRow base e i.size v' m news ∧ Below w.heap.size w w' := by
 rcases Nat.eq_zero_or_pos m with rfl | hm
 ·
  have hn : news = [] := List.eq_nil_of_length_eq_zero (by simpa using hl)
  subst hn
  have hr := run_append_room (P := P) w t ty e i ht hi g 0 0 #[] hg a 0 c [] (by simp) (by simp) (by simp) (Nat.le_refl _) (by simp)
  have e0 : ((#[] : Array Value).toList.take (0 * i.size) ++ [] ++ (#[] : Array Value).toList.drop (0 * i.size + ([] : List Value).length)).toArray = #[] := by simp
  rw [Nat.add_zero, e0] at hr
  refine ⟨_, _, hr, ?_, ?_⟩
  ·
   refine ⟨by simp, .inr ⟨g, 0, #[], rfl, hb, ?_, Nat.le_refl _, Nat.zero_le _, by simp, by simp⟩⟩
   exact setRow_heap w g #[] _ e _ hg
  ·
   refine ⟨rfl, rfl, rfl, by simp, fun k hk => ?_⟩
   rcases Nat.decEq k g with h | h
   ·
    exact setRow_other w g k _ h
   ·
    subst h
    rw [hg]
    exact setRow_heap w k #[] _ e _ hg
 ·
  have hsmall : m ≤ 9223372036854775807 := by simp only [maxLen] at h63; omega
  have hr := run_append_grow (P := P) w t ty e i z ht hi hz ⟨g, 0, none⟩ 0 0 [] (by simp) (by simp) a m c news hl hnews (by omega) (by omega) (growslice_fits (by omega) (by rw [Nat.zero_add]; exact hbytes))
  simp only [Nat.zero_add] at hr
  have hge := grownCap_ge w m 0 e
  have hcm : grownCap w m 0 e ≤ maxLen := grownCap_le_maxLen w m 0 e h63
  refine ⟨_, _, hr, ⟨hl, .inr ⟨w.heap.size, _, _, rfl, by omega, heap_alloc_new w.drew _, hge, hcm, ?_, ?_⟩⟩, ⟨rfl, rfl, rfl, by simp, fun k hk => Below.heap_alloc w.drew _ k hk⟩⟩
  ·
   simp only [Array.size_append, List.size_toArray, size_zeroCells, hzs, hl, List.length_nil, Nat.zero_add, ← Nat.add_mul]
   congr 1
   omega
  ·
   simp only [Array.toList_append, List.nil_append]
   rw [← hl]
   exact List.take_left
theorem lz_appS {P : Program} {o : Oper} {a : Act} {W : World} (s x : Operand) (t : TypeId) (hop : o.op = .call { callee := .builtin .append, args := #[s, x], argTypes := #[t, t] }) {vs vx : Value} (hs : a.eval s = vs) (hx : a.eval x = vx) {v' : Value} {w' : World} (hr : (Builtin.append_ #[t, t] o.type #[vs, vx]).run P W = .ok v' w')
  {Post : Value → World → Prop} (h : Post v' w') : lzAt P o a W Post := by
 unfold lzAt execOp
 simp only [hop, resolve, invoke, builtin, Sem.run_bind, Sem.run_pure, Result.andThen_ok, List.map_toArray, List.map_cons, List.map_nil, hs, hx, hr]
 exact h
theorem ver_lt {v : Int} {V : Nat} (h : v = V ∧ 1 ≤ V ∧ V ≤ 1099511627776) (g : (v == 1099511627776) = false) : ¬ 1099511627776 ≤ v := by
 have : v ≠ 1099511627776 := by simpa using g
 omega
theorem ver_ge {v : Int} (g : (v == 1099511627776) = true) : 1099511627776 ≤ v := by
 have : v = 1099511627776 := by simpa using g
 omega
set_option maxRecDepth 100000 in
set_option maxHeartbeats 2000000 in
theorem rf_Cut (l : Lg) (v : Value) (n : Int) (w : World) (hL : LgV w v l) (hc : l.disk.cache.length ≤ 999990) :
  Calls Tryz.prog 11 #[v, .int .i64 n] w (RetLE w (cutL l n).1 (cutL l n).2) := by
 obtain ⟨R, hR⟩ : ∃ R, cutL l n = R := ⟨_, rfl⟩
 rw [hR]
 have hL0 := hL
 obtain ⟨po, pc, co, cc, ro, rc, rfl, hD, hsl, hst⟩ := hL
 obtain ⟨N, hN⟩ : ∃ N, w.heap.size = N := ⟨_, rfl⟩
 obtain ⟨W0, hW0⟩ : ∃ W0, (w.alloc (.cells (lgC l.disk po co pc cc l.frm l.til l.ver ro l.recs.length rc) 27)).alloc (.cells lgZ 27) = W0 := ⟨_, rfl⟩
 have s0 : LgS w N l po co ro pc cc rc W0 := by subst hW0; exact LgS.start hN hL0
 have hv := rf_Valid l _ W0 s0.val
 have c0 := s0.box.cell
 have l0 := s0.box.lt
 cases g : validL l
 ·
  rw [g] at hv
  have Hv := Lib.hid hv
  obtain ⟨er0, her⟩ : ∃ er : Int, er = 1 := ⟨1, rfl⟩
  have Her := Lib.hid her
  have HRR : Hid (R = (zeroL, er0)) := Lib.hid (by rw [← hR, her]; unfold cutL; rw [if_pos g])
  clear hv hR her g
  go_enter Tryz.func11, Tryz.ntmps11
  go_wp2_with fail
  refine Hv.out.mono ?_
  rintro e w1 ⟨rfl, hb1⟩
  have s1 := s0.next hb1
  clear c0 l0 hW0 hb1
  have c0 := s1.box.cell
  have l0 := s1.box.lt
  obtain ⟨Wf, hWf⟩ : ∃ Wf, st8 w1 (N + 1) (.int .i64 0) (.slice none 0 0) (.slice none 0 0) (.int .i64 0) (.int .i64 0) (.int .i64 0) (.int .i64 0) (.slice none 0 0) = Wf := ⟨_, rfl⟩
  obtain ⟨zR, zB⟩ := s1.outZ hN hWf
  have cX := s1.res.cell
  have lX := s1.res.lt
  have fX := s1.res.free
  have ZB := Lib.hid zB
  have HWf := Lib.hid hWf
  clear zB hWf
  go_wp2
  have HW := HWf.out
  unfold st8 at HW
  rw [HW]
  have cZ := zR.cell
  refine bodyPost_ret (v := .tuple #[.agg lgZ, .int .i64 er0]) (by simp [results, Tryz.results11, go_sem, cZ, Her.out]) rfl ?_
  rw [HRR.out]
  exact ⟨_, rfl, LgV.zero _, ZB.out⟩
 ·
  rw [g] at hv
  have Hv := Lib.hid hv
  obtain ⟨V, hver, hV1, hV2⟩ := valid_ver g
  have hbd := valid_bd g
  have hfit := (validL_parts g).1
  have hcf := fun h1 h2 => cutL_full (n := n) g h1 h2
  have hc0 : cutL l n = if n < 0 ∨ (l.recs.length : Int) < n then (zeroL, 2) else if n = l.recs.length then (l, 0) else cutL l n := by
   by_cases h1 : n < 0 ∨ (l.recs.length : Int) < n
   ·
    rw [if_pos h1]; unfold cutL; rw [if_neg (by simp [g]), if_pos h1]
   ·
    rw [if_neg h1]
    by_cases h2 : n = l.recs.length
    ·
     rw [if_pos h2]; unfold cutL; rw [if_neg (by simp [g]), if_neg h1, if_pos h2]
    ·
     rw [if_neg h2]
  rw [hR] at hc0 hcf
  have Hc0 := Lib.hid hc0
  have Hcf := Lib.hid hcf
  have Hver : Hid (l.ver = V ∧ 1 ≤ V ∧ V ≤ 1099511627776) := Lib.hid ⟨hver, hV1, hV2⟩
  have Hbd := Lib.hid hbd
  have Hfit := Lib.hid hfit
  clear hv hc0 hcf hR g hver hV1 hV2 hbd hfit
  cases g1 : decide (n < 0)
  ·
   cases g2 : decide ((l.recs.length : Int) < n)
   ·
    cases g3 : (n == (l.recs.length : Int))
    ·
     cases g4 : (l.ver == 1099511627776)
     ·
      have e1 := of_decide_eq_false g1
      have e2 := of_decide_eq_false g2
      have e3 : n ≠ l.recs.length := by simpa using g3
      obtain ⟨q, rfl⟩ : ∃ q : Nat, n = q := ⟨n.toNat, by omega⟩
      have hq : q < l.recs.length := by omega
      have HRR : Hid (R = finL l (l.recs.take q) (nextL l (sizeL (l.recs.take q)))) := Lib.hid (by rw [Hcf.out (by omega) e3, if_neg (ver_lt Hver.out g4)]; rfl)
      obtain ⟨b, off, rfl, -⟩ := hst 0 (by omega)
      have hq1 : ¬ l.recs.length < q := by omega
      have hq2 : ¬ q = l.recs.length := by omega
      clear g1 g2 g3 e1 e2 e3
      obtain ⟨F, er, hF⟩ : ∃ F er, finL l (l.recs.take q) (nextL l (sizeL (l.recs.take q))) = (F, er) := ⟨_, _, rfl⟩
      rw [hF] at HRR
      have HF := Lib.hid hF
      obtain ⟨sz, hsz⟩ : ∃ sz, sizeL (l.recs.take q) = sz := ⟨_, rfl⟩
      have hszb : sz ≤ 1024000 := by have := sizeL_take l.recs q; have := Hbd.out.1; omega
      have Hszb := Lib.hid hszb
      have Hsz := Lib.hid hsz
      have hstT : StrsAt (· < w.heap.size) w (some ⟨b, off, none⟩) (l.recs.take q) := by
       intro j hj
       have hj' : j < q ∧ j < l.recs.length := by rw [List.length_take] at hj; omega
       obtain ⟨b', o', e, h1, h2⟩ := hst j hj'.2
       exact ⟨b', o', e, by rw [h1]; simp, h2⟩
      have HstT := Lib.hid hstT
      have Hst := Lib.hid hst
      have Hsl := Lib.hid hsl
      have Hl0 := Lib.hid hL0
      have HlT : Hid ((l.recs.take q).length = q) := Lib.hid (by rw [List.length_take]; omega)
      have hqc : q ≤ rc := by rcases hsl with ⟨h, _⟩ | ⟨_, _, h, _⟩; cases h; omega
      have hqc' : ¬ rc < q := by omega
      have hqi : (q : Int) ≤ (rc : Int) := by omega
      clear hF hsz hszb hstT hst hsl hD
      go_enter Tryz.func11, Tryz.ntmps11
      go_wp2_with fail
      refine Hv.out.mono ?_
      rintro e w1 ⟨rfl, hb1⟩
      have s1 := s0.next hb1
      clear c0 l0 hW0 hb1
      have c0 := s1.box.cell
      have l0 := s1.box.lt
      have cQ := Lat.cells w1
      have hBw : ∀ x : Lat w1, Below w.heap.size w x.w := fun x => btr s1.below x.h
      have HBw := Lib.hid hBw
      clear hBw
      obtain ⟨io, hio, hzo, hso, hbyo⟩ := info_parts infoStrg
      have Hio : Hid (Tryz.prog.info? 9 = some io ∧ io.zero = some (.string .empty) ∧ io.size = 1 ∧ io.bytes = 16) := Lib.hid ⟨hio, hzo, hso, hbyo⟩
      clear hio hzo hso hbyo
      go_wp2
      refine wp_region_lz 10 2 #[true, true, true, true, true, true, true, true, true, true, false, false] (fun i => if i = 1 then some ⟨fun r => .slice (some ⟨r.lo, 0, none⟩) 0 0, fun r W => Bx W r.lo #[] 9⟩ else if i = 6 then some (annSl (l.recs.take q)) else if i = 7 then some (annLE F er) else none) (by kernel_rfl) (by rfl) (by rfl) (by kernel_rfl) ?_
      simp only [List.take_succ_cons, List.take_zero]
      refine LW.block 1 1 (by rfl) (by kernel_rfl) (by kernel_rfl) ?_
      simp only [List.take_succ_cons, List.take_zero, List.drop_succ_cons, List.drop_zero]
      repeat (first | go_big_quiet_skip | (go_big_quiet_want; go_big_quiet_op; go_big_quiet_on))
      refine wpQuiet_nil ?_
      refine LW.lzy _ (by rfl) (by rfl) ?_ ?_
      ·
       intro yL _
       unfold lzAt
       go_simp
       exact ⟨Below.one _ _, fun _ => undef, rfl, fun w'' hb => (Bx.new yL.w _ _).belowAll hb⟩
      intro r1
      simp only [Act.put, List.setIfInBounds_toArray, List.set_cons_zero, List.set_cons_succ]
      refine LW.block 4 6 (by rfl) (by kernel_rfl) (by kernel_rfl) ?_
      simp only [List.take_succ_cons, List.take_zero, List.drop_succ_cons, List.drop_zero]
      repeat (first | go_big_quiet_skip | (go_big_quiet_want; go_big_quiet_op; go_big_quiet_on))
      refine wpQuiet_nil ?_
      refine LW.lzy _ (by rfl) (by rfl) ?_ ?_
      ·
       intro yL hf
       have h1 : Bx yL.w r1.lo #[] 9 := (hf 1 (by decide +kernel)).get (by rfl) (by rfl)
       obtain ⟨v', w', hr, hown, hbw⟩ := run_append_emptyS (P := Tryz.prog) yL.w 22 22 9 io (.string .empty) Tryz.underlying22 Hio.out.1 Hio.out.2.1 (by rw [Hio.out.2.2.1]; rfl) r1.lo (base := 0) (Nat.zero_le _) h1.lt h1 ⟨b, off, none⟩ q rc ((l.recs.take q).map .string) (by rw [Hio.out.2.2.1, List.length_map, HlT.out, Nat.mul_one]) (((HstT.out.below (HBw.out yL)).row).src _ rfl) (by have := Hbd.out.2; unfold maxLen; omega) (by rw [Hio.out.2.2.2]; have := Hbd.out.2; omega)
       rw [Hio.out.2.2.1] at hown
       refine lz_appS (.tmp 31) (.tmp 35) 22 rfl (vs := .slice (some ⟨r1.lo, 0, none⟩) 0 0) (vx := .slice (some ⟨b, off, none⟩) q rc) rfl rfl hr ?_
       have hS : SlR (· < w'.heap.size) w' v' (l.recs.take q) := SlR.owns (base := 0) (by rw [HlT.out]; exact hown)
       exact ⟨hbw, fun _ => v', rfl, fun w'' hb => hS.belowAll hb⟩
      intro r6
      simp only [Act.put, List.setIfInBounds_toArray, List.set_cons_zero, List.set_cons_succ]
      refine LW.lzy _ (by rfl) (by rfl) ?_ ?_
      ·
       intro yL hf
       have h6 : SlR (· < yL.w.heap.size) yL.w (r6.x 0) (l.recs.take q) := (hf 6 (by decide +kernel)).get (by rfl) (by rfl)
       obtain ⟨o5, c5, e5, hs5, ht5⟩ := h6
       have e5' : (annSl (l.recs.take q)).f r6 = .slice o5 (l.recs.take q).length c5 := e5
       rw [e5']
       unfold lzAt
       go_simp
       rw [show min q l.recs.length = (l.recs.take q).length from List.length_take.symm]
       have hF := rf_finish l _ (l.recs.take q) o5 c5 V yL.w (Hl0.out.below (HBw.out _)) hs5 ht5 Hver.out.1 Hver.out.2.2 (by have := area_bd Hfit.out; omega) (by have := area_bd Hfit.out; omega) (by have := fitE_zero Hfit.out; omega) (by have := fitE_zero Hfit.out; have := rangedB_true (chk_zero this.1).1; omega) hc (by rw [Hsz.out]; have := Hszb.out; omega) (by rw [HlT.out]; have := Hbd.out.2; omega)
       have HF' := HF.out
       rw [HF'] at hF
       exact lz_le hF
      intro r7
      simp only [Act.put, List.setIfInBounds_toArray, List.set_cons_zero, List.set_cons_succ, annLE]
      refine LW.block 2 10 (by rfl) (by kernel_rfl) (by kernel_rfl) ?_
      simp only [List.take_succ_cons, List.take_zero, List.drop_succ_cons, List.drop_zero]
      repeat (first | go_big_quiet_skip | (go_big_quiet_want; go_big_quiet_op; go_big_quiet_on))
      refine wpQuiet_nil ?_
      refine LW.done ?_
      intro w2 hG
      have hR : LgV w2 (r7.x 0) F := hG.get 7 rfl rfl
      have hG2 := hG.below
      have hR' := hR
      obtain ⟨po2, pc2, co2, cc2, ro2, rc2, e13, _, _, _⟩ := hR
      rw [e13] at hR' ⊢
      have s2 := s1.next hG2
      clear hG c0 l0
      obtain ⟨Wf, hWf⟩ : ∃ Wf, st8 w2 (N + 1) (.int .i64 F.disk.size) (.slice po2 F.disk.pages.length pc2) (.slice co2 F.disk.cache.length cc2) (.int .i64 F.disk.left) (.int .i64 F.frm) (.int .i64 F.til) (.int .i64 F.ver) (.slice ro2 F.recs.length rc2) = Wf := ⟨_, rfl⟩
      obtain ⟨zR, zB, zL⟩ := s2.out hN hR' hWf
      have cX := s2.res.cell
      have lX := s2.res.lt
      have fX := s2.res.free
      have ZB := Lib.hid zB
      have ZL := Lib.hid zL
      have HWf := Lib.hid hWf
      clear zB zL hWf hR' hG2
      refine wpAny_ready (rs := [10]) (by kernel_rfl) (by simp) ?_
      refine AllReady.cons rfl (fun K hK => ?_) AllReady.nil
      go_simp
      refine hK _ _ ?_
      clear hK K
      refine wpAny_ready (rs := [11]) (by kernel_rfl) (by simp) ?_
      refine AllReady.cons rfl (fun K hK => ?_) AllReady.nil
      go_simp
      refine hK _ _ ?_
      clear hK K
      refine wpAny_done (by kernel_rfl) ?_ _
      go_wp2
      have HW := HWf.out
      unfold st8 at HW
      rw [HW]
      have cZ := zR.cell
      refine bodyPost_ret (v := .tuple #[.agg (lgC F.disk po2 co2 pc2 cc2 F.frm F.til F.ver ro2 F.recs.length rc2), .int .i64 er]) (by simp [results, Tryz.results11, go_sem, cZ]) rfl ?_
      rw [HRR.out]
      exact ⟨_, rfl, ZL.out, ZB.out⟩
     ·
      have HRR : Hid (R = (zeroL, 17)) := Lib.hid (by
       have e1 := of_decide_eq_false g1
       have e2 := of_decide_eq_false g2
       have e3 : n ≠ l.recs.length := by simpa using g3
       rw [Hcf.out (by omega) e3, if_pos (ver_ge g4)])
      obtain ⟨er0, her⟩ : ∃ er : Int, er = 17 := ⟨17, rfl⟩
      have Her := Lib.hid her
      rw [← her] at HRR
      clear her
      go_enter Tryz.func11, Tryz.ntmps11
      go_wp2_with fail
      refine Hv.out.mono ?_
      rintro e w1 ⟨rfl, hb1⟩
      have s1 := s0.next hb1
      clear c0 l0 hW0 hb1
      have c0 := s1.box.cell
      have l0 := s1.box.lt
      obtain ⟨Wf, hWf⟩ : ∃ Wf, st8 w1 (N + 1) (.int .i64 0) (.slice none 0 0) (.slice none 0 0) (.int .i64 0) (.int .i64 0) (.int .i64 0) (.int .i64 0) (.slice none 0 0) = Wf := ⟨_, rfl⟩
      obtain ⟨zR, zB⟩ := s1.outZ hN hWf
      have cX := s1.res.cell
      have lX := s1.res.lt
      have fX := s1.res.free
      have ZB := Lib.hid zB
      have HWf := Lib.hid hWf
      clear zB hWf
      go_wp2
      have HW := HWf.out
      unfold st8 at HW
      rw [HW]
      have cZ := zR.cell
      refine bodyPost_ret (v := .tuple #[.agg lgZ, .int .i64 er0]) (by simp [results, Tryz.results11, go_sem, cZ, Her.out]) rfl ?_
      rw [HRR.out]
      exact ⟨_, rfl, LgV.zero _, ZB.out⟩
    ·
     have HRR : Hid (R = (l, 0)) := Lib.hid (by
      have e1 := of_decide_eq_false g1
      have e2 := of_decide_eq_false g2
      have e3 : n = l.recs.length := by simpa using g3
      rw [Hc0.out, if_neg (by omega), if_pos e3])
     go_enter Tryz.func11, Tryz.ntmps11
     go_wp2_with fail
     refine Hv.out.mono ?_
     rintro e w1 ⟨rfl, hb1⟩
     have s1 := s0.next hb1
     clear c0 l0 hW0 hb1
     have c0 := s1.box.cell
     have l0 := s1.box.lt
     obtain ⟨Wf, hWf⟩ : ∃ Wf, st8 w1 (N + 1) (.int .i64 l.disk.size) (.slice po l.disk.pages.length pc) (.slice co l.disk.cache.length cc) (.int .i64 l.disk.left) (.int .i64 l.frm) (.int .i64 l.til) (.int .i64 l.ver) (.slice ro l.recs.length rc) = Wf := ⟨_, rfl⟩
     obtain ⟨zR, zB, zL⟩ := s1.out hN s1.val hWf
     have cX := s1.res.cell
     have lX := s1.res.lt
     have fX := s1.res.free
     have ZB := Lib.hid zB
     have ZL := Lib.hid zL
     have HWf := Lib.hid hWf
     clear zB zL hWf
     go_wp2
     have HW := HWf.out
     unfold st8 at HW
     rw [HW]
     have cZ := zR.cell
     refine bodyPost_ret (v := .tuple #[.agg (lgC l.disk po co pc cc l.frm l.til l.ver ro l.recs.length rc), .int .i64 0]) (by simp [results, Tryz.results11, go_sem, cZ]) rfl ?_
     rw [HRR.out]
     exact ⟨_, rfl, ZL.out, ZB.out⟩
   ·
    obtain ⟨er0, her⟩ : ∃ er : Int, er = 2 := ⟨2, rfl⟩
    have Her := Lib.hid her
    have HRR : Hid (R = (zeroL, er0)) := Lib.hid (by rw [Hc0.out, if_pos (.inr (of_decide_eq_true g2)), her])
    clear her
    go_enter Tryz.func11, Tryz.ntmps11
    go_wp2_with fail
    refine Hv.out.mono ?_
    rintro e w1 ⟨rfl, hb1⟩
    have s1 := s0.next hb1
    clear c0 l0 hW0 hb1
    have c0 := s1.box.cell
    have l0 := s1.box.lt
    obtain ⟨Wf, hWf⟩ : ∃ Wf, st8 w1 (N + 1) (.int .i64 0) (.slice none 0 0) (.slice none 0 0) (.int .i64 0) (.int .i64 0) (.int .i64 0) (.int .i64 0) (.slice none 0 0) = Wf := ⟨_, rfl⟩
    obtain ⟨zR, zB⟩ := s1.outZ hN hWf
    have cX := s1.res.cell
    have lX := s1.res.lt
    have fX := s1.res.free
    have ZB := Lib.hid zB
    have HWf := Lib.hid hWf
    clear zB hWf
    go_wp2
    have HW := HWf.out
    unfold st8 at HW
    rw [HW]
    have cZ := zR.cell
    refine bodyPost_ret (v := .tuple #[.agg lgZ, .int .i64 er0]) (by simp [results, Tryz.results11, go_sem, cZ, Her.out]) rfl ?_
    rw [HRR.out]
    exact ⟨_, rfl, LgV.zero _, ZB.out⟩
  ·
   obtain ⟨er0, her⟩ : ∃ er : Int, er = 2 := ⟨2, rfl⟩
   have Her := Lib.hid her
   have HRR : Hid (R = (zeroL, er0)) := Lib.hid (by rw [Hc0.out, if_pos (.inl (of_decide_eq_true g1)), her])
   clear her
   go_enter Tryz.func11, Tryz.ntmps11
   go_wp2_with fail
   refine Hv.out.mono ?_
   rintro e w1 ⟨rfl, hb1⟩
   have s1 := s0.next hb1
   clear c0 l0 hW0 hb1
   have c0 := s1.box.cell
   have l0 := s1.box.lt
   obtain ⟨Wf, hWf⟩ : ∃ Wf, st8 w1 (N + 1) (.int .i64 0) (.slice none 0 0) (.slice none 0 0) (.int .i64 0) (.int .i64 0) (.int .i64 0) (.int .i64 0) (.slice none 0 0) = Wf := ⟨_, rfl⟩
   obtain ⟨zR, zB⟩ := s1.outZ hN hWf
   have cX := s1.res.cell
   have lX := s1.res.lt
   have fX := s1.res.free
   have ZB := Lib.hid zB
   have HWf := Lib.hid hWf
   clear zB hWf
   go_wp2
   have HW := HWf.out
   unfold st8 at HW
   rw [HW]
   have cZ := zR.cell
   refine bodyPost_ret (v := .tuple #[.agg lgZ, .int .i64 er0]) (by simp [results, Tryz.results11, go_sem, cZ, Her.out]) rfl ?_
   rw [HRR.out]
   exact ⟨_, rfl, LgV.zero _, ZB.out⟩
end Go.Proofs.YtghikgjknhjjgaaGreatDoor
