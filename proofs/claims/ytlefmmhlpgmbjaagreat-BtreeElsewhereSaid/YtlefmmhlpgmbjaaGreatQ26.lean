/- law 42's 'awake': it returns true. law42.Do: an act done with an index. law42.begin: the index at the beginning of a run. -/
import Derived.Test.YtlefmmhlpgmbjaaGreatQ25
import Derived.Test.YtlefmmhlpgmbjaaGreatQ23
import Derived.Test.YtlefmmhlpgmbjaaGreatQ24
import Derived.Test.YtlefmmhlpgmbjaaGreatQ02
import Derived.Test.YtlefmmhlpgmbjaaGreatQ03
import Derived.Test.YtlefmmhlpgmbjaaGreatQ01
namespace Go.Proofs.YtlefmmhlpgmbjaaGreat
set_option maxRecDepth 100000
open Go.RowKit Go.Shelf
theorem rv_new (p s : Int) (w : World) {d : Dsk} {er : Int} (h : newD p s = (d, er)) : Calls Tryz.prog 28 #[.int .i64 p, .int .i64 s] w (RetVE w d er) := by
 refine (disk_new (S := (· < w.heap.size)) p s w).mono ?_
 rintro e w' ⟨v', rfl, h1, hb⟩
 rw [h] at h1 |-
 exact ⟨v', rfl, .of h1 (gr_all hb), hb⟩
set_option maxHeartbeats 800000 in
theorem rn_add (k : ByteArray) (w : World) : Calls Tryz.prog 42 #[.string k] w fun e w' => e = .returned (.agg #[.string k, .bool false, .bool true, .string ByteArray.empty, .string ByteArray.empty]) /\ Below w.heap.size w w' := by
 go_enter Tryz.func42, Tryz.ntmps42
 go_wp2
 refine bodyPost_ret (v := .agg #[.string k, .bool false, .bool true, .string ByteArray.empty, .string ByteArray.empty]) (by simp [results, Tryz.results42, go_sem]; rfl) rfl ?_
 exact ⟨rfl, Below.one _ _⟩
def annXE (x : Ix) (er : Int) : Ann := ⟨fun r => .tuple #[r.x 0, .int .i64 er], fun r W => IxT W (r.x 0) x⟩
theorem lz_xe {f : FuncId} {args : Array Value} {r : Ix × Int} {W : World} (h : Calls Tryz.prog f args W (RetXV W r)) : Calls Tryz.prog f args W fun e w' => ∃ u, e = .returned u /\ lzPost (annXE r.1 r.2) W u w' := by
 refine h.mono ?_
 rintro e w' ⟨v, rfl, hv, hb⟩
 exact ⟨_, rfl, hb, fun _ => v, rfl, fun w'' hb' => hv.below hb'⟩
set_option maxRecDepth 100000 in
set_option maxHeartbeats 4000000 in
theorem law42_awake (w : World) : Calls Tryz.prog 13 #[] w fun e w' => e = .returned (.bool true) /\ Below w.heap.size w w' := by
 obtain ⟨d0, d1, x1, x2, x3, k1, k2, k3, k4, k5, k6, k7, k8, k9, k10, k11, k12, k13, k14⟩ := aw_key42
 have hnew := rv_new 10 512 w k1
 have Hk2 := zhI k2
 have Hk3 := zhI k3
 have Hk4 := zhI k4
 have Hk5 := zhI k5
 have Hk6 := zhI k6
 have Hk7 := zhI k7
 have Hk8 := zhI k8
 have Hk9 := zhI k9
 have Hk10 := zhI k10
 have Hk11 := zhI k11
 have Hk12 := zhI k12
 have Hk13 := zhI k13
 have Hk14 := zhI k14
 clear k1 k2 k3 k4 k5 k6 k7 k8 k9 k10 k11 k12 k13 k14
 go_enter Tryz.func13, Tryz.ntmps13
 go_wp2_with fail
 refine hnew.mono ?_
 rintro e w1 ⟨v1, rfl, hM1, hb1⟩
 have hM := hM1
 obtain ⟨po1, pc1, co1, cc1, rfl⟩ := hM1.agg
 have x1b := Bx.new w1 (dC d0 po1 co1 pc1 cc1) 25
 have hBo := Below.one w1 (.cells (dC d0 po1 co1 pc1 cc1) 25)
 have hV1 := hM.below hBo
 have hB1 := btr hb1 hBo
 obtain ⟨b1, hb1e⟩ : ∃ b1, w1.heap.size = b1 := ⟨_, rfl⟩
 have hwb : w.heap.size <= b1 := by have := hb1.size; omega
 obtain ⟨W1, hW1⟩ : ∃ W1, w1.alloc (.cells (dC d0 po1 co1 pc1 cc1) 25) = W1 := ⟨_, rfl⟩
 rw [hW1, hb1e] at x1b
 rw [hW1] at hV1 hB1
 have hfm := bt_Format d0 _ 0 10 W1 hV1 (by rw [Hk11.out]; simp)
 rw [Hk2.out] at hfm
 clear hnew hBo hM hM1 hb1 hV1
 have cA := x1b.cell
 have lA := x1b.lt
 go_wp2_with fail
 refine hfm.mono ?_
 rintro e w2 ⟨v2, rfl, hM2, hb2⟩
 have hM := hM2
 obtain ⟨po2, pc2, co2, cc2, rfl⟩ := hM2.agg
 have x2b := x1b.belowAll hb2
 have hB2 := btr hB1 hb2
 clear cA lA x1b hB1 hW1 hfm hM2 hb2
 have cA := x2b.cell
 have lA := x2b.lt
 have fA := x2b.free
 obtain ⟨w3, hw3⟩ : ∃ w3, st4 w2 b1 (.int .i64 d1.size) (.slice po2 d1.pages.length pc2) (.slice co2 d1.cache.length cc2) (.int .i64 d1.left) = w3 := ⟨_, rfl⟩
 have x3b : Bx w3 b1 (dC d1 po2 co2 pc2 cc2) 25 := by subst hw3; exact x2b.st4
 have hB3 : Below w.heap.size w w3 := by subst hw3; exact below_st4 hB2 hwb
 have hV3 : DskV w3 (.agg (dC d1 po2 co2 pc2 cc2)) d1 := by subst hw3; exact hM.only x2b (noS_dC _ _ _ _ _) only_st4
 have hop := bt_Open d1 _ 0 10 w3 hV3
 rw [Hk3.out] at hop
 have Hw3 := zhI hw3
 have Hop := zhI hop
 clear hw3 hM hV3 hB2 hop x3b
 go_wp2_with fail
 have HW := Hw3.out
 unfold st4 at HW
 rw [HW]
 refine Hop.out.mono ?_
 rintro e w4 ⟨v4, rfl, hL4, hb4⟩
 have hL := hL4
 obtain ⟨po4, pc4, co4, cc4, fo4, fc4, rfl, _, _, _⟩ := hL4
 have hB4 := btr hB3 hb4
 clear HW Hw3 cA lA fA x2b hB3 hb4
 have x4 := Bx.new w4 (ixC x1.disk po4 co4 pc4 cc4 x1.frm x1.til x1.ver x1.root fo4 x1.free.length fc4) 33
 have hBo := Below.one w4 (.cells (ixC x1.disk po4 co4 pc4 cc4 x1.frm x1.til x1.ver x1.root fo4 x1.free.length fc4) 33)
 obtain ⟨b4, hb4e⟩ : ∃ b4, w4.heap.size = b4 := ⟨_, rfl⟩
 have hwb4 : w.heap.size <= b4 := by have := hB4.size; omega
 obtain ⟨W4, hW4⟩ : ∃ W4, w4.alloc (.cells (ixC x1.disk po4 co4 pc4 cc4 x1.frm x1.til x1.ver x1.root fo4 x1.free.length fc4) 33) = W4 := ⟨_, rfl⟩
 rw [hW4, hb4e] at x4
 rw [hW4] at hBo
 have hB5 := btr hB4 hBo
 have hL5 := hL.below hBo
 go_upto_region 5 with fail
 clear hL hBo hB4 hW4 Hop
 have Hc1 : Hid (∀ W v, Below W4.heap.size W4 W -> ∀ o, ChgsAt W o awC1 -> SlW o 4 4 -> v = .agg (ixC x1.disk po4 co4 pc4 cc4 x1.frm x1.til x1.ver x1.root fo4 x1.free.length fc4) -> Calls Tryz.prog 36 #[v, .slice o 4 4] W (RetXV W (x2, 0))) := zhI (by
  rintro W v hb o ho hs rfl
  have := bt_Commit x1 _ awC1 o 4 W (hL5.below hb) hs (by decide) ho (by rw [Hk12.out]; simp)
  rw [Hk4.out] at this
  exact this)
 have cA := x4.cell
 have lA := x4.lt
 have cQ := Lat.cells W4
 have HBw : Hid (∀ y : Lat W4, Below W4.heap.size W4 y.w) := zhI (fun y => y.h)
 refine wp_region_late 14 13 2 #[true, true, true, true, true, true, true, true, true, true, true, true, true, false, false, false] #[true, true, true, true, true, true, true, true, true, true, true, true, true, true, false, false] (fun i => if i = 2 then some (annK (.agg #[.string kA, .bool false, .bool true, .string ByteArray.empty, .string ByteArray.empty])) else if i = 4 then some (annK (.agg #[.string kB, .bool false, .bool true, .string ByteArray.empty, .string ByteArray.empty])) else if i = 6 then some (annK (.agg #[.string kC, .bool false, .bool true, .string ByteArray.empty, .string ByteArray.empty])) else if i = 8 then some (annK (.agg #[.string kD, .bool false, .bool true, .string ByteArray.empty, .string ByteArray.empty])) else if i = 9 then some (annRow 4 (chgsC awC1) 71) else if i = 10 then some (annXE x2 0) else none) _ (by kernel_rfl) rfl (by rfl) (by rfl) (by kernel_rfl) (by rfl) rfl (fun _ _ _ _ h => h) (extract_pure _ _ rfl) ?_
 simp only [List.take_succ_cons, List.take_zero]
 refine LW.block 2 2 (by rfl) (by kernel_rfl) (by kernel_rfl) ?_
 simp only [ztP]
 repeat (first | go_big_quiet_skip | (go_big_quiet_want; go_big_quiet_op; go_big_quiet_on))
 refine wpQuiet_nil ?_
 refine LW.lzy _ (by rfl) (by rfl) ?_ ?_
 .
  intro yL _
  unfold lzAt
  go_simp
  exact lz_constB (rn_add _ _)
 intro _
 simp only [Act.put, zsP]
 (try simp only [annK])
 refine LW.block 1 4 (by rfl) (by kernel_rfl) (by kernel_rfl) ?_
 simp only [ztP]
 repeat (first | go_big_quiet_skip | (go_big_quiet_want; go_big_quiet_op; go_big_quiet_on))
 refine wpQuiet_nil ?_
 refine LW.lzy _ (by rfl) (by rfl) ?_ ?_
 .
  intro yL _
  unfold lzAt
  go_simp
  exact lz_constB (rn_add _ _)
 intro _
 simp only [Act.put, zsP]
 (try simp only [annK])
 refine LW.block 1 6 (by rfl) (by kernel_rfl) (by kernel_rfl) ?_
 simp only [ztP]
 repeat (first | go_big_quiet_skip | (go_big_quiet_want; go_big_quiet_op; go_big_quiet_on))
 refine wpQuiet_nil ?_
 refine LW.lzy _ (by rfl) (by rfl) ?_ ?_
 .
  intro yL _
  unfold lzAt
  go_simp
  exact lz_constB (rn_add _ _)
 intro _
 simp only [Act.put, zsP]
 (try simp only [annK])
 refine LW.block 1 8 (by rfl) (by kernel_rfl) (by kernel_rfl) ?_
 simp only [ztP]
 repeat (first | go_big_quiet_skip | (go_big_quiet_want; go_big_quiet_op; go_big_quiet_on))
 refine wpQuiet_nil ?_
 refine LW.lzy _ (by rfl) (by rfl) ?_ ?_
 .
  intro yL _
  unfold lzAt
  go_simp
  exact lz_constB (rn_add _ _)
 intro _
 simp only [Act.put, zsP]
 (try simp only [annK])
 refine LW.lzy _ (by rfl) (by rfl) ?_ ?_
 .
  intro yL hf
  unfold lzAt
  go_simp
  exact ⟨Below.one _ _, fun _ => undef, rfl, fun w'' hb => (Bx.new yL.w _ _).belowAll hb⟩
 intro r9
 simp only [Act.put, zsP]
 refine LW.lzy _ (by rfl) (by rfl) ?_ ?_
 .
  intro yL hf
  have h9 : Bx yL.w r9.lo (chgsC awC1).toArray 71 := (hf 9 (by decide +kernel)).get (by rfl) (by rfl)
  unfold lzAt
  simp only [annRow]
  go_simp
  have ho : ChgsAt yL.w (some ⟨r9.lo, 0, none⟩) awC1 := (RowAt.bx h9).mono fun b hb => by subst hb; exact h9.lt
  exact lz_xe (Hc1.out yL.w _ (HBw.out _) _ ho (.inr ⟨_, rfl, by decide, by unfold maxLen; decide⟩) rfl)
 intro r10
 simp only [Act.put, zsP, annXE]
 refine LW.block 3 14 (by rfl) (by kernel_rfl) (by kernel_rfl) ?_
 simp only [ztP]
 repeat (first | go_big_quiet_skip | (go_big_quiet_want; go_big_quiet_op; go_big_quiet_on))
 refine wpQuiet_nil ?_
 refine LW.done ?_
 intro w5 hG
 have hR : IxT w5 (r10.x 0) x2 := hG.get 10 rfl rfl
 have hb5 := hG.below
 have hR0 := hR
 obtain ⟨po5, pc5, co5, cc5, fo5, fc5, e5, -, -, -⟩ := hR
 rw [e5] at hR0 |-
 have x5 := x4.belowAll hb5
 have hB6 := btr hB5 hb5
 obtain ⟨w6, hw6⟩ : ∃ w6, st9 w5 b4 (.int .i64 x2.disk.size) (.slice po5 x2.disk.pages.length pc5) (.slice co5 x2.disk.cache.length cc5) (.int .i64 x2.disk.left) (.int .i64 x2.frm) (.int .i64 x2.til) (.int .i64 x2.ver) (.int .i64 x2.root) (.slice fo5 x2.free.length fc5) = w6 := ⟨_, rfl⟩
 have x6 : Bx w6 b4 (ixC x2.disk po5 co5 pc5 cc5 x2.frm x2.til x2.ver x2.root fo5 x2.free.length fc5) 33 := by subst hw6; exact x5.set9
 have hB7 : Below w.heap.size w w6 := by subst hw6; exact below_set9 hB6 hwb4
 have hX6 : IxT w6 (.agg (ixC x2.disk po5 co5 pc5 cc5 x2.frm x2.til x2.ver x2.root fo5 x2.free.length fc5)) x2 := by subst hw6; exact hR0.only x5 (noS9 _ _ _ _ _ _ _ _ _ _ _ _ _ _ _) (by decide) Only.nine
 have cB := x5.cell
 have lB := x5.lt
 have fB := x5.free
 unfold ixC at cB
 clear hG cQ HBw Hc1 cA lA hR0 hL5 hB5 hB6 hb5 x4 x5 e5
 unfold st9 st8 at hw6
 refine wpAny_ready (rs := [14]) (by kernel_rfl) (by simp) ?_
 refine AllReady.cons rfl (fun K hK => ?_) AllReady.nil
 go_simp
 refine hK _ _ ?_
 clear hK K
 refine wpAny_ready (rs := [15]) (by kernel_rfl) (by simp) ?_
 refine AllReady.cons rfl (fun K hK => ?_) AllReady.nil
 go_simp
 refine hK _ _ ?_
 clear hK K
 refine wpAny_done (by kernel_rfl) ?_ _
 (try rw [hw6])
 clear hw6 cB lB fB
 have hbr := Below.one w6 (.cells (chgsC awC2).toArray 71)
 have xr := Bx.new w6 (chgsC awC2).toArray 71
 have x7 := x6.alloc (.cells (chgsC awC2).toArray 71)
 have hB8 := btr hB7 hbr
 have hcm := bt_Commit x2 _ awC2 (some ⟨w6.heap.size, 0, none⟩) 1 _ (hX6.below hbr) (.inr ⟨_, rfl, by decide, by unfold maxLen; decide⟩) (by decide) ((RowAt.bx xr).mono fun b hb => by subst hb; exact xr.lt) (by rw [Hk13.out]; simp)
 rw [Hk6.out] at hcm
 have Hcm := zhI hcm
 have hr4 : (x2.root == 4) = true := by rw [Hk5.out]; rfl
 have cB := x6.cell
 have lB := x6.lt
 unfold ixC at cB
 clear hcm hX6 hbr xr
 go_wp2_with fail
 refine Hcm.out.mono ?_
 rintro e w8 ⟨v8, rfl, hX8, hb8⟩
 have hX := hX8
 obtain ⟨po8, pc8, co8, cc8, fo8, fc8, rfl, -, -, -⟩ := hX8
 have x8 := x7.belowAll hb8
 have hB9 := btr hB8 hb8
 clear cB lB x6 x7 Hcm hb8 hB7 hB8
 obtain ⟨w9, hw9⟩ : ∃ w9, st9 w8 b4 (.int .i64 x3.disk.size) (.slice po8 x3.disk.pages.length pc8) (.slice co8 x3.disk.cache.length cc8) (.int .i64 x3.disk.left) (.int .i64 x3.frm) (.int .i64 x3.til) (.int .i64 x3.ver) (.int .i64 x3.root) (.slice fo8 x3.free.length fc8) = w9 := ⟨_, rfl⟩
 have x9 : Bx w9 b4 (ixC x3.disk po8 co8 pc8 cc8 x3.frm x3.til x3.ver x3.root fo8 x3.free.length fc8) 33 := by subst hw9; exact x8.set9
 have hB10 : Below w.heap.size w w9 := by subst hw9; exact below_set9 hB9 hwb4
 have hX9 : IxT w9 (.agg (ixC x3.disk po8 co8 pc8 cc8 x3.frm x3.til x3.ver x3.root fo8 x3.free.length fc8)) x3 := by subst hw9; exact hX.only x8 (noS9 _ _ _ _ _ _ _ _ _ _ _ _ _ _ _) (by decide) Only.nine
 have hsc := bt_Scan x3 _ kB ByteArray.empty w9 hX9.v Hk14.out
 rw [Hk10.out] at hsc
 have Hsc := zhI hsc
 have cB := x8.cell
 have lB := x8.lt
 have fB := x8.free
 unfold ixC at cB
 have Hw9 := zhI hw9
 clear hw9 hsc hX hX9 hB9
 go_wp2_with fail
 have HW := Hw9.out
 unfold st9 st8 at HW
 rw [HW]
 refine Hsc.out.mono ?_
 rintro e w10 ⟨hb10, v10, rfl, hP10⟩
 obtain ⟨qo, qc, rfl, hqs, hqr⟩ := PairsR.at hP10
 have x10 := x9.belowAll hb10
 have hB11 := btr hB10 hb10
 clear HW Hw9 cB lB fB x8 x9 Hsc hb10 hB10 hP10
 have hr5 : (x3.root == 5) = true := by rw [Hk7.out]; rfl
 have hv3 : (x3.ver == 3) = true := by rw [Hk8.out]; rfl
 have hl7 : ((x3.free.length : Int) == 7) = true := by rw [Hk9.out]; rfl
 have hbr := Below.one w10 (.cells (kvsC [kvE kB, kvE kC]).toArray 77)
 have xr := Bx.new w10 (kvsC [kvE kB, kvE kC]).toArray 77
 have hsp := rb_SamePairs [kvE kB, kvE kC] [kvE kB, kvE kC] qo (some ⟨w10.heap.size, 0, none⟩) qc 2 _ (hqr.below hbr) ((RowAt.bx xr).mono fun b hb => by subst hb; exact xr.lt) (by decide) (by decide)
 rw [show decide ([kvE kB, kvE kC] = [kvE kB, kvE kC]) = true by simp] at hsp
 have Hsp := zhI hsp
 have cB := x10.cell
 have lB := x10.lt
 unfold ixC at cB
 clear hsp hqr xr
 go_wp2_with fail
 refine Hsp.out.mono ?_
 rintro e w11 ⟨rfl, hb11⟩
 go_wp2
 go_ret
 exact ⟨rfl, btr (btr hB11 hbr) hb11⟩
end Go.Proofs.YtlefmmhlpgmbjaaGreat
namespace Go.Proofs.YtlefmmhlpgmbjaaGreat
set_option maxRecDepth 100000
open Go.RowKit
def actX (x : Ix) (a : ActB) (l : List Kv) : Ix × Int :=
 if a.kind = 0 \/ a.kind = 1 then commitP x (chgsOf a l)
 else if a.kind = 2 then (powX x a.left, 0)
 else if a.kind = 3 then openP (crashD x.disk a.picks) x.frm x.til
 else (x, 0)
def doX (x : Ix) (a : ActB) (l : List Kv) : Ix × Int := if (actX x a l).2 ≠ 0 /\ (actX x a l).2 ≠ 18 then (x, (actX x a l).2) else actX x a l
def annDv (d : Dsk) : Ann := ⟨fun r => r.x 0, fun r W => DskV W (r.x 0) d⟩
theorem lz_dv {f : FuncId} {args : Array Value} {d : Dsk} {W : World} (h : Calls Tryz.prog f args W fun e w' => ∃ v, e = .returned v /\ DskV w' v d /\ Below W.heap.size W w') : Calls Tryz.prog f args W fun e w' => ∃ u, e = .returned u /\ lzPost (annDv d) W u w' :=
 h.mono fun _ _ ⟨v, he, ho, hb⟩ => ⟨_, he, hb, fun _ => v, rfl, fun _ hb' => ho.below hb'⟩
def annCh (L : List Chg) : Ann := ⟨fun r => .slice (slO (r.x 0)) L.length (slC (r.x 0)), fun r W => SlW (slO (r.x 0)) L.length (slC (r.x 0)) /\ ChgsAt W (slO (r.x 0)) L⟩
theorem lz_ch {f : FuncId} {args : Array Value} {L : List Chg} {W : World} (h : Calls Tryz.prog f args W fun e w' => ∃ o c, e = .returned (.slice o L.length c) /\ SlW o L.length c /\ ChgsAt w' o L /\ Below W.heap.size W w') : Calls Tryz.prog f args W fun e w' => ∃ u, e = .returned u /\ lzPost (annCh L) W u w' :=
 h.mono fun _ _ ⟨o, c, he, hs, ho, hb⟩ => ⟨_, he, hb, fun _ => .slice o L.length c, rfl, fun _ hb' => ⟨hs, ho.below hb'⟩⟩
theorem lz_xo {f : FuncId} {args : Array Value} {x : Ix} {er : Int} {W : World} (h : Calls Tryz.prog f args W (RetXE W x er)) : Calls Tryz.prog f args W fun e w' => ∃ u, e = .returned u /\ lzPost (annXE x er) W u w' := by
 refine h.mono ?_
 rintro e w' ⟨v, rfl, hv, hb⟩
 exact ⟨_, rfl, hb, fun _ => v, rfl, fun w'' hb' => hv.below hb'⟩
structure DoXS (w : World) (N : Nat) (x F : Ix) (po co fo gp gc gf : Option Addr) (pc cc fc hp hc hf : Nat) (AC : Array Value) (W : World) : Prop where
 box : Bx W N (ixC x.disk po co pc cc x.frm x.til x.ver x.root fo x.free.length fc) 33
 act : Bx W (N + 1) AC 54
 res : Bx W (N + 2) ixZ 33
 nxt : Bx W (N + 3) (ixC F.disk gp gc hp hc F.frm F.til F.ver F.root gf F.free.length hf) 33
 below : Below w.heap.size w W
 val : IxT W (.agg (ixC x.disk po co pc cc x.frm x.til x.ver x.root fo x.free.length fc)) x
 new : IxT W (.agg (ixC F.disk gp gc hp hc F.frm F.til F.ver F.root gf F.free.length hf)) F
section
variable {w : World} {N : Nat} {x F G : Ix} {po co fo gp gc gf gp' gc' gf' : Option Addr} {pc cc fc hp hc hf hp' hc' hf' : Nat} {AC : Array Value} {W Wf : World}
theorem DoXS.next (h : DoXS w N x F po co fo gp gc gf pc cc fc hp hc hf AC W) (hb : Below W.heap.size W Wf) : DoXS w N x F po co fo gp gc gf pc cc fc hp hc hf AC Wf :=
 ⟨h.box.belowAll hb, h.act.belowAll hb, h.res.belowAll hb, h.nxt.belowAll hb, btr h.below hb, h.val.below hb, h.new.below hb⟩
theorem DoXS.put (h : DoXS w N x F po co fo gp gc gf pc cc fc hp hc hf AC W) (hN : w.heap.size = N) (hG : IxT W (.agg (ixC G.disk gp' gc' hp' hc' G.frm G.til G.ver G.root gf' G.free.length hf')) G)
  (hWf : st9 W (N + 3) (.int .i64 G.disk.size) (.slice gp' G.disk.pages.length hp') (.slice gc' G.disk.cache.length hc') (.int .i64 G.disk.left) (.int .i64 G.frm) (.int .i64 G.til) (.int .i64 G.ver) (.int .i64 G.root) (.slice gf' G.free.length hf') = Wf) :
  DoXS w N x G po co fo gp' gc' gf' pc cc fc hp' hc' hf' AC Wf := by
 have ho : Only (N + 3) W Wf := by subst hWf; exact Only.nine
 have hn := noS9 F.disk.size F.disk.left F.frm F.til F.ver F.root gp gc gf F.disk.pages.length F.disk.cache.length F.free.length hp hc hf
 exact ⟨h.box.only ho (by omega), h.act.only ho (by omega), h.res.only ho (by omega), by subst hWf; exact h.nxt.set9, by subst hWf; exact below_set9 h.below (by omega), h.val.only h.nxt hn (by decide) ho, hG.only h.nxt hn (by decide) ho⟩
end
set_option maxRecDepth 100000 in
set_option maxHeartbeats 4000000 in
theorem rn_Do42 (x : Ix) (v : Value) (a : ActB) (ao bo do_ qo : Option Addr) (ac bc dc qc : Nat) (l : List Kv) (lo : Option Addr) (lc : Nat) (w : World) (hX : IxT w v x) (hA : ActBOk w a ao bo do_ qo ac bc dc qc) (hf : fitsA a = true) (hl : KvsAt w lo l) (hls : SlW lo l.length lc) (hc : x.disk.cache.length <= 900000) :
  Calls Tryz.prog 30 #[v, .agg (actBC a ao bo do_ qo ac bc dc qc), .slice lo l.length lc] w (RetXV w (doX x a l)) := by
 obtain ⟨R, hR⟩ : ∃ R, doX x a l = R := ⟨_, rfl⟩
 rw [hR]
 obtain ⟨AC, hAC⟩ : ∃ AC, AC = actBC a ao bo do_ qo ac bc dc qc := ⟨_, rfl⟩
 have hX0 := hX
 obtain ⟨po, pc, co, cc, fo, fc, rfl, hD, hsl, hst⟩ := hX
 obtain ⟨N, hN⟩ : ∃ N, w.heap.size = N := ⟨_, rfl⟩
 obtain ⟨W3, hW3⟩ : ∃ W3, ((w.alloc (.cells (ixC x.disk po co pc cc x.frm x.til x.ver x.root fo x.free.length fc) 33)).alloc (.cells (actBC a ao bo do_ qo ac bc dc qc) 54)).alloc (.cells ixZ 33) = W3 := ⟨_, rfl⟩
 have x0 : Bx W3 N (ixC x.disk po co pc cc x.frm x.til x.ver x.root fo x.free.length fc) 33 := by subst hW3 hN; exact ((Bx.new w _ _).alloc _).alloc _
 have x1 : Bx W3 (N + 1) (actBC a ao bo do_ qo ac bc dc qc) 54 := by subst hW3 hN; exact (Bx.newAt _ _ _ _ (by simp)).alloc _
 have x2 : Bx W3 (N + 2) ixZ 33 := by subst hW3 hN; exact Bx.newAt _ _ _ _ (by simp)
 have hs3 : W3.heap.size = N + 3 := by subst hW3 hN; simp
 have hB3 : Below w.heap.size w W3 := by subst hW3; exact ((Below.one w _).alloc (by simp) _).alloc (by simp; omega) _
 have c0 := x0.cell
 have l0 := x0.lt
 go_enter Tryz.func30, Tryz.ntmps30
 go_upto_region 2 with fail
 have hBB := Below.one W3 (.cells (ixC x.disk po co pc cc x.frm x.til x.ver x.root fo x.free.length fc) 33)
 have s4 : DoXS w N x x po co fo po co fo pc cc fc pc cc fc (actBC a ao bo do_ qo ac bc dc qc) (W3.alloc (.cells (ixC x.disk po co pc cc x.frm x.til x.ver x.root fo x.free.length fc) 33)) := by
  have hB4 := btr hB3 hBB
  exact ⟨x0.alloc _, x1.alloc _, x2.alloc _, Bx.newAt _ _ _ _ hs3.symm, hB4, hX0.below hB4, hX0.below hB4⟩
 clear c0 l0 x0 x1 x2 hB3 hBB hW3 hs3
 generalize W3.alloc (.cells (ixC x.disk po co pc cc x.frm x.til x.ver x.root fo x.free.length fc) 33) = W4 at *
 have c1 := s4.act.cell
 have l1 := s4.act.lt
 have c0 := s4.box.cell
 have l0 := s4.box.lt
 cases k0 : (a.kind == 0)
 case' false =>
  have nk0 : a.kind ≠ 0 := by simpa using k0
  cases k1 : (a.kind == 1)
  case' false =>
   have nk1 : a.kind ≠ 1 := by simpa using k1
   cases k2 : (a.kind == 2)
   case' false =>
    have nk2 : a.kind ≠ 2 := by simpa using k2
    cases k3 : (a.kind == 3)
    case' false =>
     have nk3 : a.kind ≠ 3 := by simpa using k3
     obtain ⟨F, gp, gc, gf, hp, hc', hf', h1, h2, h3, h4, h5, h6, h7⟩ : ∃ F gp gc gf hp hc' hf', F = x /\ gp = po /\ gc = co /\ gf = fo /\ hp = pc /\ hc' = cc /\ hf' = fc := ⟨_, _, _, _, _, _, _, rfl, rfl, rfl, rfl, rfl, rfl, rfl⟩
     have hR0 : actX x a l = (F, 0) := by rw [h1]; unfold actX; rw [if_neg (by omega), if_neg nk2, if_neg nk3]
     have s6 : DoXS w N x F po co fo gp gc gf pc cc fc hp hc' hf' (actBC a ao bo do_ qo ac bc dc qc) W4 := by rw [h1, h2, h3, h4, h5, h6, h7]; exact s4
     clear h1 h2 h3 h4 h5 h6 h7
     clear c0 l0
     go_upto_region 10 with fail
     obtain ⟨W6, hW6⟩ : ∃ W6, W6 = W4 := ⟨_, rfl⟩
     rw [<- hW6] at s6 |-
     clear c1 l1 hW6
     have z0 := s6.box
     have z2 := s6.res
     have z3 := s6.nxt
     have c0 := z0.cell
     have l0 := z0.lt
     have c2 := z2.cell
     have l2 := z2.lt
     have f2 := z2.free
     have c3 := z3.cell
     have l3 := z3.lt
     unfold ixC at c0 c3
     unfold ixZ at c2
     obtain ⟨G, hGF⟩ : ∃ G, G = F := ⟨_, rfl⟩
     have hRf : R = (G, 0) := by rw [<- hR, hGF]; unfold doX; rw [hR0, if_neg (fun h => h.1 rfl)]
     have hG := s6.new
     obtain ⟨Wf, hWf⟩ : ∃ Wf, st9 W6 (N + 2) (.int .i64 F.disk.size) (.slice gp F.disk.pages.length hp) (.slice gc F.disk.cache.length hc') (.int .i64 F.disk.left) (.int .i64 F.frm) (.int .i64 F.til) (.int .i64 F.ver) (.int .i64 F.root) (.slice gf F.free.length hf') = Wf := ⟨_, rfl⟩
     rw [<- hGF] at hG hWf c3
     obtain ⟨g1, g2, g3, n1, n2, n3, hg1, hg2, hg3, hn1, hn2, hn3⟩ : ∃ g1 g2 g3 n1 n2 n3, g1 = gp /\ g2 = gc /\ g3 = gf /\ n1 = hp /\ n2 = hc' /\ n3 = hf' := ⟨_, _, _, _, _, _, rfl, rfl, rfl, rfl, rfl, rfl⟩
     rw [<- hg1, <- hg2, <- hg3, <- hn1, <- hn2, <- hn3] at hG hWf c3
     clear hg1 hg2 hg3 hn1 hn2 hn3 hGF
     clear hR hR0 s4 hA hl hls hX0 hD hsl hst
     have zR : Bx Wf (N + 2) (ixC G.disk g1 g2 n1 n2 G.frm G.til G.ver G.root g3 G.free.length n3) 33 := by subst hWf; exact z2.set9
     have zB : Below w.heap.size w Wf := by subst hWf; exact below_set9 s6.below (by omega)
     have zL : IxT Wf (.agg (ixC G.disk g1 g2 n1 n2 G.frm G.til G.ver G.root g3 G.free.length n3)) G := by subst hWf; exact hG.only z2 (noS9 _ _ _ _ _ _ _ _ _ _ _ _ _ _ _) (by decide) Only.nine
     have HWf := zhI hWf
     have HB := zhI zB
     have HL := zhI zL
     have HRf := zhI hRf
     clear hWf zB zL hRf hG
     go_wp2
     have HW := HWf.out
     unfold st9 st8 at HW
     rw [HW]
     have cZ := zR.cell
     unfold ixC at cZ
     refine bodyPost_ret (v := .tuple #[.agg (ixC G.disk g1 g2 n1 n2 G.frm G.til G.ver G.root g3 G.free.length n3), .int .i64 0]) (by simp [results, Tryz.results30, go_sem, cZ, ixC]) rfl ?_
     rw [HRf.out]
     exact ⟨_, rfl, HL.out, HB.out⟩
    case' true =>
     have hk3 : a.kind = 3 := by simpa using k3
     have hR0 : actX x a l = openP (crashD x.disk a.picks) x.frm x.til := by unfold actX; rw [if_neg (by omega), if_neg nk2, if_pos hk3]
     obtain ⟨C, hC⟩ : ∃ C, crashD x.disk a.picks = C := ⟨_, rfl⟩
     obtain ⟨F, er, hF⟩ : ∃ F er, openP C x.frm x.til = (F, er) := ⟨_, _, rfl⟩
     have hkl := fitsA_len hf
     have hcr := fun W (hb : Below w.heap.size w W) => v_crash x.disk _ a.picks qo qc W (hD.below hb) ((hA.below hb).picks) (by omega) (by omega) hC
     have hop := fun v W (hv : DskV W v C) => bt_Open C v x.frm x.til W hv
     rw [hC, hF] at hR0
     rw [hF] at hop
     have Hcr := zhI hcr
     have Hop := zhI hop
     have HBw : Hid (∀ x : Lat W4, Below w.heap.size w x.w) := zhI (fun x => btr s4.below x.h)
     clear hcr hop hF hC
     have cQ := Lat.cells W4
     go_upto_region 9 with fail
     refine wp_region_late 13 12 2 #[true, true, true, true, true, true, true, true, true, true, true, true, false, false, false] #[true, true, true, true, true, true, true, true, true, true, true, true, true, false, false] (fun i => if i = 4 then some (annDv C) else if i = 9 then some (annXE F er) else none) _ (by kernel_rfl) rfl (by rfl) (by rfl) (by kernel_rfl) (by rfl) rfl (fun _ _ _ _ h => h) (extract_pure _ _ rfl) ?_
     simp only [List.take_succ_cons, List.take_zero]
     refine LW.block 4 4 (by rfl) (by kernel_rfl) (by kernel_rfl) ?_
     simp only [ztP]
     repeat (first | go_big_quiet_skip | (go_big_quiet_want; go_big_quiet_op; go_big_quiet_on))
     refine wpQuiet_nil ?_
     refine LW.lzy _ (by rfl) (by rfl) ?_ ?_
     .
      intro yL _
      unfold lzAt
      go_simp
      exact lz_dv (Hcr.out _ (HBw.out _))
     intro r4
     simp only [Act.put, zsP, annDv]
     refine LW.block 4 9 (by rfl) (by kernel_rfl) (by kernel_rfl) ?_
     simp only [ztP]
     repeat (first | go_big_quiet_skip | (go_big_quiet_want; go_big_quiet_op; go_big_quiet_on))
     refine wpQuiet_nil ?_
     refine LW.lzy _ (by rfl) (by rfl) ?_ ?_
     .
      intro yL hfg
      have hd : DskV yL.w (r4.x 0) C := (hfg 4 (by kernel_rfl)).get (j := 4) rfl rfl
      unfold lzAt
      go_simp
      exact lz_xo (Hop.out _ _ hd)
     intro r9
     simp only [Act.put, zsP, annXE]
     refine LW.block 3 13 (by rfl) (by kernel_rfl) (by kernel_rfl) ?_
     simp only [ztP]
     repeat (first | go_big_quiet_skip | (go_big_quiet_want; go_big_quiet_op; go_big_quiet_on))
     refine wpQuiet_nil ?_
     refine LW.done ?_
     intro w5 hG
     have hv5 : IxT w5 (r9.x 0) F := hG.get 9 rfl rfl
     have hb5 := hG.below
     obtain ⟨v5, hv5e⟩ : ∃ v5, r9.x 0 = v5 := ⟨_, rfl⟩
     rw [hv5e] at hv5 |-
     clear hG hv5e c0 l0 c1 l1 cQ
     have s5 := s4.next hb5
     have hv6 := hv5
     obtain ⟨gp, hp, gc, hc', gf, hf', rfl, -, -, -⟩ := hv5
     obtain ⟨W6, hW6⟩ : ∃ W6, st9 w5 (N + 3) (.int .i64 F.disk.size) (.slice gp F.disk.pages.length hp) (.slice gc F.disk.cache.length hc') (.int .i64 F.disk.left) (.int .i64 F.frm) (.int .i64 F.til) (.int .i64 F.ver) (.int .i64 F.root) (.slice gf F.free.length hf') = W6 := ⟨_, rfl⟩
     have s6 := s5.put hN hv6 hW6
     have q3 := s5.nxt.cell
     have m3 := s5.nxt.lt
     have r3 := s5.nxt.free
     unfold ixC at q3
     unfold st9 st8 at hW6
     refine wpAny_ready (rs := [13]) (by kernel_rfl) (by simp) ?_
     refine AllReady.cons rfl (fun K hK => ?_) AllReady.nil
     go_simp
     refine hK _ _ ?_
     clear hK K
     refine wpAny_ready (rs := [14]) (by kernel_rfl) (by simp) ?_
     refine AllReady.cons rfl (fun K hK => ?_) AllReady.nil
     go_simp
     refine hK _ _ ?_
     clear hK K
     refine wpAny_done (by kernel_rfl) ?_ _
     clear s4 s5 hb5 hv6
     go_upto_region 10 with fail
     clear hW6 q3 m3 r3
   case' true =>
    have hk2 : a.kind = 2 := by simpa using k2
    obtain ⟨F, hF⟩ : ∃ F, powX x a.left = F := ⟨_, rfl⟩
    have hR0 : actX x a l = (F, 0) := by unfold actX; rw [if_neg (by omega), if_pos hk2, hF]
    have hpw := rn_power x _ a.left W4 (hX0.below s4.below)
    rw [hF] at hpw
    have Hpw := zhI hpw
    have S4 := zhI s4
    clear hpw hF s4
    go_wp2_with fail
    refine Hpw.out.mono ?_
    rintro e w5 ⟨v5, rfl, hv5, hb5⟩
    have s4 := S4.out
    clear c0 l0 c1 l1 S4 Hpw
    have s5 := s4.next hb5
    have hv6 := hv5
    obtain ⟨gp, hp, gc, hc', gf, hf', rfl, -, -, -⟩ := hv5
    obtain ⟨W6, hW6⟩ : ∃ W6, st9 w5 (N + 3) (.int .i64 F.disk.size) (.slice gp F.disk.pages.length hp) (.slice gc F.disk.cache.length hc') (.int .i64 F.disk.left) (.int .i64 F.frm) (.int .i64 F.til) (.int .i64 F.ver) (.int .i64 F.root) (.slice gf F.free.length hf') = W6 := ⟨_, rfl⟩
    have s6 := s5.put hN hv6 hW6
    have q3 := s5.nxt.cell
    have m3 := s5.nxt.lt
    have r3 := s5.nxt.free
    unfold ixC at q3
    unfold st9 st8 at hW6
    clear s4 s5 hb5 hv6
    go_upto_region 10 with fail
    clear hW6 q3 m3 r3
    have s4 := s6
    have z0 := s6.box
    have z2 := s6.res
    have z3 := s6.nxt
    have c0 := z0.cell
    have l0 := z0.lt
    have c2 := z2.cell
    have l2 := z2.lt
    have f2 := z2.free
    have c3 := z3.cell
    have l3 := z3.lt
    unfold ixC at c0 c3
    unfold ixZ at c2
    obtain ⟨G, hGF⟩ : ∃ G, G = F := ⟨_, rfl⟩
    have hRf : R = (G, 0) := by rw [<- hR, hGF]; unfold doX; rw [hR0, if_neg (fun h => h.1 rfl)]
    have hG := s6.new
    obtain ⟨Wf, hWf⟩ : ∃ Wf, st9 W6 (N + 2) (.int .i64 F.disk.size) (.slice gp F.disk.pages.length hp) (.slice gc F.disk.cache.length hc') (.int .i64 F.disk.left) (.int .i64 F.frm) (.int .i64 F.til) (.int .i64 F.ver) (.int .i64 F.root) (.slice gf F.free.length hf') = Wf := ⟨_, rfl⟩
    rw [<- hGF] at hG hWf c3
    obtain ⟨g1, g2, g3, n1, n2, n3, hg1, hg2, hg3, hn1, hn2, hn3⟩ : ∃ g1 g2 g3 n1 n2 n3, g1 = gp /\ g2 = gc /\ g3 = gf /\ n1 = hp /\ n2 = hc' /\ n3 = hf' := ⟨_, _, _, _, _, _, rfl, rfl, rfl, rfl, rfl, rfl⟩
    rw [<- hg1, <- hg2, <- hg3, <- hn1, <- hn2, <- hn3] at hG hWf c3
    clear hg1 hg2 hg3 hn1 hn2 hn3 hGF
    clear hR hR0 s4 hA hl hls hX0 hD hsl hst
    have zR : Bx Wf (N + 2) (ixC G.disk g1 g2 n1 n2 G.frm G.til G.ver G.root g3 G.free.length n3) 33 := by subst hWf; exact z2.set9
    have zB : Below w.heap.size w Wf := by subst hWf; exact below_set9 s6.below (by omega)
    have zL : IxT Wf (.agg (ixC G.disk g1 g2 n1 n2 G.frm G.til G.ver G.root g3 G.free.length n3)) G := by subst hWf; exact hG.only z2 (noS9 _ _ _ _ _ _ _ _ _ _ _ _ _ _ _) (by decide) Only.nine
    have HWf := zhI hWf
    have HB := zhI zB
    have HL := zhI zL
    have HRf := zhI hRf
    clear hWf zB zL hRf hG
    go_wp2
    have HW := HWf.out
    unfold st9 st8 at HW
    rw [HW]
    have cZ := zR.cell
    unfold ixC at cZ
    refine bodyPost_ret (v := .tuple #[.agg (ixC G.disk g1 g2 n1 n2 G.frm G.til G.ver G.root g3 G.free.length n3), .int .i64 0]) (by simp [results, Tryz.results30, go_sem, cZ, ixC]) rfl ?_
    rw [HRf.out]
    exact ⟨_, rfl, HL.out, HB.out⟩
  case' true =>
   have hk1 : a.kind = 1 := by simpa using k1
   obtain ⟨F, er, hF⟩ : ∃ F er, commitP x (chgsOf a l) = (F, er) := ⟨_, _, rfl⟩
   obtain ⟨L, hLe⟩ : ∃ L, chgsOf a l = L := ⟨_, rfl⟩
   have hLl : L.length <= 1000 := by
    have h1 := chgsOf_len a l
    have h2 := fitsA_len hf
    rw [hLe] at h1
    omega
   have hch := fun W (hb : Below w.heap.size w W) => rn_Changes a ao bo do_ qo ac bc dc qc l lo lc W (hA.below hb) hf (hl.below hb) hls
   have hcm := fun W o c (hb : Below w.heap.size w W) (hs : SlW o L.length c) (ho : ChgsAt W o L) => bt_Commit x _ L o c W (hX0.below hb) hs hLl ho hc
   rw [hLe] at hF hch
   rw [hF] at hcm
   have hR0 : actX x a l = (F, er) := by unfold actX; rw [if_pos (by omega), hLe, hF]
   (try clear hk1)
   (try clear hk0)
   have Hch := zhI hch
   have Hcm := zhI hcm
   have HBw : Hid (∀ y : Lat W4, Below w.heap.size w y.w) := zhI (fun y => btr s4.below y.h)
   clear hch hcm hF hLe hLl
   have cQ := Lat.cells W4
   go_upto_region 5 with fail
   refine wp_region_late 8 7 2 #[true, true, true, true, true, true, true, false, false, false] #[true, true, true, true, true, true, true, true, false, false] (fun i => if i = 3 then some (annCh L) else if i = 4 then some (annXE F er) else none) _ (by kernel_rfl) rfl (by rfl) (by rfl) (by kernel_rfl) (by rfl) rfl (fun _ _ _ _ h => h) (extract_pure _ _ rfl) ?_
   simp only [List.take_succ_cons, List.take_zero]
   refine LW.block 3 3 (by rfl) (by kernel_rfl) (by kernel_rfl) ?_
   simp only [ztP]
   repeat (first | go_big_quiet_skip | (go_big_quiet_want; go_big_quiet_op; go_big_quiet_on))
   refine wpQuiet_nil ?_
   refine LW.lzy _ (by rfl) (by rfl) ?_ ?_
   .
    intro yL _
    unfold lzAt
    go_simp
    exact lz_ch (Hch.out _ (HBw.out _))
   intro r3
   simp only [Act.put, zsP, annCh]
   refine LW.lzy _ (by rfl) (by rfl) ?_ ?_
   .
    intro yL hfg
    obtain ⟨hs3, ho3⟩ : SlW (slO (r3.x 0)) L.length (slC (r3.x 0)) /\ ChgsAt yL.w (slO (r3.x 0)) L := (hfg 3 (by kernel_rfl)).get (j := 3) rfl rfl
    unfold lzAt
    go_simp
    exact lz_xe (Hcm.out _ _ _ (HBw.out _) hs3 ho3)
   intro r4
   simp only [Act.put, zsP, annXE]
   refine LW.block 3 8 (by rfl) (by kernel_rfl) (by kernel_rfl) ?_
   simp only [ztP]
   repeat (first | go_big_quiet_skip | (go_big_quiet_want; go_big_quiet_op; go_big_quiet_on))
   refine wpQuiet_nil ?_
   refine LW.done ?_
   intro w5 hG
   have hv5 : IxT w5 (r4.x 0) F := hG.get 4 rfl rfl
   have hb5 := hG.below
   obtain ⟨v5, hv5e⟩ : ∃ v5, r4.x 0 = v5 := ⟨_, rfl⟩
   rw [hv5e] at hv5 |-
   clear hG hv5e c0 l0 c1 l1 cQ Hch Hcm HBw
   have s5 := s4.next hb5
   have hv6 := hv5
   obtain ⟨gp, hp, gc, hc', gf, hf', rfl, -, -, -⟩ := hv5
   obtain ⟨W6, hW6⟩ : ∃ W6, st9 w5 (N + 3) (.int .i64 F.disk.size) (.slice gp F.disk.pages.length hp) (.slice gc F.disk.cache.length hc') (.int .i64 F.disk.left) (.int .i64 F.frm) (.int .i64 F.til) (.int .i64 F.ver) (.int .i64 F.root) (.slice gf F.free.length hf') = W6 := ⟨_, rfl⟩
   have s6 := s5.put hN hv6 hW6
   have q3 := s5.nxt.cell
   have m3 := s5.nxt.lt
   have r3 := s5.nxt.free
   unfold ixC at q3
   unfold st9 st8 at hW6
   refine wpAny_ready (rs := [8]) (by kernel_rfl) (by simp) ?_
   refine AllReady.cons rfl (fun K hK => ?_) AllReady.nil
   go_simp
   refine hK _ _ ?_
   clear hK K
   refine wpAny_ready (rs := [9]) (by kernel_rfl) (by simp) ?_
   refine AllReady.cons rfl (fun K hK => ?_) AllReady.nil
   go_simp
   refine hK _ _ ?_
   clear hK K
   refine wpAny_done (by kernel_rfl) ?_ _
   clear s4 s5 hb5 hv6
   go_upto_region 10 with fail
   clear hW6 q3 m3 r3
 case' true =>
  have hk0 : a.kind = 0 := by simpa using k0
  obtain ⟨F, er, hF⟩ : ∃ F er, commitP x (chgsOf a l) = (F, er) := ⟨_, _, rfl⟩
  obtain ⟨L, hLe⟩ : ∃ L, chgsOf a l = L := ⟨_, rfl⟩
  have hLl : L.length <= 1000 := by
   have h1 := chgsOf_len a l
   have h2 := fitsA_len hf
   rw [hLe] at h1
   omega
  have hch := fun W (hb : Below w.heap.size w W) => rn_Changes a ao bo do_ qo ac bc dc qc l lo lc W (hA.below hb) hf (hl.below hb) hls
  have hcm := fun W o c (hb : Below w.heap.size w W) (hs : SlW o L.length c) (ho : ChgsAt W o L) => bt_Commit x _ L o c W (hX0.below hb) hs hLl ho hc
  rw [hLe] at hF hch
  rw [hF] at hcm
  have hR0 : actX x a l = (F, er) := by unfold actX; rw [if_pos (by omega), hLe, hF]
  (try clear hk1)
  (try clear hk0)
  have Hch := zhI hch
  have Hcm := zhI hcm
  have HBw : Hid (∀ y : Lat W4, Below w.heap.size w y.w) := zhI (fun y => btr s4.below y.h)
  clear hch hcm hF hLe hLl
  have cQ := Lat.cells W4
  go_upto_region 5 with fail
  refine wp_region_late 8 7 2 #[true, true, true, true, true, true, true, false, false, false] #[true, true, true, true, true, true, true, true, false, false] (fun i => if i = 3 then some (annCh L) else if i = 4 then some (annXE F er) else none) _ (by kernel_rfl) rfl (by rfl) (by rfl) (by kernel_rfl) (by rfl) rfl (fun _ _ _ _ h => h) (extract_pure _ _ rfl) ?_
  simp only [List.take_succ_cons, List.take_zero]
  refine LW.block 3 3 (by rfl) (by kernel_rfl) (by kernel_rfl) ?_
  simp only [ztP]
  repeat (first | go_big_quiet_skip | (go_big_quiet_want; go_big_quiet_op; go_big_quiet_on))
  refine wpQuiet_nil ?_
  refine LW.lzy _ (by rfl) (by rfl) ?_ ?_
  .
   intro yL _
   unfold lzAt
   go_simp
   exact lz_ch (Hch.out _ (HBw.out _))
  intro r3
  simp only [Act.put, zsP, annCh]
  refine LW.lzy _ (by rfl) (by rfl) ?_ ?_
  .
   intro yL hfg
   obtain ⟨hs3, ho3⟩ : SlW (slO (r3.x 0)) L.length (slC (r3.x 0)) /\ ChgsAt yL.w (slO (r3.x 0)) L := (hfg 3 (by kernel_rfl)).get (j := 3) rfl rfl
   unfold lzAt
   go_simp
   exact lz_xe (Hcm.out _ _ _ (HBw.out _) hs3 ho3)
  intro r4
  simp only [Act.put, zsP, annXE]
  refine LW.block 3 8 (by rfl) (by kernel_rfl) (by kernel_rfl) ?_
  simp only [ztP]
  repeat (first | go_big_quiet_skip | (go_big_quiet_want; go_big_quiet_op; go_big_quiet_on))
  refine wpQuiet_nil ?_
  refine LW.done ?_
  intro w5 hG
  have hv5 : IxT w5 (r4.x 0) F := hG.get 4 rfl rfl
  have hb5 := hG.below
  obtain ⟨v5, hv5e⟩ : ∃ v5, r4.x 0 = v5 := ⟨_, rfl⟩
  rw [hv5e] at hv5 |-
  clear hG hv5e c0 l0 c1 l1 cQ Hch Hcm HBw
  have s5 := s4.next hb5
  have hv6 := hv5
  obtain ⟨gp, hp, gc, hc', gf, hf', rfl, -, -, -⟩ := hv5
  obtain ⟨W6, hW6⟩ : ∃ W6, st9 w5 (N + 3) (.int .i64 F.disk.size) (.slice gp F.disk.pages.length hp) (.slice gc F.disk.cache.length hc') (.int .i64 F.disk.left) (.int .i64 F.frm) (.int .i64 F.til) (.int .i64 F.ver) (.int .i64 F.root) (.slice gf F.free.length hf') = W6 := ⟨_, rfl⟩
  have s6 := s5.put hN hv6 hW6
  have q3 := s5.nxt.cell
  have m3 := s5.nxt.lt
  have r3 := s5.nxt.free
  unfold ixC at q3
  unfold st9 st8 at hW6
  refine wpAny_ready (rs := [8]) (by kernel_rfl) (by simp) ?_
  refine AllReady.cons rfl (fun K hK => ?_) AllReady.nil
  go_simp
  refine hK _ _ ?_
  clear hK K
  refine wpAny_ready (rs := [9]) (by kernel_rfl) (by simp) ?_
  refine AllReady.cons rfl (fun K hK => ?_) AllReady.nil
  go_simp
  refine hK _ _ ?_
  clear hK K
  refine wpAny_done (by kernel_rfl) ?_ _
  clear s4 s5 hb5 hv6
  go_upto_region 10 with fail
  clear hW6 q3 m3 r3
 all_goals
  have z0 := s6.box
  have z2 := s6.res
  have z3 := s6.nxt
  have c0 := z0.cell
  have l0 := z0.lt
  have c2 := z2.cell
  have l2 := z2.lt
  have f2 := z2.free
  have c3 := z3.cell
  have l3 := z3.lt
  unfold ixC at c0 c3
  unfold ixZ at c2
  cases e1 : (er != 0)
  case' false =>
   have he1 : er = 0 := by simpa using e1
   obtain ⟨G, hGF⟩ : ∃ G, G = F := ⟨_, rfl⟩
   have hRf : R = (G, er) := by rw [<- hR, hGF]; unfold doX; rw [hR0, if_neg (fun h => h.1 he1)]
   clear he1
   have hG := s6.new
   obtain ⟨Wf, hWf⟩ : ∃ Wf, st9 W6 (N + 2) (.int .i64 F.disk.size) (.slice gp F.disk.pages.length hp) (.slice gc F.disk.cache.length hc') (.int .i64 F.disk.left) (.int .i64 F.frm) (.int .i64 F.til) (.int .i64 F.ver) (.int .i64 F.root) (.slice gf F.free.length hf') = Wf := ⟨_, rfl⟩
   rw [<- hGF] at hG hWf c3
   obtain ⟨g1, g2, g3, n1, n2, n3, hg1, hg2, hg3, hn1, hn2, hn3⟩ : ∃ g1 g2 g3 n1 n2 n3, g1 = gp /\ g2 = gc /\ g3 = gf /\ n1 = hp /\ n2 = hc' /\ n3 = hf' := ⟨_, _, _, _, _, _, rfl, rfl, rfl, rfl, rfl, rfl⟩
   rw [<- hg1, <- hg2, <- hg3, <- hn1, <- hn2, <- hn3] at hG hWf c3
   clear hg1 hg2 hg3 hn1 hn2 hn3 hGF
   clear hR hR0 hA hl hls hX0 hD hsl hst
  case' true =>
   have he1 : er ≠ 0 := by simpa using e1
   cases e2 : (er != 18)
   case' false =>
    have he2 : er = 18 := by simpa using e2
    obtain ⟨G, hGF⟩ : ∃ G, G = F := ⟨_, rfl⟩
    have hRf : R = (G, er) := by rw [<- hR, hGF]; unfold doX; rw [hR0, if_neg (fun h => h.2 he2)]
    clear he1 he2
    have hG := s6.new
    obtain ⟨Wf, hWf⟩ : ∃ Wf, st9 W6 (N + 2) (.int .i64 F.disk.size) (.slice gp F.disk.pages.length hp) (.slice gc F.disk.cache.length hc') (.int .i64 F.disk.left) (.int .i64 F.frm) (.int .i64 F.til) (.int .i64 F.ver) (.int .i64 F.root) (.slice gf F.free.length hf') = Wf := ⟨_, rfl⟩
    rw [<- hGF] at hG hWf c3
    obtain ⟨g1, g2, g3, n1, n2, n3, hg1, hg2, hg3, hn1, hn2, hn3⟩ : ∃ g1 g2 g3 n1 n2 n3, g1 = gp /\ g2 = gc /\ g3 = gf /\ n1 = hp /\ n2 = hc' /\ n3 = hf' := ⟨_, _, _, _, _, _, rfl, rfl, rfl, rfl, rfl, rfl⟩
    rw [<- hg1, <- hg2, <- hg3, <- hn1, <- hn2, <- hn3] at hG hWf c3
    clear hg1 hg2 hg3 hn1 hn2 hn3 hGF
    clear hR hR0 hA hl hls hX0 hD hsl hst
   case' true =>
    have he2 : er ≠ 18 := by simpa using e2
    obtain ⟨G, hGF⟩ : ∃ G, G = x := ⟨_, rfl⟩
    have hRf : R = (G, er) := by rw [<- hR, hGF]; unfold doX; rw [hR0, if_pos ⟨he1, he2⟩]
    clear he1 he2
    have hG := s6.val
    obtain ⟨Wf, hWf⟩ : ∃ Wf, st9 W6 (N + 2) (.int .i64 x.disk.size) (.slice po x.disk.pages.length pc) (.slice co x.disk.cache.length cc) (.int .i64 x.disk.left) (.int .i64 x.frm) (.int .i64 x.til) (.int .i64 x.ver) (.int .i64 x.root) (.slice fo x.free.length fc) = Wf := ⟨_, rfl⟩
    rw [<- hGF] at hG hWf c0
    obtain ⟨g1, g2, g3, n1, n2, n3, hg1, hg2, hg3, hn1, hn2, hn3⟩ : ∃ g1 g2 g3 n1 n2 n3, g1 = po /\ g2 = co /\ g3 = fo /\ n1 = pc /\ n2 = cc /\ n3 = fc := ⟨_, _, _, _, _, _, rfl, rfl, rfl, rfl, rfl, rfl⟩
    rw [<- hg1, <- hg2, <- hg3, <- hn1, <- hn2, <- hn3] at hG hWf c0
    clear hg1 hg2 hg3 hn1 hn2 hn3 hGF hR hR0 hA hl hls hX0 hD hsl hst
  all_goals
   have zR : Bx Wf (N + 2) (ixC G.disk g1 g2 n1 n2 G.frm G.til G.ver G.root g3 G.free.length n3) 33 := by subst hWf; exact z2.set9
   have zB : Below w.heap.size w Wf := by subst hWf; exact below_set9 s6.below (by omega)
   have zL : IxT Wf (.agg (ixC G.disk g1 g2 n1 n2 G.frm G.til G.ver G.root g3 G.free.length n3)) G := by subst hWf; exact hG.only z2 (noS9 _ _ _ _ _ _ _ _ _ _ _ _ _ _ _) (by decide) Only.nine
   have HWf := zhI hWf
   have HB := zhI zB
   have HL := zhI zL
   have HRf := zhI hRf
   clear hWf zB zL hRf hG
   go_wp2
   have HW := HWf.out
   unfold st9 st8 at HW
   rw [HW]
   have cZ := zR.cell
   unfold ixC at cZ
   refine bodyPost_ret (v := .tuple #[.agg (ixC G.disk g1 g2 n1 n2 G.frm G.til G.ver G.root g3 G.free.length n3), .int .i64 er]) (by simp [results, Tryz.results30, go_sem, cZ, ixC]) rfl ?_
   rw [HRf.out]
   exact ⟨_, rfl, HL.out, HB.out⟩
def beginX (p frm til : Int) (acts : List ActB) : Ix × Bool :=
 if fine42 p acts = false then (zeroX, false)
 else if (newD p 512).2 ≠ 0 then (zeroX, false)
 else if (fmtX (newD p 512).1 frm til).2 ≠ 0 then (zeroX, false)
 else ((openP (fmtX (newD p 512).1 frm til).1 frm til).1, (openP (fmtX (newD p 512).1 frm til).1 frm til).2 == 0)
theorem newD_cache (p s : Int) : (newD p s).1.cache = [] := by unfold newD; split <;> rfl
abbrev runC (p frm til : Int) (o : Option Addr) (n c : Nat) : Array Value := #[.int .i64 p, .int .i64 frm, .int .i64 til, .slice o n c]
def RetXB (w : World) (x : Ix) (b : Bool) (e : Ending) (w' : World) : Prop := ∃ v, e = .returned (.tuple #[v, .bool b]) /\ IxT w' v x /\ Below w.heap.size w w'
set_option maxRecDepth 100000 in
set_option maxHeartbeats 2000000 in
theorem rn_begin42 (p frm til : Int) (acts : List ActB) (o : Option Addr) (c : Nat) (w : World) (hA : ActsB w o acts) (hsl : SlW o acts.length c) :
  Calls Tryz.prog 40 #[.agg (runC p frm til o acts.length c)] w (RetXB w (beginX p frm til acts).1 (beginX p frm til acts).2) := by
 obtain ⟨R, hR⟩ : ∃ R, beginX p frm til acts = R := ⟨_, rfl⟩
 rw [hR]
 obtain ⟨fb, hfb⟩ : ∃ fb, fine42 p acts = fb := ⟨_, rfl⟩
 obtain ⟨d, e0, hnd⟩ : ∃ d e0, newD p 512 = (d, e0) := ⟨_, _, rfl⟩
 have hcd : d.cache = [] := by have := newD_cache p 512; rw [hnd] at this; exact this
 obtain ⟨f, e1, hfd⟩ : ∃ f e1, fmtX d frm til = (f, e1) := ⟨_, _, rfl⟩
 obtain ⟨F, er, hF⟩ : ∃ F er, openP f frm til = (F, er) := ⟨_, _, rfl⟩
 unfold beginX at hR
 rw [hfb, hnd] at hR
 simp only at hR
 rw [hfd] at hR
 simp only at hR
 rw [hF] at hR
 simp only at hR
 have HR := zhI hR
 clear hR
 obtain ⟨N, hN⟩ : ∃ N, w.heap.size = N := ⟨_, rfl⟩
 obtain ⟨n, hn⟩ : ∃ n, acts.length = n := ⟨_, rfl⟩
 obtain ⟨W2, hW2⟩ : ∃ W2, (w.alloc (.cells (runC p frm til o n c) 49)).alloc (.cells ixZ 33) = W2 := ⟨_, rfl⟩
 have x0 : Bx W2 N (runC p frm til o n c) 49 := by subst hW2 hN; exact (Bx.new w _ _).alloc _
 have x1 : Bx W2 (N + 1) ixZ 33 := by subst hW2 hN; exact Bx.newAt _ _ _ _ (by simp)
 have hB2 : Below w.heap.size w W2 := by subst hW2; exact (Below.one w _).alloc (by simp) _
 have hs2 : N + 2 <= W2.heap.size := by subst hW2 hN; simp
 have hfi := rn_Fine42 p frm til acts o c W2 (hA.below hB2) hsl
 rw [hfb, hn] at hfi
 rw [hn]
 have c0 := x0.cell
 have l0 := x0.lt
 have Hcd := zhI hcd
 have Hfd := zhI hfd
 have HF := zhI hF
 have Hnd := zhI hnd
 have Hfi := zhI hfi
 clear hcd hnd hfd hF hfi hfb hn hsl hA
 go_enter Tryz.func40, Tryz.ntmps40
 go_wp2_with fail
 refine Hfi.out.mono ?_
 rintro e w3 ⟨rfl, hb3⟩
 have y0 := x0.belowAll hb3
 have y1 := x1.belowAll hb3
 have hB3 := btr hB2 hb3
 have hs3 : N + 2 <= w3.heap.size := by have := hb3.size; omega
 clear x0 x1 c0 l0 hB2 hs2 hW2 hb3 Hfi
 cases hfbv : fb with
 | false =>
  subst hfbv
  have HRf : Hid (R = (zeroX, false)) := zhI (by rw [<- HR.out]; rfl)
  clear HR
  obtain ⟨W7, hW7⟩ : ∃ W7, W7 = w3 := ⟨_, rfl⟩
  have x7 : Bx W7 (N + 1) ixZ 33 := by rw [hW7]; exact y1
  have hB7 : Below w.heap.size w W7 := by rw [hW7]; exact hB3
  rw [<- hW7]
  clear y0 y1 hB3 hs3 hW7
  obtain ⟨Wf, hWf⟩ : ∃ Wf, st9 W7 (N + 1) (.int .i64 0) (.slice none 0 0) (.slice none 0 0) (.int .i64 0) (.int .i64 0) (.int .i64 0) (.int .i64 0) (.int .i64 0) (.slice none 0 0) = Wf := ⟨_, rfl⟩
  have zR : Bx Wf (N + 1) ixZ 33 := by subst hWf; exact x7.set9
  have zB : Below w.heap.size w Wf := by subst hWf; exact below_set9 hB7 (by omega)
  have HWf := zhI hWf
  have HB := zhI zB
  clear hWf zB
  have c1 := x7.cell
  have l1 := x7.lt
  have f1 := x7.free
  go_wp2
  have HW := HWf.out
  unfold st9 st8 at HW
  rw [HW]
  have cZ := zR.cell
  unfold ixZ at cZ
  refine bodyPost_ret (v := .tuple #[.agg ixZ, .bool false]) (by simp [results, Tryz.results40, go_sem, cZ, ixZ]) rfl ?_
  rw [HRf.out]
  exact ⟨_, rfl, IxT.zero _, by have := HB.out; rwa [hN] at this⟩
 | true =>
  subst hfbv
  have HR1 : Hid ((if e0 ≠ 0 then (zeroX, false) else if e1 ≠ 0 then (zeroX, false) else (F, er == 0)) = R) := zhI (by have := HR.out; rwa [if_neg (by decide)] at this)
  clear HR
  have hnew := rv_new p 512 w3 Hnd.out
  have c0 := y0.cell
  have l0 := y0.lt
  have Hnew := zhI hnew
  clear hnew
  go_wp2_with fail
  refine Hnew.out.mono ?_
  rintro e w4 ⟨v4, rfl, hM4, hb4⟩
  have hM := hM4
  obtain ⟨po, pc, co, cc, rfl⟩ := hM4.agg
  obtain ⟨b, hbe⟩ : ∃ b, w4.heap.size = b := ⟨_, rfl⟩
  have hNb : N + 2 <= b := by have := hb4.size; omega
  have hBo := Below.one w4 (.cells (dC d po co pc cc) 25)
  have xd := Bx.new w4 (dC d po co pc cc) 25
  have z0 := (y0.belowAll hb4).belowAll hBo
  have z1 := (y1.belowAll hb4).belowAll hBo
  have hV5 := hM.below hBo
  have hB5 := btr (btr hB3 hb4) hBo
  obtain ⟨W5, hW5⟩ : ∃ W5, w4.alloc (.cells (dC d po co pc cc) 25) = W5 := ⟨_, rfl⟩
  rw [hW5] at z0 z1 hV5 hB5
  rw [hW5, hbe] at xd
  clear y0 y1 c0 l0 Hnew hM hM4 hb4 hBo hB3 hs3
  cases g0 : (e0 != 0)
  rotate_left
  .
   have HRf : Hid (R = (zeroX, false)) := zhI (by rw [<- HR1.out, if_pos (by simpa using g0)])
   clear HR1
   obtain ⟨W7, hW7⟩ : ∃ W7, W7 = W5 := ⟨_, rfl⟩
   have x7 : Bx W7 (N + 1) ixZ 33 := by rw [hW7]; exact z1
   have hB7 : Below w.heap.size w W7 := by rw [hW7]; exact hB5
   rw [<- hW7] at hW5
   clear z0 z1 hB5 hV5 xd hW7 hbe
   obtain ⟨Wf, hWf⟩ : ∃ Wf, st9 W7 (N + 1) (.int .i64 0) (.slice none 0 0) (.slice none 0 0) (.int .i64 0) (.int .i64 0) (.int .i64 0) (.int .i64 0) (.int .i64 0) (.slice none 0 0) = Wf := ⟨_, rfl⟩
   have zR : Bx Wf (N + 1) ixZ 33 := by subst hWf; exact x7.set9
   have zB : Below w.heap.size w Wf := by subst hWf; exact below_set9 hB7 (by omega)
   have HWf := zhI hWf
   have HB := zhI zB
   clear hWf zB
   have c1 := x7.cell
   have l1 := x7.lt
   have f1 := x7.free
   go_wp2
   have HW := HWf.out
   unfold st9 st8 at HW
   rw [HW]
   have cZ := zR.cell
   unfold ixZ at cZ
   refine bodyPost_ret (v := .tuple #[.agg ixZ, .bool false]) (by simp [results, Tryz.results40, go_sem, cZ, ixZ]) rfl ?_
   rw [HRf.out]
   exact ⟨_, rfl, IxT.zero _, by have := HB.out; rwa [hN] at this⟩
  .
   have h0 : e0 = 0 := by simpa using g0
   have HR2 : Hid ((if e1 ≠ 0 then (zeroX, false) else (F, er == 0)) = R) := zhI (by have := HR1.out; rwa [if_neg (fun h => h h0)] at this)
   have hfm := bt_Format d _ frm til W5 hV5 (by rw [Hcd.out]; simp)
   rw [Hfd.out] at hfm
   have Hfm := zhI hfm
   have c0 := z0.cell
   have l0 := z0.lt
   have cd := xd.cell
   have ld := xd.lt
   clear HR1 h0 hfm
   go_wp2_with fail
   refine Hfm.out.mono ?_
   rintro e w6 ⟨v6, rfl, hM6, hb6⟩
   have hM := hM6
   obtain ⟨po6, pc6, co6, cc6, rfl⟩ := hM6.agg
   have y0 := z0.belowAll hb6
   have y1 := z1.belowAll hb6
   have yd := xd.belowAll hb6
   have hB6 := btr hB5 hb6
   clear c0 l0 cd ld z0 z1 xd hV5 Hfm hM6 hb6 hB5 hW5
   obtain ⟨W8, hW8⟩ : ∃ W8, st4 w6 b (.int .i64 f.size) (.slice po6 f.pages.length pc6) (.slice co6 f.cache.length cc6) (.int .i64 f.left) = W8 := ⟨_, rfl⟩
   have ho : Only b w6 W8 := by subst hW8; exact only_st4
   have xd8 : Bx W8 b (dC f po6 co6 pc6 cc6) 25 := by subst hW8; exact yd.st4
   have hB8 : Below w.heap.size w W8 := by subst hW8; exact below_st4 hB6 (by omega)
   have hV8 : DskV W8 (.agg (dC f po6 co6 pc6 cc6)) f := hM.only yd (noS_dC _ _ _ _ _) ho
   have z0 := y0.only ho (by omega)
   have z1 := y1.only ho (by omega)
   have qd := yd.cell
   have md := yd.lt
   have rd := yd.free
   have q0 := y0.cell
   have m0 := y0.lt
   clear y0 y1 yd hM ho hB6
   unfold st4 at hW8
   go_upto_region 7 with fail
   (try rw [hW8])
   clear hW8 qd md rd q0 m0
   cases g1 : (e1 != 0)
   rotate_left
   .
    have HRf : Hid (R = (zeroX, false)) := zhI (by rw [<- HR2.out, if_pos (by simpa using g1)])
    clear HR2
    obtain ⟨W7, hW7⟩ : ∃ W7, W7 = W8 := ⟨_, rfl⟩
    have x7 : Bx W7 (N + 1) ixZ 33 := by rw [hW7]; exact z1
    have hB7 : Below w.heap.size w W7 := by rw [hW7]; exact hB8
    rw [<- hW7]
    clear z0 z1 hB8 hV8 xd8 hW7
    obtain ⟨Wf, hWf⟩ : ∃ Wf, st9 W7 (N + 1) (.int .i64 0) (.slice none 0 0) (.slice none 0 0) (.int .i64 0) (.int .i64 0) (.int .i64 0) (.int .i64 0) (.int .i64 0) (.slice none 0 0) = Wf := ⟨_, rfl⟩
    have zR : Bx Wf (N + 1) ixZ 33 := by subst hWf; exact x7.set9
    have zB : Below w.heap.size w Wf := by subst hWf; exact below_set9 hB7 (by omega)
    have HWf := zhI hWf
    have HB := zhI zB
    clear hWf zB
    have c1 := x7.cell
    have l1 := x7.lt
    have f1 := x7.free
    go_wp2
    have HW := HWf.out
    unfold st9 st8 at HW
    rw [HW]
    have cZ := zR.cell
    unfold ixZ at cZ
    refine bodyPost_ret (v := .tuple #[.agg ixZ, .bool false]) (by simp [results, Tryz.results40, go_sem, cZ, ixZ]) rfl ?_
    rw [HRf.out]
    exact ⟨_, rfl, IxT.zero _, by have := HB.out; rwa [hN] at this⟩
   .
    have h1 : e1 = 0 := by simpa using g1
    have HRf : Hid (R = (F, er == 0)) := zhI (by rw [<- HR2.out, if_neg (fun h => h h1)])
    clear HR2 h1
    have hop := bt_Open f _ frm til W8 hV8
    rw [HF.out] at hop
    have Hop := zhI hop
    have c0 := z0.cell
    have l0 := z0.lt
    have cd := xd8.cell
    have ld := xd8.lt
    clear hop
    go_wp2_with fail
    refine Hop.out.mono ?_
    rintro e w9 ⟨v9, rfl, hX9, hb9⟩
    have hX := hX9
    obtain ⟨po9, pc9, co9, cc9, fo9, fc9, rfl, -, -, -⟩ := hX9
    have hBo := Below.one w9 (.cells (ixC F.disk po9 co9 pc9 cc9 F.frm F.til F.ver F.root fo9 F.free.length fc9) 33)
    have xy := Bx.new w9 (ixC F.disk po9 co9 pc9 cc9 F.frm F.til F.ver F.root fo9 F.free.length fc9) 33
    have x9 := (z1.belowAll hb9).belowAll hBo
    have hB9 := btr (btr hB8 hb9) hBo
    have hX2 := hX.below hBo
    obtain ⟨W9, hW9⟩ : ∃ W9, w9.alloc (.cells (ixC F.disk po9 co9 pc9 cc9 F.frm F.til F.ver F.root fo9 F.free.length fc9) 33) = W9 := ⟨_, rfl⟩
    rw [hW9] at xy x9 hB9 hX2
    obtain ⟨Wf, hWf⟩ : ∃ Wf, st9 W9 (N + 1) (.int .i64 F.disk.size) (.slice po9 F.disk.pages.length pc9) (.slice co9 F.disk.cache.length cc9) (.int .i64 F.disk.left) (.int .i64 F.frm) (.int .i64 F.til) (.int .i64 F.ver) (.int .i64 F.root) (.slice fo9 F.free.length fc9) = Wf := ⟨_, rfl⟩
    have zR : Bx Wf (N + 1) (ixC F.disk po9 co9 pc9 cc9 F.frm F.til F.ver F.root fo9 F.free.length fc9) 33 := by subst hWf; exact x9.set9
    have zB : Below w.heap.size w Wf := by subst hWf; exact below_set9 hB9 (by omega)
    have zL : IxT Wf (.agg (ixC F.disk po9 co9 pc9 cc9 F.frm F.til F.ver F.root fo9 F.free.length fc9)) F := by subst hWf; exact hX2.only x9 (noS9 _ _ _ _ _ _ _ _ _ _ _ _ _ _ _) (by decide) Only.nine
    have HWf := zhI hWf
    have HB := zhI zB
    have HL := zhI zL
    have c1 := x9.cell
    have l1 := x9.lt
    have f1 := x9.free
    have cy := xy.cell
    have ly := xy.lt
    clear c0 l0 cd ld z0 z1 xd8 hV8 Hop hb9 hB8 hX hBo hB9 hX2 hWf zB zL x9 xy
    go_wp2
    have HW := HWf.out
    unfold st9 st8 at HW
    rw [HW]
    have cZ := zR.cell
    unfold ixC at cZ
    refine bodyPost_ret (v := .tuple #[.agg (ixC F.disk po9 co9 pc9 cc9 F.frm F.til F.ver F.root fo9 F.free.length fc9), .bool (er == 0)]) (by simp [results, Tryz.results40, go_sem, cZ, ixC]) rfl ?_
    rw [HRf.out]
    exact ⟨_, rfl, HL.out, by have := HB.out; rwa [hN] at this⟩
end Go.Proofs.YtlefmmhlpgmbjaaGreat
