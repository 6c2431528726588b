/- law 42's 'awake': it returns true. law BtreeOpen: the walk. An argument of type api.Disk (layer 40), a slice of ints, a string: opened: what it is in plain Lean. -/
import Derived.Test.YtlefmmhlpgmbjaaGreatO29
import Derived.Test.YtlefmmhlpgmbjaaGreatO27
import Derived.Test.YtlefmmhlpgmbjaaGreatO30
import Derived.Test.YtlefmmhlpgmbjaaGreatO02
import Derived.Test.YtlefmmhlpgmbjaaGreatO13
import Derived.Test.YtlefmmhlpgmbjaaGreatO23
import Derived.Test.YtlefmmhlpgmbjaaGreatO01
import Derived.SizedLaws
import Derived.Lib.SmallJoins
import Derived.Deep.SlicePairs
import Derived.SliceStrings
import Derived.Test.YtlefmmhlpgmbjaaGreatProg
namespace Go.Proofs.YtlefmmhlpgmbjaaGreat
set_option maxRecDepth 100000
open Go.RowKit Go.Shelf
theorem znk (p s : Int) (w : World) {d : Dsk} {er : Int} (h : newD p s = (d, er)) : Calls Tryz.prog 28 #[.int .i64 p, .int .i64 s] w (RetVE w d er) := by
 refine (zle (S := (· < w.heap.size)) p s w).mono ?_;rintro e w' ⟨v', rfl, h1, hb⟩;rw [h] at h1 |-;exact ⟨v', rfl, .of h1 (zgQ hb), hb⟩
set_option maxHeartbeats 800000 in
theorem ziT (k : ByteArray) (w : World) : Calls Tryz.prog 42 #[.string k] w fun e w' => e = .returned (.agg #[.string k, .bool false, .bool true, .string ByteArray.empty, .string ByteArray.empty]) /\ Below w.heap.size w w' := by
 go_enter Tryz.func42, Tryz.ntmps42;go_wp2;refine bodyPost_ret (v := .agg #[.string k, .bool false, .bool true, .string ByteArray.empty, .string ByteArray.empty]) (by simp [results, Tryz.results42, go_sem]; rfl) rfl ?_;exact ⟨rfl, Below.one _ _⟩
def annXE (x : Ix) (er : Int) : Ann := ⟨fun r => .tuple #[r.x 0, .int .i64 er], fun r W => IxT W (r.x 0) x⟩
theorem lz_xe {f : FuncId} {args : Array Value} {r : Ix × Int} {W : World} (h : Calls Tryz.prog f args W (RetXV W r)) : Calls Tryz.prog f args W fun e w' => ∃ u, e = .returned u /\ zcM (annXE r.1 r.2) W u w' := by
 refine h.mono ?_;rintro e w' ⟨v, rfl, hv, hb⟩;exact ⟨_, rfl, hb, fun _ => v, rfl, fun w'' hb' => hv.below hb'⟩
set_option maxRecDepth 100000 in
set_option maxHeartbeats 4000000 in
theorem zeB (w : World) : Calls Tryz.prog 13 #[] w fun e w' => e = .returned (.bool true) /\ Below w.heap.size w w' := by
 obtain ⟨d0, d1, x1, x2, x3, k1, k2, k3, k4, k5, k6, k7, k8, k9, k10, k11, k12, k13, k14⟩ := zk7;have hnew := znk 10 512 w k1;have Hk2 := zhI k2;have Hk3 := zhI k3;have Hk4 := zhI k4;have Hk5 := zhI k5;have Hk6 := zhI k6;have Hk7 := zhI k7;have Hk8 := zhI k8;have Hk9 := zhI k9;have Hk10 := zhI k10;have Hk11 := zhI k11;have Hk12 := zhI k12;have Hk13 := zhI k13;have Hk14 := zhI k14;clear k1 k2 k3 k4 k5 k6 k7 k8 k9 k10 k11 k12 k13 k14;go_enter Tryz.func13, Tryz.ntmps13;go_wp2_with fail;refine hnew.mono ?_;rintro e w1 ⟨v1, rfl, hM1, hb1⟩;have hM := hM1;obtain ⟨po1, pc1, co1, cc1, rfl⟩ := hM1.agg;have x1b := Bx.new w1 (dC d0 po1 co1 pc1 cc1) 25;have hBo := Below.one w1 (.cells (dC d0 po1 co1 pc1 cc1) 25);have hV1 := hM.below hBo;have hB1 := btr hb1 hBo;obtain ⟨b1, hb1e⟩ : ∃ b1, w1.heap.size = b1 := ⟨_, rfl⟩;have hwb : w.heap.size <= b1 := by have := hb1.size; omega
 obtain ⟨W1, hW1⟩ : ∃ W1, w1.alloc (.cells (dC d0 po1 co1 pc1 cc1) 25) = W1 := ⟨_, rfl⟩;rw [hW1, hb1e] at x1b;rw [hW1] at hV1 hB1;have hfm := zgw d0 _ 0 10 W1 hV1 (by rw [Hk11.out]; simp);rw [Hk2.out] at hfm;clear hnew hBo hM hM1 hb1 hV1;have cA := x1b.cell;have lA := x1b.lt;go_wp2_with fail;refine hfm.mono ?_;rintro e w2 ⟨v2, rfl, hM2, hb2⟩;have hM := hM2;obtain ⟨po2, pc2, co2, cc2, rfl⟩ := hM2.agg;have x2b := x1b.belowAll hb2;have hB2 := btr hB1 hb2;clear cA lA x1b hB1 hW1 hfm hM2 hb2;have cA := x2b.cell;have lA := x2b.lt;have fA := x2b.free;obtain ⟨w3, hw3⟩ : ∃ w3, st4 w2 b1 (.int .i64 d1.size) (.slice po2 d1.pages.length pc2) (.slice co2 d1.cache.length cc2) (.int .i64 d1.left) = w3 := ⟨_, rfl⟩;have x3b : Bx w3 b1 (dC d1 po2 co2 pc2 cc2) 25 := by subst hw3; exact x2b.st4
 have hB3 : Below w.heap.size w w3 := by subst hw3; exact zaY hB2 hwb
 have hV3 : DskV w3 (.agg (dC d1 po2 co2 pc2 cc2)) d1 := by subst hw3; exact hM.only x2b (zcF _ _ _ _ _) zbN
 have hop := zjQ d1 _ 0 10 w3 hV3;rw [Hk3.out] at hop;have Hw3 := zhI hw3;have Hop := zhI hop;clear hw3 hM hV3 hB2 hop x3b;go_wp2_with fail;have HW := Hw3.out;unfold st4 at HW;rw [HW];refine Hop.out.mono ?_;rintro e w4 ⟨v4, rfl, hL4, hb4⟩;have hL := hL4;obtain ⟨po4, pc4, co4, cc4, fo4, fc4, rfl, _, _, _⟩ := hL4;have hB4 := btr hB3 hb4;clear HW Hw3 cA lA fA x2b hB3 hb4;have x4 := Bx.new w4 (ixC x1.disk po4 co4 pc4 cc4 x1.frm x1.til x1.ver x1.root fo4 x1.free.length fc4) 33;have hBo := Below.one w4 (.cells (ixC x1.disk po4 co4 pc4 cc4 x1.frm x1.til x1.ver x1.root fo4 x1.free.length fc4) 33);obtain ⟨b4, hb4e⟩ : ∃ b4, w4.heap.size = b4 := ⟨_, rfl⟩;have hwb4 : w.heap.size <= b4 := by have := hB4.size; omega
 obtain ⟨W4, hW4⟩ : ∃ W4, w4.alloc (.cells (ixC x1.disk po4 co4 pc4 cc4 x1.frm x1.til x1.ver x1.root fo4 x1.free.length fc4) 33) = W4 := ⟨_, rfl⟩;rw [hW4, hb4e] at x4;rw [hW4] at hBo;have hB5 := btr hB4 hBo;have hL5 := hL.below hBo;go_upto_region 5 with fail
 clear hL hBo hB4 hW4 Hop;have Hc1 : Hid (∀ W v, Below W4.heap.size W4 W -> ∀ o, zc1 W o awC1 -> SlW o 4 4 -> v = .agg (ixC x1.disk po4 co4 pc4 cc4 x1.frm x1.til x1.ver x1.root fo4 x1.free.length fc4) -> Calls Tryz.prog 36 #[v, .slice o 4 4] W (RetXV W (x2, 0))) := zhI (by
  rintro W v hb o ho hs rfl;have := zgJ x1 _ awC1 o 4 W (hL5.below hb) hs (by decide) ho (by rw [Hk12.out]; simp);rw [Hk4.out] at this;exact this)
 have cA := x4.cell;have lA := x4.lt;have cQ := Lat.cells W4;have HBw : Hid (∀ y : Lat W4, Below W4.heap.size W4 y.w) := zhI (fun y => y.h);refine zaZ 14 13 2 #[true, true, true, true, true, true, true, true, true, true, true, true, true, false, false, false] #[true, true, true, true, true, true, true, true, true, true, true, true, true, true, false, false] (fun i => if i = 2 then some (annK (.agg #[.string kA, .bool false, .bool true, .string ByteArray.empty, .string ByteArray.empty])) else if i = 4 then some (annK (.agg #[.string kB, .bool false, .bool true, .string ByteArray.empty, .string ByteArray.empty])) else if i = 6 then some (annK (.agg #[.string kC, .bool false, .bool true, .string ByteArray.empty, .string ByteArray.empty])) else if i = 8 then some (annK (.agg #[.string kD, .bool false, .bool true, .string ByteArray.empty, .string ByteArray.empty])) else if i = 9 then some (zcK 4 (chgsC awC1) 71) else if i = 10 then some (annXE x2 0) else none) _ (by kernel_rfl) rfl (by rfl) (by rfl) (by kernel_rfl) (by rfl) rfl (fun _ _ _ _ h => h) (zbe _ _ rfl) ?_;simp only [List.take_succ_cons, List.take_zero];refine LW.block 2 2 (by rfl) (by kernel_rfl) (by kernel_rfl) ?_;simp only [ztP]
 repeat (first | go_big_quiet_skip | (go_big_quiet_want; go_big_quiet_op; go_big_quiet_on))
 refine wpQuiet_nil ?_;refine LW.lzy _ (by rfl) (by rfl) ?_ ?_
 . intro yL _;unfold lzAt;go_simp;exact zaC (ziT _ _)
 intro _;simp only [Act.put, zsP]
 (try simp only [annK])
 refine LW.block 1 4 (by rfl) (by kernel_rfl) (by kernel_rfl) ?_;simp only [ztP]
 repeat (first | go_big_quiet_skip | (go_big_quiet_want; go_big_quiet_op; go_big_quiet_on))
 refine wpQuiet_nil ?_;refine LW.lzy _ (by rfl) (by rfl) ?_ ?_
 . intro yL _;unfold lzAt;go_simp;exact zaC (ziT _ _)
 intro _;simp only [Act.put, zsP]
 (try simp only [annK])
 refine LW.block 1 6 (by rfl) (by kernel_rfl) (by kernel_rfl) ?_;simp only [ztP]
 repeat (first | go_big_quiet_skip | (go_big_quiet_want; go_big_quiet_op; go_big_quiet_on))
 refine wpQuiet_nil ?_;refine LW.lzy _ (by rfl) (by rfl) ?_ ?_
 . intro yL _;unfold lzAt;go_simp;exact zaC (ziT _ _)
 intro _;simp only [Act.put, zsP]
 (try simp only [annK])
 refine LW.block 1 8 (by rfl) (by kernel_rfl) (by kernel_rfl) ?_;simp only [ztP]
 repeat (first | go_big_quiet_skip | (go_big_quiet_want; go_big_quiet_op; go_big_quiet_on))
 refine wpQuiet_nil ?_;refine LW.lzy _ (by rfl) (by rfl) ?_ ?_
 . intro yL _;unfold lzAt;go_simp;exact zaC (ziT _ _)
 intro _;simp only [Act.put, zsP]
 (try simp only [annK])
 refine LW.lzy _ (by rfl) (by rfl) ?_ ?_
 . intro yL hf;unfold lzAt;go_simp;exact ⟨Below.one _ _, fun _ => undef, rfl, fun w'' hb => (Bx.new yL.w _ _).belowAll hb⟩
 intro r9;simp only [Act.put, zsP];refine LW.lzy _ (by rfl) (by rfl) ?_ ?_
 .
  intro yL hf;have h9 : Bx yL.w r9.lo (chgsC awC1).toArray 71 := (hf 9 (by decide +kernel)).get (by rfl) (by rfl);unfold lzAt;simp only [zcK];go_simp;have ho : zc1 yL.w (some ⟨r9.lo, 0, none⟩) awC1 := (RowAt.bx h9).mono fun b hb => by subst hb; exact h9.lt
  exact lz_xe (Hc1.out yL.w _ (HBw.out _) _ ho (.inr ⟨_, rfl, by decide, by unfold maxLen; decide⟩) rfl)
 intro r10;simp only [Act.put, zsP, annXE];refine LW.block 3 14 (by rfl) (by kernel_rfl) (by kernel_rfl) ?_;simp only [ztP]
 repeat (first | go_big_quiet_skip | (go_big_quiet_want; go_big_quiet_op; go_big_quiet_on))
 refine wpQuiet_nil ?_;refine LW.done ?_;intro w5 hG;have hR : IxT w5 (r10.x 0) x2 := hG.get 10 rfl rfl;have hb5 := hG.below;have hR0 := hR;obtain ⟨po5, pc5, co5, cc5, fo5, fc5, e5, -, -, -⟩ := hR;rw [e5] at hR0 |-;have x5 := x4.belowAll hb5;have hB6 := btr hB5 hb5;obtain ⟨w6, hw6⟩ : ∃ w6, st9 w5 b4 (.int .i64 x2.disk.size) (.slice po5 x2.disk.pages.length pc5) (.slice co5 x2.disk.cache.length cc5) (.int .i64 x2.disk.left) (.int .i64 x2.frm) (.int .i64 x2.til) (.int .i64 x2.ver) (.int .i64 x2.root) (.slice fo5 x2.free.length fc5) = w6 := ⟨_, rfl⟩;have x6 : Bx w6 b4 (ixC x2.disk po5 co5 pc5 cc5 x2.frm x2.til x2.ver x2.root fo5 x2.free.length fc5) 33 := by subst hw6; exact x5.set9
 have hB7 : Below w.heap.size w w6 := by subst hw6; exact zad hB6 hwb4
 have hX6 : IxT w6 (.agg (ixC x2.disk po5 co5 pc5 cc5 x2.frm x2.til x2.ver x2.root fo5 x2.free.length fc5)) x2 := by subst hw6; exact hR0.only x5 (noS9 _ _ _ _ _ _ _ _ _ _ _ _ _ _ _) (by decide) Only.nine
 have cB := x5.cell;have lB := x5.lt;have fB := x5.free;unfold ixC at cB;clear hG cQ HBw Hc1 cA lA hR0 hL5 hB5 hB6 hb5 x4 x5 e5;unfold st9 st8 at hw6;refine wpAny_ready (rs := [14]) (by kernel_rfl) (by simp) ?_;refine AllReady.cons rfl (fun K hK => ?_) AllReady.nil;go_simp;refine hK _ _ ?_;clear hK K;refine wpAny_ready (rs := [15]) (by kernel_rfl) (by simp) ?_;refine AllReady.cons rfl (fun K hK => ?_) AllReady.nil;go_simp;refine hK _ _ ?_;clear hK K;refine wpAny_done (by kernel_rfl) ?_ _
 (try rw [hw6])
 clear hw6 cB lB fB;have hbr := Below.one w6 (.cells (chgsC awC2).toArray 71);have xr := Bx.new w6 (chgsC awC2).toArray 71;have x7 := x6.alloc (.cells (chgsC awC2).toArray 71);have hB8 := btr hB7 hbr;have hcm := zgJ x2 _ awC2 (some ⟨w6.heap.size, 0, none⟩) 1 _ (hX6.below hbr) (.inr ⟨_, rfl, by decide, by unfold maxLen; decide⟩) (by decide) ((RowAt.bx xr).mono fun b hb => by subst hb; exact xr.lt) (by rw [Hk13.out]; simp);rw [Hk6.out] at hcm;have Hcm := zhI hcm;have hr4 : (x2.root == 4) = true := by rw [Hk5.out]; rfl
 have cB := x6.cell;have lB := x6.lt;unfold ixC at cB;clear hcm hX6 hbr xr;go_wp2_with fail;refine Hcm.out.mono ?_;rintro e w8 ⟨v8, rfl, hX8, hb8⟩;have hX := hX8;obtain ⟨po8, pc8, co8, cc8, fo8, fc8, rfl, -, -, -⟩ := hX8;have x8 := x7.belowAll hb8;have hB9 := btr hB8 hb8;clear cB lB x6 x7 Hcm hb8 hB7 hB8;obtain ⟨w9, hw9⟩ : ∃ w9, st9 w8 b4 (.int .i64 x3.disk.size) (.slice po8 x3.disk.pages.length pc8) (.slice co8 x3.disk.cache.length cc8) (.int .i64 x3.disk.left) (.int .i64 x3.frm) (.int .i64 x3.til) (.int .i64 x3.ver) (.int .i64 x3.root) (.slice fo8 x3.free.length fc8) = w9 := ⟨_, rfl⟩;have x9 : Bx w9 b4 (ixC x3.disk po8 co8 pc8 cc8 x3.frm x3.til x3.ver x3.root fo8 x3.free.length fc8) 33 := by subst hw9; exact x8.set9
 have hB10 : Below w.heap.size w w9 := by subst hw9; exact zad hB9 hwb4
 have hX9 : IxT w9 (.agg (ixC x3.disk po8 co8 pc8 cc8 x3.frm x3.til x3.ver x3.root fo8 x3.free.length fc8)) x3 := by subst hw9; exact hX.only x8 (noS9 _ _ _ _ _ _ _ _ _ _ _ _ _ _ _) (by decide) Only.nine
 have hsc := zmx x3 _ kB ByteArray.empty w9 hX9.v Hk14.out;rw [Hk10.out] at hsc;have Hsc := zhI hsc;have cB := x8.cell;have lB := x8.lt;have fB := x8.free;unfold ixC at cB;have Hw9 := zhI hw9;clear hw9 hsc hX hX9 hB9;go_wp2_with fail;have HW := Hw9.out;unfold st9 st8 at HW;rw [HW];refine Hsc.out.mono ?_;rintro e w10 ⟨hb10, v10, rfl, hP10⟩;obtain ⟨qo, qc, rfl, hqs, hqr⟩ := zkC.at hP10;have x10 := x9.belowAll hb10;have hB11 := btr hB10 hb10;clear HW Hw9 cB lB fB x8 x9 Hsc hb10 hB10 hP10;have hr5 : (x3.root == 5) = true := by rw [Hk7.out]; rfl
 have hv3 : (x3.ver == 3) = true := by rw [Hk8.out]; rfl
 have hl7 : ((x3.free.length : Int) == 7) = true := by rw [Hk9.out]; rfl
 have hbr := Below.one w10 (.cells (kvsC [kvE kB, kvE kC]).toArray 77);have xr := Bx.new w10 (kvsC [kvE kB, kvE kC]).toArray 77;have hsp := zg9 [kvE kB, kvE kC] [kvE kB, kvE kC] qo (some ⟨w10.heap.size, 0, none⟩) qc 2 _ (hqr.below hbr) ((RowAt.bx xr).mono fun b hb => by subst hb; exact xr.lt) (by decide) (by decide);rw [show decide ([kvE kB, kvE kC] = [kvE kB, kvE kC]) = true by simp] at hsp;have Hsp := zhI hsp;have cB := x10.cell;have lB := x10.lt;unfold ixC at cB;clear hsp hqr xr;go_wp2_with fail;refine Hsp.out.mono ?_;rintro e w11 ⟨rfl, hb11⟩;go_wp2;go_ret;exact ⟨rfl, btr (btr hB11 hbr) hb11⟩
end Go.Proofs.YtlefmmhlpgmbjaaGreat
namespace Go.Proofs.YtlefmmhlpgmbjaaGreat
set_option maxRecDepth 100000
open Go.RowKit
set_option maxRecDepth 100000 in
set_option maxHeartbeats 4000000 in
theorem zjr (w : World) (d : Dsk) (v : Value) (hD : DskV w v d) (frm til : Int) :
  Calls Tryz.prog 3 #[v, .int .i64 frm, .int .i64 til] w fun e w' => e = .returned (.bool true) /\ Below w.heap.size w w' := by
 have hD0 := hD;obtain ⟨po, pc, co, cc, rfl⟩ := hD.agg;obtain ⟨N, hN⟩ : ∃ N, w.heap.size = N := ⟨_, rfl⟩;obtain ⟨W1, hW1⟩ : ∃ W1, w.alloc (.cells (dC d po co pc cc) 25) = W1 := ⟨_, rfl⟩;have hB : Below w.heap.size w W1 := by subst hW1; exact Below.one w _
 have x1 : Bx W1 N (dC d po co pc cc) 25 := by subst hW1 hN; exact Bx.new w _ _
 have hV := hD0.below hB;have hg := zlW d _ W1 hV;obtain ⟨g, hgr⟩ : ∃ g, zdX d = g := ⟨_, rfl⟩;rw [hgr] at hg;have Hg := zhI hg;have Hgr := zhI hgr;have c0 := x1.cell;have l0 := x1.lt;unfold dC at c0;clear hg hgr hD hD0;go_enter Tryz.func3, Tryz.ntmps3;go_wp2_with fail;refine Hg.out.mono ?_;rintro e w2 ⟨rfl, hb2⟩;have x1 := x1.belowAll hb2;have hB := btr hB hb2;have hV := hV.below hb2;clear c0 l0 Hg hb2 hW1;cases g with
 | true => go_wp2_with fail;refine (zeB _).mono ?_;rintro e w3 ⟨rfl, hb3⟩;go_wp2;go_ret;exact ⟨rfl, btr hB hb3⟩
 | false =>
  obtain ⟨q1, q2, -, -⟩ := zhg Hgr.out;have c0 := x1.cell;have l0 := x1.lt;unfold dC at c0;obtain ⟨F, er, hF⟩ : ∃ F er, fmtX d frm til = (F, er) := ⟨_, _, rfl⟩;obtain ⟨X, ex, hX⟩ : ∃ X e, openX d frm til = (X, e) := ⟨_, _, rfl⟩;have hf1 := zgw d _ frm til w2 hV (by omega);rw [hF] at hf1;have Hf1 := zhI hf1;have Hq := zhI q2;have HF := zhI hF;have HX := zhI hX;clear hf1 hF hX q1 q2;go_wp2_with fail;refine Hf1.out.mono ?_;rintro e w3 ⟨v3, rfl, hA, hb3⟩;have hA2 := hA;obtain ⟨po1, pc1, co1, cc1, rfl⟩ := hA2.agg;have x1 := x1.belowAll hb3;have hB := btr hB hb3;have hV := hV.below hb3;clear c0 l0 Hf1 hb3 hA2
  (try simp only at hA)
  go_upto_region 4 with fail
  obtain ⟨A, hAe⟩ : ∃ A, w3.heap.size = A := ⟨_, rfl⟩;obtain ⟨w4, hw4⟩ : ∃ w4, w3.alloc (.cells (dC F po1 co1 pc1 cc1) 25) = w4 := ⟨_, rfl⟩;have hb4 := Below.one w3 (.cells (dC F po1 co1 pc1 cc1) 25);have xA := Bx.new w3 (dC F po1 co1 pc1 cc1) 25;rw [hw4] at hb4 xA;have x1 := x1.belowAll hb4;have hB := btr hB hb4;have hV := hV.below hb4;have hA := hA.below hb4;rw [hAe] at xA;simp only [hw4, hAe];clear hb4 hw4 hAe;have c0 := x1.cell;have l0 := x1.lt;unfold dC at c0;have hf2 := zjK d _ frm til w4 hV (by have := Hq.out; omega);rw [HF.out] at hf2;have Hf2 := zhI hf2;clear hf2;go_wp2_with fail;refine Hf2.out.mono ?_;rintro e w5 ⟨v5, rfl, hC, hb5⟩;have hC2 := hC;obtain ⟨po2, pc2, co2, cc2, rfl⟩ := hC2.agg;have x1 := x1.belowAll hb5;have xA := xA.belowAll hb5;have hB := btr hB hb5;have hV := hV.below hb5;have hA := hA.below hb5;clear c0 l0 Hf2 hb5 hC2
  (try simp only at hC)
  go_upto_region 5 with fail
  obtain ⟨C, hCe⟩ : ∃ A, w5.heap.size = A := ⟨_, rfl⟩;obtain ⟨w6, hw6⟩ : ∃ w6, w5.alloc (.cells (dC F po2 co2 pc2 cc2) 25) = w6 := ⟨_, rfl⟩;have hb6 := Below.one w5 (.cells (dC F po2 co2 pc2 cc2) 25);have xC := Bx.new w5 (dC F po2 co2 pc2 cc2) 25;rw [hw6] at hb6 xC;have x1 := x1.belowAll hb6;have xA := xA.belowAll hb6;have hB := btr hB hb6;have hV := hV.below hb6;have hA := hA.below hb6;have hC := hC.below hb6;rw [hCe] at xC;simp only [hw6, hCe];clear hb6 hw6 hCe;have c0 := x1.cell;have l0 := x1.lt;unfold dC at c0;have ho1 := zjQ d _ frm til w6 hV;rw [zjy, HX.out] at ho1;have Ho1 := zhI ho1;clear ho1;go_wp2_with fail;refine Ho1.out.mono ?_;rintro e w7 ⟨v7, rfl, hY, hb7⟩;have x1 := x1.belowAll hb7;have xA := xA.belowAll hb7;have xC := xC.belowAll hb7;have hB := btr hB hb7;have hV := hV.below hb7;have hA := hA.below hb7;have hC := hC.below hb7;clear c0 l0 Ho1 hb7
  (try simp only at hY)
  have hY2 := hY;obtain ⟨po3, pc3, co3, cc3, fo3, fc3, rfl, -, -, -⟩ := hY2;go_upto_region 6 with fail
  obtain ⟨Y, hYe⟩ : ∃ A, w7.heap.size = A := ⟨_, rfl⟩;obtain ⟨w8, hw8⟩ : ∃ w8, w7.alloc (.cells (ixC X.disk po3 co3 pc3 cc3 X.frm X.til X.ver X.root fo3 X.free.length fc3) 33) = w8 := ⟨_, rfl⟩;have hb8 := Below.one w7 (.cells (ixC X.disk po3 co3 pc3 cc3 X.frm X.til X.ver X.root fo3 X.free.length fc3) 33);have xY := Bx.new w7 (ixC X.disk po3 co3 pc3 cc3 X.frm X.til X.ver X.root fo3 X.free.length fc3) 33;rw [hw8] at hb8 xY;have x1 := x1.belowAll hb8;have xA := xA.belowAll hb8;have xC := xC.belowAll hb8;have hB := btr hB hb8;have hV := hV.below hb8;have hA := hA.below hb8;have hC := hC.below hb8;have hY := hY.below hb8;rw [hYe] at xY;simp only [hw8, hYe];clear hb8 hw8 hYe;have c0 := x1.cell;have l0 := x1.lt;unfold dC at c0;have ho2 := zmu d _ frm til w8 hV;rw [HX.out] at ho2;have Ho2 := zhI ho2;clear ho2;go_wp2_with fail;refine Ho2.out.mono ?_;rintro e w9 ⟨v9, rfl, hZ, hb9⟩;have xA := xA.belowAll hb9;have xC := xC.belowAll hb9;have xY := xY.belowAll hb9;have hB := btr hB hb9;have hA := hA.below hb9;have hC := hC.below hb9;have hY := hY.below hb9;clear c0 l0 Ho2 hb9 x1 hV
  (try simp only at hZ)
  have hZ2 := hZ;obtain ⟨po4, pc4, co4, cc4, fo4, fc4, rfl, -, -, -⟩ := hZ2;go_upto_region 7 with fail
  obtain ⟨Z, hZe⟩ : ∃ A, w9.heap.size = A := ⟨_, rfl⟩;obtain ⟨wa, hwa⟩ : ∃ wa, w9.alloc (.cells (ixC X.disk po4 co4 pc4 cc4 X.frm X.til X.ver X.root fo4 X.free.length fc4) 33) = wa := ⟨_, rfl⟩;have hba := Below.one w9 (.cells (ixC X.disk po4 co4 pc4 cc4 X.frm X.til X.ver X.root fo4 X.free.length fc4) 33);have xZ := Bx.new w9 (ixC X.disk po4 co4 pc4 cc4 X.frm X.til X.ver X.root fo4 X.free.length fc4) 33;rw [hwa] at hba xZ;have xA := xA.belowAll hba;have xC := xC.belowAll hba;have xY := xY.belowAll hba;have hB := btr hB hba;have hA := hA.below hba;have hC := hC.below hba;have hY := hY.below hba;have hZ := hZ.below hba;rw [hZe] at xZ;simp only [hwa, hZe];clear hba hwa hZe;have cA := xA.cell;have lA := xA.lt;have cC := xC.cell;have lC := xC.lt;unfold dC at cA cC;have hs1 := zmh F _ _ wa hA hC;have Hs1 := zhI hs1;have e1 : (er == er) = true := by simp
  have e2 : (ex == ex) = true := by simp
  clear hs1;go_wp2_with fail;refine Hs1.out.mono ?_;rintro e wb ⟨rfl, hbb⟩;have xY := xY.belowAll hbb;have xZ := xZ.belowAll hbb;have hB := btr hB hbb;have hs2 := zl9 X _ _ wb (hY.below hbb).v (hZ.below hbb).v;have Hs2 := zhI hs2;clear cA lA cC lC Hs1 hs2 hA hC hY hZ;have cA := xY.cell;have lA := xY.lt;have cC := xZ.cell;have lC := xZ.lt;unfold ixC at cA cC;go_wp2_with fail;refine Hs2.out.mono ?_;rintro e wc ⟨rfl, hbc⟩;have hB := btr hB hbc;clear cA lA cC lC Hs2;go_wp2_with fail;refine (zeB _).mono ?_;rintro e w3 ⟨rfl, hb3⟩;go_wp2;go_ret;exact ⟨rfl, btr hB hb3⟩
end Go.Proofs.YtlefmmhlpgmbjaaGreat
namespace Go.Proofs.YtlefmmhlpgmbjaaGreat
set_option maxRecDepth 100000
open Go.RowKit Go.ChangeShapes Go.WideShapes
section
variable {H : Type} {enc : TypeId × Value -> H} {W : World} {base : Nat} {sp : Nat -> Bool} {held : Bool}
theorem zbQ {P : Program} {e : TypeId} : ∀ {l : List (DataW H)} {d : DataW H}, d ∈ l -> ∀ n ∈ d.weights P e, n ∈ DataW.weightsAll P e l
 | x :: l, d, h, n, hn => by
  rw [DataW.weightsAll, zmA];rcases zmC.1 h with rfl | h
  . exact .inl hn
  . exact .inr (zbQ h n hn)
theorem zep {P : Program} {e : TypeId} (bs : List UInt8) : (DataW.lit (.string bs) : DataW H).weights P e = [bs.length] := by rw [DataW.weights]
theorem zdR : Tryz.prog.cellsOf 9 = 1 := by kernel_rfl
theorem zhT : Tryz.prog.cellsOf 3 = 1 := by kernel_rfl
theorem zjk : Tryz.prog.cellsOf 80 = 2 := by kernel_rfl
theorem zgG : Tryz.prog.cellsOf 25 = 4 := by kernel_rfl
theorem zkR : Tryz.prog.bytesOf 9 = 16 := by kernel_rfl
theorem zlV : Tryz.prog.bytesOf 80 = 24 := by kernel_rfl
theorem zgL {w : World} {a : Addr} {v : Value} (h : w.cell? a = some v) : ∃ b off, a = ⟨b, off, none⟩ := by
 have := World.cell?_spot h;cases a; cases this; exact ⟨_, _, rfl⟩
theorem open_strs {n : Nat} {v : Value} {y : DataW H × List MemPlace} (h : DataW.trod enc Tryz.prog W base sp held n 22 [v] = some y) (hw : ∀ k ∈ y.1.weights Tryz.prog 22, k <= reachBytes) :
  ∃ (o : Option Addr) (l : List ByteArray) (c : Nat), v = .slice o l.length c /\ SlW o l.length c /\ zaP (· < W.heap.size) W o l /\ l.length * 16 <= 140737488351232 /\ ∀ s ∈ l, s.size <= 140737488351232 := by
 rcases open_strings Tryz.underlying22 Tryz.underlying9 zdR h with ⟨e, _⟩ | ⟨a, len, cap, ss, e, hb, hl, hm, hss, hx, hcell, _⟩
 . cases e;exact ⟨none, [], 0, rfl, .inl ⟨rfl, rfl, rfl⟩, by intro i hi; simp at hi, by simp, by simp⟩
 .
  cases e;have hle : len <= ss.length := by rw [hss]; split <;> omega
  have hlen : (ss.take len).length = len := by simp; omega
  rw [hx] at hw;have e1 := hw _ (by rw [DataW.weights, Tryz.underlying22]; exact List.mem_cons_self);rw [zkR] at e1;simp [strs, reachBytes] at e1;refine ⟨some a, ss.take len, cap, by rw [hlen], .inr ⟨a, rfl, by rw [hlen]; exact hl, hm⟩, ?_, by rw [hlen]; omega, ?_⟩
  . intro i hi;rw [hlen] at hi;have h0 := hcell 0 (by omega);obtain ⟨b, off, rfl⟩ := zgL (a := a) (by simpa [Addr.add] using h0);have hc := hcell i (by omega);rw [Addr.add_lit] at hc;refine ⟨b, off, rfl, ?_, World.block_lt_of_cell? W _ hc⟩;rw [hc];simp [List.getD, List.getElem?_eq_getElem (show i < ss.length by omega)]
  .
   intro s hs;have := hw s.size (by
    rw [DataW.weights, Tryz.underlying22];refine List.mem_cons_of_mem _ (zmA.2 (.inl (zbQ (d := .lit (.string s.data.toList)) ?_ _ ?_)))
    . exact List.mem_map.2 ⟨s, hs, rfl⟩
    . rw [zep]; exact zmS.2 (by simp))
   exact this
theorem zl8 {n : Nat} {v : Value} {y : DataW H × List MemPlace} (h : DataW.trod enc Tryz.prog W base sp held n 23 [v] = some y) (hw : ∀ k ∈ y.1.weights Tryz.prog 23, k <= reachBytes) :
  ∃ (o : Option Addr) (l : List PW) (c : Nat), v = .slice o l.length c /\ SlW o l.length c /\ PWsAt (· < W.heap.size) W o l /\ l.length * 24 <= 140737488351232 /\ ∀ x ∈ l, x.data.size <= 140737488351232 := by
 rcases Deep.open_slice_pairs Tryz.underlying23 Tryz.underlying80 zjk rfl rfl zhT zdR h with ⟨e, _⟩ | ⟨a, len, cap, m, n, V0, V1, D0, D1, P0, P1, e, hb, hl, hm, hmm, hx, hall⟩
 . cases e;exact ⟨none, [], 0, rfl, .inl ⟨rfl, rfl, rfl⟩, by intro i hi; simp at hi, by simp, by simp⟩
 .
  cases e;have hle : len <= m := by rw [hmm]; split <;> omega
  rw [hx] at hw;have e1 := hw _ (by rw [DataW.weights, Tryz.underlying23]; exact List.mem_cons_self);rw [zlV] at e1;simp [reachBytes] at e1;have each : ∀ i, i < len -> ∃ x : Int × ByteArray, W.cell? (a.add (i * 2)) = some (.int .i64 x.1) /\ W.cell? (a.add (i * 2 + 1)) = some (.string x.2) /\ D1 i = .lit (.string x.2.data.toList) := by intro i hi;obtain ⟨c0, c1, t0, t1⟩ := hall i (by omega);obtain ⟨q, e0, _, _⟩ := DataW.trod_int Tryz.underlying3 t0;obtain ⟨s, e1, e2, _⟩ := DataW.trod_string Tryz.underlying9 t1;exact ⟨(q, s), by rw [c0, (List.cons.inj e0).1], by rw [c1, (List.cons.inj e1).1], congrArg Prod.fst e2⟩
  obtain ⟨X, hX⟩ := Deep.choose_lt each;refine ⟨some a, (List.range len).map (fun i => ⟨(X i).1, (X i).2⟩), cap, by simp, .inr ⟨a, rfl, by simpa using hl, hm⟩, ?_, by simp; omega, ?_⟩
  .
   intro i hi;have hi' : i < len := by simpa using hi
   obtain ⟨c0, c1, _⟩ := hX i hi';have hz := (hX 0 (by omega)).1;obtain ⟨b, off, rfl⟩ := zgL (a := a) (by simpa [Addr.add] using hz);rw [Addr.add_lit] at c0 c1;exact ⟨b, off, rfl, by simpa using c0, by simpa [Nat.add_assoc] using c1, World.block_lt_of_cell? W _ c0⟩
  .
   intro x hx';obtain ⟨i, hi, rfl⟩ := List.mem_map.1 hx';have hi' : i < len := by simpa using hi
   have := hw (X i).2.size (by
    rw [DataW.weights, Tryz.underlying23];refine List.mem_cons_of_mem _ (zmA.2 (.inl (zbQ (d := .agg [D0 i, D1 i]) (List.mem_map.2 ⟨i, hi, rfl⟩) _ ?_)));rw [DataW.weights, Tryz.underlying80, (hX i hi').2.2];refine DataW.weights_mem_each (j := 1) (t := 9) (d := .lit (.string (X i).2.data.toList)) rfl rfl _ ?_;rw [zep]; exact zmS.2 (by simp))
   exact this
set_option maxRecDepth 100000 in
theorem zj1 {r : Reach} {b0 : Nat} {v : Value} {d : DataW H} {p : List MemPlace} (hv : Value.okWide Tryz.prog W r b0 25 v) (h : DataW.Trod enc Tryz.prog W base sp held 25 v d p) (hw : ∀ k ∈ d.weights Tryz.prog 25, k <= reachBytes) :
  ∃ x : Dsk, DskR (· < W.heap.size) W v x := by
 obtain ⟨v0, v1, v2, v3, y0, y1, y2, y3, n, rfl, rfl, _, h0, h1, h2, h3⟩ := Go.Joins.open_agg4 Tryz.underlying25 (by kernel_rfl) zgG hv h;rw [DataW.weights, Tryz.underlying25] at hw;obtain ⟨size, e0, _, _⟩ := DataW.trod_int Tryz.underlying3 h0;obtain ⟨left, e3, _, wl⟩ := DataW.trod_int Tryz.underlying3 h3;obtain rfl := (List.cons.inj e0).1;obtain rfl := (List.cons.inj e3).1;obtain ⟨po, pages, pc, rfl, s1, a1, l1, z1⟩ := open_strs h1 (fun k hk => hw k (DataW.weights_mem_each (j := 1) (t := 22) rfl rfl k hk));obtain ⟨co, cache, cc, rfl, s2, a2, l2, z2⟩ := zl8 h2 (fun k hk => hw k (DataW.weights_mem_each (j := 2) (t := 23) rfl rfl k hk));refine ⟨⟨size, pages, cache, left⟩, po, pc, co, cc, rfl, a1, a2, ⟨s1, s2, by simp only; omega, by simp only; omega, z1, z2, ?_⟩⟩;simpa [Lit.wf, IntKind.min, IntKind.max, IntKind.signed, IntKind.bits] using wl
end
end Go.Proofs.YtlefmmhlpgmbjaaGreat
