/- law 42's 'awake': it returns true. law BtreeReads: the walk. Acts of layer 42 in memory; law42.fits, Fine. An argument of type api.Disk (layer 40), a slice of ints, a string: opened: what it is in plain Lean. Arguments of layer 42: acts, runs: opened. An argument of type api.Index, opened. An argument of type string, opened. -/
import Derived.Test.YtlefmmhlpgmbjaaGreatS28
import Derived.Test.YtlefmmhlpgmbjaaGreatS25
import Derived.Test.YtlefmmhlpgmbjaaGreatS29
import Derived.Test.YtlefmmhlpgmbjaaGreatS02
import Derived.Test.YtlefmmhlpgmbjaaGreatS26
import Derived.Test.YtlefmmhlpgmbjaaGreatS01
import Derived.SizedLaws
import Derived.Lib.SmallJoins
import Derived.Deep.SlicePairs
import Derived.SliceStrings
import Derived.Test.YtlefmmhlpgmbjaaGreatProg
import Derived.Test.YtlefmmhlpgmbjaaGreatS05
import Derived.Test.YtlefmmhlpgmbjaaGreatS10
import Derived.ChangeMaps5
namespace Go.Proofs.YtlefmmhlpgmbjaaGreat
set_option maxRecDepth 100000
open Go.RowKit Go.Shelf
theorem znm (p s : Int) (w : World) {d : Dsk} {er : Int} (h : newD p s = (d, er)) : Calls Tryz.prog 28 #[.int .i64 p, .int .i64 s] w (RetVE w d er) := by
 refine (zlG (S := (· < w.heap.size)) p s w).mono ?_;rintro e w' ⟨v', rfl, h1, hb⟩;rw [h] at h1 |-;exact ⟨v', rfl, .of h1 (zjA hb), hb⟩
set_option maxHeartbeats 800000 in
theorem ziQ (k : ByteArray) (w : World) : Calls Tryz.prog 42 #[.string k] w fun e w' => e = .returned (.agg #[.string k, .bool false, .bool true, .string ByteArray.empty, .string ByteArray.empty]) /\ Below w.heap.size w w' := by
 go_enter Tryz.func42, Tryz.ntmps42;go_wp2;refine bodyPost_ret (v := .agg #[.string k, .bool false, .bool true, .string ByteArray.empty, .string ByteArray.empty]) (by simp [results, Tryz.results42, go_sem]; rfl) rfl ?_;exact ⟨rfl, Below.one _ _⟩
def annXE (x : Ix) (er : Int) : Ann := ⟨fun r => .tuple #[r.x 0, .int .i64 er], fun r W => IxT W (r.x 0) x⟩
theorem lz_xe {f : FuncId} {args : Array Value} {r : Ix × Int} {W : World} (h : Calls Tryz.prog f args W (RetXV W r)) : Calls Tryz.prog f args W fun e w' => ∃ u, e = .returned u /\ zcL (annXE r.1 r.2) W u w' := by
 refine h.mono ?_;rintro e w' ⟨v, rfl, hv, hb⟩;exact ⟨_, rfl, hb, fun _ => v, rfl, fun w'' hb' => hv.below hb'⟩
set_option maxRecDepth 100000 in
set_option maxHeartbeats 4000000 in
theorem zcU (w : World) : Calls Tryz.prog 13 #[] w fun e w' => e = .returned (.bool true) /\ Below w.heap.size w w' := by
 obtain ⟨d0, d1, x1, x2, x3, k1, k2, k3, k4, k5, k6, k7, k8, k9, k10, k11, k12, k13, k14⟩ := zkZ;have hnew := znm 10 512 w k1;have Hk2 := zhI k2;have Hk3 := zhI k3;have Hk4 := zhI k4;have Hk5 := zhI k5;have Hk6 := zhI k6;have Hk7 := zhI k7;have Hk8 := zhI k8;have Hk9 := zhI k9;have Hk10 := zhI k10;have Hk11 := zhI k11;have Hk12 := zhI k12;have Hk13 := zhI k13;have Hk14 := zhI k14;clear k1 k2 k3 k4 k5 k6 k7 k8 k9 k10 k11 k12 k13 k14;go_enter Tryz.func13, Tryz.ntmps13;go_wp2_with fail;refine hnew.mono ?_;rintro e w1 ⟨v1, rfl, hM1, hb1⟩;have hM := hM1;obtain ⟨po1, pc1, co1, cc1, rfl⟩ := hM1.agg;have x1b := Bx.new w1 (dC d0 po1 co1 pc1 cc1) 25;have hBo := Below.one w1 (.cells (dC d0 po1 co1 pc1 cc1) 25);have hV1 := hM.below hBo;have hB1 := btr hb1 hBo;obtain ⟨b1, hb1e⟩ : ∃ b1, w1.heap.size = b1 := ⟨_, rfl⟩;have hwb : w.heap.size <= b1 := by have := hb1.size; omega
 obtain ⟨W1, hW1⟩ : ∃ W1, w1.alloc (.cells (dC d0 po1 co1 pc1 cc1) 25) = W1 := ⟨_, rfl⟩;rw [hW1, hb1e] at x1b;rw [hW1] at hV1 hB1;have hfm := zkf d0 _ 0 10 W1 hV1 (by rw [Hk11.out]; simp);rw [Hk2.out] at hfm;clear hnew hBo hM hM1 hb1 hV1;have cA := x1b.cell;have lA := x1b.lt;go_wp2_with fail;refine hfm.mono ?_;rintro e w2 ⟨v2, rfl, hM2, hb2⟩;have hM := hM2;obtain ⟨po2, pc2, co2, cc2, rfl⟩ := hM2.agg;have x2b := x1b.belowAll hb2;have hB2 := btr hB1 hb2;clear cA lA x1b hB1 hW1 hfm hM2 hb2;have cA := x2b.cell;have lA := x2b.lt;have fA := x2b.free;obtain ⟨w3, hw3⟩ : ∃ w3, st4 w2 b1 (.int .i64 d1.size) (.slice po2 d1.pages.length pc2) (.slice co2 d1.cache.length cc2) (.int .i64 d1.left) = w3 := ⟨_, rfl⟩;have x3b : Bx w3 b1 (dC d1 po2 co2 pc2 cc2) 25 := by subst hw3; exact x2b.st4
 have hB3 : Below w.heap.size w w3 := by subst hw3; exact zbb hB2 hwb
 have hV3 : DskV w3 (.agg (dC d1 po2 co2 pc2 cc2)) d1 := by subst hw3; exact hM.only x2b (zfl _ _ _ _ _) zb5
 have hop := zmM d1 _ 0 10 w3 hV3;rw [Hk3.out] at hop;have Hw3 := zhI hw3;have Hop := zhI hop;clear hw3 hM hV3 hB2 hop x3b;go_wp2_with fail;have HW := Hw3.out;unfold st4 at HW;rw [HW];refine Hop.out.mono ?_;rintro e w4 ⟨v4, rfl, hL4, hb4⟩;have hL := hL4;obtain ⟨po4, pc4, co4, cc4, fo4, fc4, rfl, _, _, _⟩ := hL4;have hB4 := btr hB3 hb4;clear HW Hw3 cA lA fA x2b hB3 hb4;have x4 := Bx.new w4 (ixC x1.disk po4 co4 pc4 cc4 x1.frm x1.til x1.ver x1.root fo4 x1.free.length fc4) 33;have hBo := Below.one w4 (.cells (ixC x1.disk po4 co4 pc4 cc4 x1.frm x1.til x1.ver x1.root fo4 x1.free.length fc4) 33);obtain ⟨b4, hb4e⟩ : ∃ b4, w4.heap.size = b4 := ⟨_, rfl⟩;have hwb4 : w.heap.size <= b4 := by have := hB4.size; omega
 obtain ⟨W4, hW4⟩ : ∃ W4, w4.alloc (.cells (ixC x1.disk po4 co4 pc4 cc4 x1.frm x1.til x1.ver x1.root fo4 x1.free.length fc4) 33) = W4 := ⟨_, rfl⟩;rw [hW4, hb4e] at x4;rw [hW4] at hBo;have hB5 := btr hB4 hBo;have hL5 := hL.below hBo;go_upto_region 5 with fail
 clear hL hBo hB4 hW4 Hop;have Hc1 : Hid (∀ W v, Below W4.heap.size W4 W -> ∀ o, zdn W o awC1 -> SlW o 4 4 -> v = .agg (ixC x1.disk po4 co4 pc4 cc4 x1.frm x1.til x1.ver x1.root fo4 x1.free.length fc4) -> Calls Tryz.prog 36 #[v, .slice o 4 4] W (RetXV W (x2, 0))) := zhI (by
  rintro W v hb o ho hs rfl;have := zg2 x1 _ awC1 o 4 W (hL5.below hb) hs (by decide) ho (by rw [Hk12.out]; simp);rw [Hk4.out] at this;exact this)
 have cA := x4.cell;have lA := x4.lt;have cQ := Lat.cells W4;have HBw : Hid (∀ y : Lat W4, Below W4.heap.size W4 y.w) := zhI (fun y => y.h);refine zbS 14 13 2 #[true, true, true, true, true, true, true, true, true, true, true, true, true, false, false, false] #[true, true, true, true, true, true, true, true, true, true, true, true, true, true, false, false] (fun i => if i = 2 then some (annK (.agg #[.string kA, .bool false, .bool true, .string ByteArray.empty, .string ByteArray.empty])) else if i = 4 then some (annK (.agg #[.string kB, .bool false, .bool true, .string ByteArray.empty, .string ByteArray.empty])) else if i = 6 then some (annK (.agg #[.string kC, .bool false, .bool true, .string ByteArray.empty, .string ByteArray.empty])) else if i = 8 then some (annK (.agg #[.string kD, .bool false, .bool true, .string ByteArray.empty, .string ByteArray.empty])) else if i = 9 then some (zdY 4 (chgsC awC1) 71) else if i = 10 then some (annXE x2 0) else none) _ (by kernel_rfl) rfl (by rfl) (by rfl) (by kernel_rfl) (by rfl) rfl (fun _ _ _ _ h => h) (zcr _ _ rfl) ?_;simp only [List.take_succ_cons, List.take_zero];refine LW.block 2 2 (by rfl) (by kernel_rfl) (by kernel_rfl) ?_;simp only [ztP]
 repeat (first | go_big_quiet_skip | (go_big_quiet_want; go_big_quiet_op; go_big_quiet_on))
 refine wpQuiet_nil ?_;refine LW.lzy _ (by rfl) (by rfl) ?_ ?_
 . intro yL _;unfold lzAt;go_simp;exact zaH (ziQ _ _)
 intro _;simp only [Act.put, zsP]
 (try simp only [annK])
 refine LW.block 1 4 (by rfl) (by kernel_rfl) (by kernel_rfl) ?_;simp only [ztP]
 repeat (first | go_big_quiet_skip | (go_big_quiet_want; go_big_quiet_op; go_big_quiet_on))
 refine wpQuiet_nil ?_;refine LW.lzy _ (by rfl) (by rfl) ?_ ?_
 . intro yL _;unfold lzAt;go_simp;exact zaH (ziQ _ _)
 intro _;simp only [Act.put, zsP]
 (try simp only [annK])
 refine LW.block 1 6 (by rfl) (by kernel_rfl) (by kernel_rfl) ?_;simp only [ztP]
 repeat (first | go_big_quiet_skip | (go_big_quiet_want; go_big_quiet_op; go_big_quiet_on))
 refine wpQuiet_nil ?_;refine LW.lzy _ (by rfl) (by rfl) ?_ ?_
 . intro yL _;unfold lzAt;go_simp;exact zaH (ziQ _ _)
 intro _;simp only [Act.put, zsP]
 (try simp only [annK])
 refine LW.block 1 8 (by rfl) (by kernel_rfl) (by kernel_rfl) ?_;simp only [ztP]
 repeat (first | go_big_quiet_skip | (go_big_quiet_want; go_big_quiet_op; go_big_quiet_on))
 refine wpQuiet_nil ?_;refine LW.lzy _ (by rfl) (by rfl) ?_ ?_
 . intro yL _;unfold lzAt;go_simp;exact zaH (ziQ _ _)
 intro _;simp only [Act.put, zsP]
 (try simp only [annK])
 refine LW.lzy _ (by rfl) (by rfl) ?_ ?_
 . intro yL hf;unfold lzAt;go_simp;exact ⟨Below.one _ _, fun _ => undef, rfl, fun w'' hb => (Bx.new yL.w _ _).belowAll hb⟩
 intro r9;simp only [Act.put, zsP];refine LW.lzy _ (by rfl) (by rfl) ?_ ?_
 .
  intro yL hf;have h9 : Bx yL.w r9.lo (chgsC awC1).toArray 71 := (hf 9 (by decide +kernel)).get (by rfl) (by rfl);unfold lzAt;simp only [zdY];go_simp;have ho : zdn yL.w (some ⟨r9.lo, 0, none⟩) awC1 := (RowAt.bx h9).mono fun b hb => by subst hb; exact h9.lt
  exact lz_xe (Hc1.out yL.w _ (HBw.out _) _ ho (.inr ⟨_, rfl, by decide, by unfold maxLen; decide⟩) rfl)
 intro r10;simp only [Act.put, zsP, annXE];refine LW.block 3 14 (by rfl) (by kernel_rfl) (by kernel_rfl) ?_;simp only [ztP]
 repeat (first | go_big_quiet_skip | (go_big_quiet_want; go_big_quiet_op; go_big_quiet_on))
 refine wpQuiet_nil ?_;refine LW.done ?_;intro w5 hG;have hR : IxT w5 (r10.x 0) x2 := hG.get 10 rfl rfl;have hb5 := hG.below;have hR0 := hR;obtain ⟨po5, pc5, co5, cc5, fo5, fc5, e5, -, -, -⟩ := hR;rw [e5] at hR0 |-;have x5 := x4.belowAll hb5;have hB6 := btr hB5 hb5;obtain ⟨w6, hw6⟩ : ∃ w6, st9 w5 b4 (.int .i64 x2.disk.size) (.slice po5 x2.disk.pages.length pc5) (.slice co5 x2.disk.cache.length cc5) (.int .i64 x2.disk.left) (.int .i64 x2.frm) (.int .i64 x2.til) (.int .i64 x2.ver) (.int .i64 x2.root) (.slice fo5 x2.free.length fc5) = w6 := ⟨_, rfl⟩;have x6 : Bx w6 b4 (ixC x2.disk po5 co5 pc5 cc5 x2.frm x2.til x2.ver x2.root fo5 x2.free.length fc5) 33 := by subst hw6; exact x5.set9
 have hB7 : Below w.heap.size w w6 := by subst hw6; exact zad hB6 hwb4
 have hX6 : IxT w6 (.agg (ixC x2.disk po5 co5 pc5 cc5 x2.frm x2.til x2.ver x2.root fo5 x2.free.length fc5)) x2 := by subst hw6; exact hR0.only x5 (noS9 _ _ _ _ _ _ _ _ _ _ _ _ _ _ _) (by decide) Only.nine
 have cB := x5.cell;have lB := x5.lt;have fB := x5.free;unfold ixC at cB;clear hG cQ HBw Hc1 cA lA hR0 hL5 hB5 hB6 hb5 x4 x5 e5;unfold st9 st8 at hw6;refine wpAny_ready (rs := [14]) (by kernel_rfl) (by simp) ?_;refine AllReady.cons rfl (fun K hK => ?_) AllReady.nil;go_simp;refine hK _ _ ?_;clear hK K;refine wpAny_ready (rs := [15]) (by kernel_rfl) (by simp) ?_;refine AllReady.cons rfl (fun K hK => ?_) AllReady.nil;go_simp;refine hK _ _ ?_;clear hK K;refine wpAny_done (by kernel_rfl) ?_ _
 (try rw [hw6])
 clear hw6 cB lB fB;have hbr := Below.one w6 (.cells (chgsC awC2).toArray 71);have xr := Bx.new w6 (chgsC awC2).toArray 71;have x7 := x6.alloc (.cells (chgsC awC2).toArray 71);have hB8 := btr hB7 hbr;have hcm := zg2 x2 _ awC2 (some ⟨w6.heap.size, 0, none⟩) 1 _ (hX6.below hbr) (.inr ⟨_, rfl, by decide, by unfold maxLen; decide⟩) (by decide) ((RowAt.bx xr).mono fun b hb => by subst hb; exact xr.lt) (by rw [Hk13.out]; simp);rw [Hk6.out] at hcm;have Hcm := zhI hcm;have hr4 : (x2.root == 4) = true := by rw [Hk5.out]; rfl
 have cB := x6.cell;have lB := x6.lt;unfold ixC at cB;clear hcm hX6 hbr xr;go_wp2_with fail;refine Hcm.out.mono ?_;rintro e w8 ⟨v8, rfl, hX8, hb8⟩;have hX := hX8;obtain ⟨po8, pc8, co8, cc8, fo8, fc8, rfl, -, -, -⟩ := hX8;have x8 := x7.belowAll hb8;have hB9 := btr hB8 hb8;clear cB lB x6 x7 Hcm hb8 hB7 hB8;obtain ⟨w9, hw9⟩ : ∃ w9, st9 w8 b4 (.int .i64 x3.disk.size) (.slice po8 x3.disk.pages.length pc8) (.slice co8 x3.disk.cache.length cc8) (.int .i64 x3.disk.left) (.int .i64 x3.frm) (.int .i64 x3.til) (.int .i64 x3.ver) (.int .i64 x3.root) (.slice fo8 x3.free.length fc8) = w9 := ⟨_, rfl⟩;have x9 : Bx w9 b4 (ixC x3.disk po8 co8 pc8 cc8 x3.frm x3.til x3.ver x3.root fo8 x3.free.length fc8) 33 := by subst hw9; exact x8.set9
 have hB10 : Below w.heap.size w w9 := by subst hw9; exact zad hB9 hwb4
 have hX9 : IxT w9 (.agg (ixC x3.disk po8 co8 pc8 cc8 x3.frm x3.til x3.ver x3.root fo8 x3.free.length fc8)) x3 := by subst hw9; exact hX.only x8 (noS9 _ _ _ _ _ _ _ _ _ _ _ _ _ _ _) (by decide) Only.nine
 have hsc := zkX x3 _ kB ByteArray.empty w9 hX9.v Hk14.out;rw [Hk10.out] at hsc;have Hsc := zhI hsc;have cB := x8.cell;have lB := x8.lt;have fB := x8.free;unfold ixC at cB;have Hw9 := zhI hw9;clear hw9 hsc hX hX9 hB9;go_wp2_with fail;have HW := Hw9.out;unfold st9 st8 at HW;rw [HW];refine Hsc.out.mono ?_;rintro e w10 ⟨hb10, v10, rfl, hP10⟩;obtain ⟨qo, qc, rfl, hqs, hqr⟩ := ziv.at hP10;have x10 := x9.belowAll hb10;have hB11 := btr hB10 hb10;clear HW Hw9 cB lB fB x8 x9 Hsc hb10 hB10 hP10;have hr5 : (x3.root == 5) = true := by rw [Hk7.out]; rfl
 have hv3 : (x3.ver == 3) = true := by rw [Hk8.out]; rfl
 have hl7 : ((x3.free.length : Int) == 7) = true := by rw [Hk9.out]; rfl
 have hbr := Below.one w10 (.cells (kvsC [kvE kB, kvE kC]).toArray 77);have xr := Bx.new w10 (kvsC [kvE kB, kvE kC]).toArray 77;have hsp := zdT [kvE kB, kvE kC] [kvE kB, kvE kC] qo (some ⟨w10.heap.size, 0, none⟩) qc 2 _ (hqr.below hbr) ((RowAt.bx xr).mono fun b hb => by subst hb; exact xr.lt) (by decide) (by decide);rw [show decide ([kvE kB, kvE kC] = [kvE kB, kvE kC]) = true by simp] at hsp;have Hsp := zhI hsp;have cB := x10.cell;have lB := x10.lt;unfold ixC at cB;clear hsp hqr xr;go_wp2_with fail;refine Hsp.out.mono ?_;rintro e w11 ⟨rfl, hb11⟩;go_wp2;go_ret;exact ⟨rfl, btr (btr hB11 hbr) hb11⟩
end Go.Proofs.YtlefmmhlpgmbjaaGreat
namespace Go.Proofs.YtlefmmhlpgmbjaaGreat
set_option maxRecDepth 100000
open Go.RowKit
set_option maxRecDepth 100000 in
set_option maxHeartbeats 4000000 in
theorem zhK (w : World) (x : Ix) (v : Value) (hx : IxV w v x) (key high : ByteArray) :
  Calls Tryz.prog 4 #[v, .string key, .string high] w fun e w' => e = .returned (.bool true) /\ Below w.heap.size w w' := by
 have hx0 := hx;obtain ⟨po, pc, co, cc, fo, fc, rfl, hD, -, -⟩ := hx;obtain ⟨N, hN⟩ : ∃ N, w.heap.size = N := ⟨_, rfl⟩;obtain ⟨W1, hW1⟩ : ∃ W1, w.alloc (.cells (ixC x.disk po co pc cc x.frm x.til x.ver x.root fo x.free.length fc) 33) = W1 := ⟨_, rfl⟩;have hB : Below w.heap.size w W1 := by subst hW1; exact Below.one w _
 have xX : Bx W1 N (ixC x.disk po co pc cc x.frm x.til x.ver x.root fo x.free.length fc) 33 := by subst hW1 hN; exact Bx.new w _ _
 have hV := hx0.below hB;have hg := zlL x.disk _ W1 (hD.below hB);obtain ⟨g, hgr⟩ : ∃ g, zfd x.disk = g := ⟨_, rfl⟩;rw [hgr] at hg;have Hg := zhI hg;have cX := xX.cell;have lX := xX.lt;unfold ixC at cX hW1;clear hg hgr hx0 hD;go_enter Tryz.func4, Tryz.ntmps4;go_wp2_with fail;refine Hg.out.mono ?_;rintro e w2 ⟨rfl, hb2⟩;have xX := xX.belowAll hb2;have hB := btr hB hb2;have hV := hV.below hb2;clear cX lX Hg hb2 hW1;have cX := xX.cell;have lX := xX.lt;unfold ixC at cX;cases g
 case' true => skip
 case' false =>
  cases g1 : decide ((60 : Int) < (x.free.length : Int))
  case' true => skip
  case' false =>
   cases g2 : decide ((100 : Int) < (key.size : Int))
   case' true => skip
   case' false =>
    cases g3 : decide ((100 : Int) < (high.size : Int))
    case' true => skip
    case' false =>
     obtain ⟨G, hG⟩ : ∃ G, getX x key = G := ⟨_, rfl⟩;obtain ⟨S, hS⟩ : ∃ S, scanX x key high = S := ⟨_, rfl⟩;obtain ⟨ck, hck⟩ : ∃ c : Int, (if za7 x = none then 1 else 0) = c := ⟨_, rfl⟩;have C1 := fun W h => znl x (.agg (ixC x.disk po co pc cc x.frm x.til x.ver x.root fo x.free.length fc)) key W h;have C2 := fun W h => znk x (.agg (ixC x.disk po co pc cc x.frm x.til x.ver x.root fo x.free.length fc)) key W h;have C3 := fun W h => zkX x (.agg (ixC x.disk po co pc cc x.frm x.til x.ver x.root fo x.free.length fc)) key high W h (fun t ht => by rw [zb3] at ht; have := (zbI ht).2.2.1; omega);have C4 := fun W h => zmw x (.agg (ixC x.disk po co pc cc x.frm x.til x.ver x.root fo x.free.length fc)) key high W h;have C5 := fun W h => zl0 x (.agg (ixC x.disk po co pc cc x.frm x.til x.ver x.root fo x.free.length fc)) W h (er := ck) (by rw [zb3]; exact hck);have C6 := fun W h => zdj x (.agg (ixC x.disk po co pc cc x.frm x.til x.ver x.root fo x.free.length fc)) W h hck;simp only [zng, hG] at C1;simp only [hG] at C2;simp only [zmg, hS] at C3;simp only [hS] at C4;have C1 := zhI C1;have C2 := zhI C2;have C3 := zhI C3;have C4 := zhI C4;have C5 := zhI C5;have C6 := zhI C6;clear hG hS hck;go_wp2_with fail;refine (C1.out _ hV).mono ?_;rintro e w3 ⟨rfl, hb3⟩;have xX := xX.belowAll hb3;have hB := btr hB hb3;have hV := hV.below hb3;clear cX lX hb3 C1;have cX := xX.cell;have lX := xX.lt;unfold ixC at cX;go_wp2_with fail;refine (C2.out _ hV).mono ?_;rintro e w4 ⟨rfl, hb4⟩;have xX := xX.belowAll hb4;have hB := btr hB hb4;have hV := hV.below hb4;clear cX lX hb4 C2;have cX := xX.cell;have lX := xX.lt;unfold ixC at cX;go_wp2_with fail;refine (C3.out _ hV).mono ?_;rintro e w5 ⟨hb5, v5, rfl, hP⟩;obtain ⟨so, sc, rfl, hs5, hk5⟩ := ziv.at hP;have xX := xX.belowAll hb5;have hB := btr hB hb5;have hV := hV.below hb5;clear cX lX hb5 C3 hP;have cX := xX.cell;have lX := xX.lt;unfold ixC at cX;go_wp2_with fail;refine (C4.out _ hV).mono ?_;rintro e w6 ⟨qo, qc, rfl, hs6, hk6, hb6⟩;have xX := xX.belowAll hb6;have hB := btr hB hb6;have hV := hV.below hb6;have hk5 := hk5.below hb6;clear cX lX hb6 C4;have cX := xX.cell;have lX := xX.lt;unfold ixC at cX;have hl5 := zhB hs5;have HS : Hid (∀ y : Lat w6, Calls Tryz.prog 24 #[.slice so S.1.length sc, .slice qo S.1.length qc] y.w fun e w' => e = .returned (.bool true) /\ Below y.w.heap.size y.w w') := zhI (fun y => by have := zdT S.1 S.1 so qo sc qc y.w (hk5.below y.h) (hk6.below y.h) hl5 hl5;rwa [show decide (S.1 = S.1) = true by simp] at this)
     have H5 : Hid (∀ y : Lat w6, _) := zhI (fun y => C5.out y.w (hV.below y.h));have H6 : Hid (∀ y : Lat w6, _) := zhI (fun y => C6.out y.w (hV.below y.h));unfold ixC at H5 H6;clear hk5 hk6 hs5 hs6 hl5 C5 C6 hV xX;go_upto_region 7 with fail
     have cQ := Lat.cells w6;refine zay (by kernel_rfl) (by kernel_rfl) ?_
     repeat (any_goals (first | go_big_quiet_skip | (go_big_quiet_want; go_big_quiet_op; first | go_big_quiet_on | go_big_quiet_call ((first | (go_at_call 24; exact Calls.lat (HS.out _)) | (go_at_call 25; exact Calls.lat (H5.out _)) | (go_at_call 26; exact Calls.lat (H6.out _)) | (go_at_call 13; exact Calls.lat (zcU _))))) | quiet_step ((first | (go_at_call 24; exact Calls.lat (HS.out _)) | (go_at_call 25; exact Calls.lat (H5.out _)) | (go_at_call 26; exact Calls.lat (H6.out _)) | (go_at_call 13; exact Calls.lat (zcU _))))))
     refine wpQuiet_nil ?_;rintro W9 ⟨⟨_, hb9⟩, rfl⟩;go_wp2;go_ret;exact ⟨rfl, btr hB hb9⟩
 all_goals
  go_wp2_with fail;refine (zcU _).mono ?_;rintro e w3 ⟨rfl, hb3⟩;go_wp2;go_ret;exact ⟨rfl, btr hB hb3⟩
end Go.Proofs.YtlefmmhlpgmbjaaGreat
namespace Go.Proofs.YtlefmmhlpgmbjaaGreat
set_option maxRecDepth 100000
open Go.RowKit Go.ChangeShapes Go.WideShapes
section
variable {H : Type} {enc : TypeId × Value -> H} {W : World} {base : Nat} {sp : Nat -> Bool} {held : Bool}
theorem zbR {P : Program} {e : TypeId} : ∀ {l : List (DataW H)} {d : DataW H}, d ∈ l -> ∀ n ∈ d.weights P e, n ∈ DataW.weightsAll P e l
 | x :: l, d, h, n, hn => by
  rw [DataW.weightsAll, zmA];rcases zmC.1 h with rfl | h
  . exact .inl hn
  . exact .inr (zbR h n hn)
theorem zc1 {P : Program} {e : TypeId} (bs : List UInt8) : (DataW.lit (.string bs) : DataW H).weights P e = [bs.length] := by rw [DataW.weights]
theorem zdU : Tryz.prog.cellsOf 9 = 1 := by kernel_rfl
theorem zbl : Tryz.prog.cellsOf 3 = 1 := by kernel_rfl
theorem ziZ : Tryz.prog.cellsOf 80 = 2 := by kernel_rfl
theorem zdV : Tryz.prog.cellsOf 25 = 4 := by kernel_rfl
theorem zkD : Tryz.prog.bytesOf 9 = 16 := by kernel_rfl
theorem zlR : Tryz.prog.bytesOf 80 = 24 := by kernel_rfl
theorem zkI : Tryz.prog.bytesOf 3 = 8 := by kernel_rfl
theorem zeE {w : World} {a : Addr} {v : Value} (h : w.cell? a = some v) : ∃ b off, a = ⟨b, off, none⟩ := by
 have := World.cell?_spot h;cases a; cases this; exact ⟨_, _, rfl⟩
theorem open_strs {n : Nat} {v : Value} {y : DataW H × List MemPlace} (h : DataW.trod enc Tryz.prog W base sp held n 22 [v] = some y) (hw : ∀ k ∈ y.1.weights Tryz.prog 22, k <= reachBytes) :
  ∃ (o : Option Addr) (l : List ByteArray) (c : Nat), v = .slice o l.length c /\ SlW o l.length c /\ zaS (· < W.heap.size) W o l /\ l.length * 16 <= 140737488351232 /\ ∀ s ∈ l, s.size <= 140737488351232 := by
 rcases open_strings Tryz.underlying22 Tryz.underlying9 zdU h with ⟨e, _⟩ | ⟨a, len, cap, ss, e, hb, hl, hm, hss, hx, hcell, _⟩
 . cases e;exact ⟨none, [], 0, rfl, .inl ⟨rfl, rfl, rfl⟩, by intro i hi; simp at hi, by simp, by simp⟩
 .
  cases e;have hle : len <= ss.length := by rw [hss]; split <;> omega
  have hlen : (ss.take len).length = len := by simp; omega
  rw [hx] at hw;have e1 := hw _ (by rw [DataW.weights, Tryz.underlying22]; exact List.mem_cons_self);rw [zkD] at e1;simp [strs, reachBytes] at e1;refine ⟨some a, ss.take len, cap, by rw [hlen], .inr ⟨a, rfl, by rw [hlen]; exact hl, hm⟩, ?_, by rw [hlen]; omega, ?_⟩
  . intro i hi;rw [hlen] at hi;have h0 := hcell 0 (by omega);obtain ⟨b, off, rfl⟩ := zeE (a := a) (by simpa [Addr.add] using h0);have hc := hcell i (by omega);rw [Addr.add_lit] at hc;refine ⟨b, off, rfl, ?_, World.block_lt_of_cell? W _ hc⟩;rw [hc];simp [List.getD, List.getElem?_eq_getElem (show i < ss.length by omega)]
  .
   intro s hs;have := hw s.size (by
    rw [DataW.weights, Tryz.underlying22];refine List.mem_cons_of_mem _ (zmA.2 (.inl (zbR (d := .lit (.string s.data.toList)) ?_ _ ?_)))
    . exact List.mem_map.2 ⟨s, hs, rfl⟩
    . rw [zc1]; exact zmS.2 (by simp))
   exact this
theorem zly {n : Nat} {v : Value} {y : DataW H × List MemPlace} (h : DataW.trod enc Tryz.prog W base sp held n 23 [v] = some y) (hw : ∀ k ∈ y.1.weights Tryz.prog 23, k <= reachBytes) :
  ∃ (o : Option Addr) (l : List PW) (c : Nat), v = .slice o l.length c /\ SlW o l.length c /\ PWsAt (· < W.heap.size) W o l /\ l.length * 24 <= 140737488351232 /\ ∀ x ∈ l, x.data.size <= 140737488351232 := by
 rcases Deep.open_slice_pairs Tryz.underlying23 Tryz.underlying80 ziZ rfl rfl zbl zdU h with ⟨e, _⟩ | ⟨a, len, cap, m, n, V0, V1, D0, D1, P0, P1, e, hb, hl, hm, hmm, hx, hall⟩
 . cases e;exact ⟨none, [], 0, rfl, .inl ⟨rfl, rfl, rfl⟩, by intro i hi; simp at hi, by simp, by simp⟩
 .
  cases e;have hle : len <= m := by rw [hmm]; split <;> omega
  rw [hx] at hw;have e1 := hw _ (by rw [DataW.weights, Tryz.underlying23]; exact List.mem_cons_self);rw [zlR] at e1;simp [reachBytes] at e1;have each : ∀ i, i < len -> ∃ x : Int × ByteArray, W.cell? (a.add (i * 2)) = some (.int .i64 x.1) /\ W.cell? (a.add (i * 2 + 1)) = some (.string x.2) /\ D1 i = .lit (.string x.2.data.toList) := by intro i hi;obtain ⟨c0, c1, t0, t1⟩ := hall i (by omega);obtain ⟨q, e0, _, _⟩ := DataW.trod_int Tryz.underlying3 t0;obtain ⟨s, e1, e2, _⟩ := DataW.trod_string Tryz.underlying9 t1;exact ⟨(q, s), by rw [c0, (List.cons.inj e0).1], by rw [c1, (List.cons.inj e1).1], congrArg Prod.fst e2⟩
  obtain ⟨X, hX⟩ := Deep.choose_lt each;refine ⟨some a, (List.range len).map (fun i => ⟨(X i).1, (X i).2⟩), cap, by simp, .inr ⟨a, rfl, by simpa using hl, hm⟩, ?_, by simp; omega, ?_⟩
  .
   intro i hi;have hi' : i < len := by simpa using hi
   obtain ⟨c0, c1, _⟩ := hX i hi';have hz := (hX 0 (by omega)).1;obtain ⟨b, off, rfl⟩ := zeE (a := a) (by simpa [Addr.add] using hz);rw [Addr.add_lit] at c0 c1;exact ⟨b, off, rfl, by simpa using c0, by simpa [Nat.add_assoc] using c1, World.block_lt_of_cell? W _ c0⟩
  .
   intro x hx';obtain ⟨i, hi, rfl⟩ := List.mem_map.1 hx';have hi' : i < len := by simpa using hi
   have := hw (X i).2.size (by
    rw [DataW.weights, Tryz.underlying23];refine List.mem_cons_of_mem _ (zmA.2 (.inl (zbR (d := .agg [D0 i, D1 i]) (List.mem_map.2 ⟨i, hi, rfl⟩) _ ?_)));rw [DataW.weights, Tryz.underlying80, (hX i hi').2.2];refine DataW.weights_mem_each (j := 1) (t := 9) (d := .lit (.string (X i).2.data.toList)) rfl rfl _ ?_;rw [zc1]; exact zmS.2 (by simp))
   exact this
end
section
variable {H : Type} {enc : TypeId × Value -> H} {W : World} {base : Nat} {sp : Nat -> Bool} {held : Bool}
theorem zj8 {P : Program} {e : TypeId} {d : DataW H} : ∀ {ds : List (DataW H)}, d ∈ ds -> ∀ n ∈ d.weights P e, n ∈ DataW.weightsAll P e ds
 | x :: ds, hd, n, hn => by
  simp only [DataW.weightsAll, zmA];rcases zmC.1 hd with rfl | h
  . exact .inl hn
  . exact .inr (zj8 h n hn)
theorem zjh {X : Type} [Inhabited X] {ok : X -> Prop} {en : X -> List Value} {t e : TypeId} {m bytes : Nat} (ht : Tryz.prog.underlying t = some (.slice e)) (hm : Tryz.prog.cellsOf e = m) (hm0 : 0 < m) (hb : Tryz.prog.bytesOf e = bytes) (hlen : ∀ x, ok x -> (en x).length = m)
  (hE : ∀ n cs y, DataW.trod enc Tryz.prog W base sp held n e cs = some y -> (∀ k ∈ y.1.weights Tryz.prog e, k <= reachBytes) -> ∃ x : X, ok x /\ cs = en x) {n : Nat} {cs : List Value} {y : DataW H × List MemPlace}
  (h : DataW.trod enc Tryz.prog W base sp held n t cs = some y) (hw : ∀ k ∈ y.1.weights Tryz.prog t, k <= reachBytes) :
  ∃ (o : Option Addr) (l : List X) (c : Nat), cs = [.slice o l.length c] /\ SlW o l.length c /\ RowAt (· < W.heap.size) W o (l.map en).flatten /\ (∀ x ∈ l, ok x) /\ l.length * bytes <= 140737488351232 := by
 rcases Deep.open_slice ht h with ⟨e0, _⟩ | ⟨a, len, cap, k, n', D, Pl, e0, hba, hl, hcap, hk, hx, hall⟩
 . exact ⟨none, [], 0, e0, .inl ⟨rfl, rfl, rfl⟩, RowAt.nil _ _ _, (fun x hx => by cases hx), by simp⟩
 .
  rw [hx] at hw;have hle : len <= k := by rw [hk]; split <;> omega
  have hwD : ∀ i, i < len -> ∀ q ∈ (D i).weights Tryz.prog e, q <= reachBytes := by intro i hi q hq;refine hw q ?_;rw [DataW.weights, ht];exact List.mem_cons_of_mem _ (List.mem_append_left _ (zj8 (List.mem_map.2 ⟨i, List.mem_range.2 hi, rfl⟩) q hq))
  have e1 := hw _ (by rw [DataW.weights, ht]; exact List.mem_cons_self);rw [hb] at e1;simp [reachBytes] at e1;rw [hm] at hall;have each : ∀ i, i < len -> ∃ x : X, ok x /\ ∀ j, j < m -> W.cell? ((a.add (i * m)).add j) = (en x)[j]? := by intro i hi;obtain ⟨cs', h1, h2⟩ := hall i (by omega);obtain ⟨x, hox, rfl⟩ := hE _ _ _ h2 (hwD i hi);obtain ⟨_, _, h3⟩ := World.cells?_some h1;exact ⟨x, hox, h3⟩
  obtain ⟨Q, hQ⟩ := Deep.choose_lt each;have hok : ∀ x ∈ (List.range len).map Q, ok x := by intro x hx;obtain ⟨i, hi, rfl⟩ := List.mem_map.1 hx;exact (hQ i (List.mem_range.1 hi)).1
  have hL : ∀ x ∈ ((List.range len).map Q).map en, x.length = m := by intro x hx;obtain ⟨q, hq, rfl⟩ := List.mem_map.1 hx;exact hlen q (hok q hq)
  refine ⟨some a, (List.range len).map Q, cap, by rw [e0]; simp, .inr ⟨a, rfl, by simpa using hl, hcap⟩, ?_, hok, by rw [List.length_map, List.length_range]; exact znT (Nat.mul_le_mul_right _ (by omega)) e1⟩;intro j hj;have hfl := ziI hL;rw [List.length_map, List.length_map, List.length_range] at hfl;obtain ⟨q, r, hr, rfl⟩ : ∃ q r, r < m /\ j = q * m + r := ⟨j / m, j % m, Nat.mod_lt _ hm0, by rw [Nat.mul_comm]; exact (Nat.div_add_mod j m).symm⟩;have hq : q < len := by
   rcases Nat.lt_or_ge q len with h | h
   . exact h
   . have := Nat.mul_le_mul_right m h; omega
  have hc := (hQ q hq).2 r hr;have hg := flat_get hL q r hr;simp only [List.getElem?_map, List.getElem?_range hq, Option.map_some, Option.bind_some] at hg;rw [<- hg, Deep.add_add, List.getElem?_eq_getElem hj] at hc;have h00 := (hQ 0 (by omega)).2 0 hm0;obtain ⟨b, off, rfl⟩ : ∃ b off, a = ⟨b, off, none⟩ := by have hz : (en (Q 0))[0]? = some ((en (Q 0))[0]'(by rw [hlen _ (hQ 0 (by omega)).1]; exact hm0)) := List.getElem?_eq_getElem _;rw [hz] at h00;exact zeE (by simpa [Addr.add] using h00)
  rw [Addr.add_lit] at hc;exact ⟨b, off, rfl, hc, World.block_lt_of_cell? W _ hc⟩
theorem list4 {α : Type} {cs : List α} (h : cs.length = 4) : ∃ c0 c1 c2 c3, cs = [c0, c1, c2, c3] := by
 match cs, h with
 | [c0, c1, c2, c3], _ => exact ⟨c0, c1, c2, c3, rfl⟩
instance inhChgO : Inhabited Chg := ⟨⟨ByteArray.empty, false, ByteArray.empty, false, ByteArray.empty⟩⟩
theorem zhw : ∀ l : List Int, (l.map fun x => [Value.int .i64 x]).flatten = l.map (.int .i64)
 | [] => rfl
 | x :: l => by rw [List.map_cons, List.flatten_cons, zhw l]; rfl
set_option maxRecDepth 100000 in
theorem zi6 {n : Nat} {v : Value} {y : DataW H × List MemPlace} (h : DataW.trod enc Tryz.prog W base sp held n 31 [v] = some y) (hw : ∀ k ∈ y.1.weights Tryz.prog 31, k <= reachBytes) :
  ∃ (o : Option Addr) (l : List Int) (c : Nat), v = .slice o l.length c /\ SlW o l.length c /\ zas (· < W.heap.size) W o l /\ ∀ x ∈ l, -9223372036854775808 <= x /\ x <= 9223372036854775807 := by
 obtain ⟨o, l, c, e, hs, hr, hok, _⟩ := zjh (X := Int) (ok := fun x => -9223372036854775808 <= x /\ x <= 9223372036854775807) (en := fun x => [.int .i64 x]) Tryz.underlying31 zbl (by decide) zkI (fun _ _ => rfl)
  (fun n cs y h _ => by obtain ⟨q, e0, _, wf⟩ := DataW.trod_int Tryz.underlying3 h;exact ⟨q, by simpa [Lit.wf, IntKind.min, IntKind.max, IntKind.signed, IntKind.bits] using wf, e0⟩) h hw
 refine ⟨o, l, c, (List.cons.inj e).1, hs, .of_row ?_, hok⟩;rw [<- zhw]; exact hr
theorem zjq : Tryz.prog.cellsOf 31 = 1 := by kernel_rfl
end
section
variable {H : Type} {enc : TypeId × Value -> H} {W : World} {base : Nat} {sp : Nat -> Bool} {held : Bool}
theorem zkQ {P : Program} {t : TypeId} {f0 f1 f2 f3 : Field} {cs : List Value} {n : Nat} {y : DataW H × List MemPlace} (hs : P.underlying t = some (.struct #[f0, f1, f2, f3])) (hone : Deep.oneCellFields P #[f0, f1, f2, f3] = true) (hC : P.cellsOf t = 4)
  (h : DataW.trod enc P W base sp held n t cs = some y) :
  ∃ (v0 v1 v2 v3 : Value) (y0 y1 y2 y3 : DataW H × List MemPlace) (n : Nat), cs = [v0, v1, v2, v3] /\ y.1 = .agg [y0.1, y1.1, y2.1, y3.1] /\
   DataW.trod enc P W base sp held n f0.type [v0] = some y0 /\ DataW.trod enc P W base sp held n f1.type [v1] = some y1 /\ DataW.trod enc P W base sp held n f2.type [v2] = some y2 /\ DataW.trod enc P W base sp held n f3.type [v3] = some y3 := by
 obtain ⟨y0, y1, y2, y3, m, hx, hl, h0, h1, h2, h3⟩ := Go.Joins.trod_struct4 hs h;obtain ⟨c0, c1, c2, c3, rfl⟩ := list4 (hl.trans hC);obtain ⟨o0, k0⟩ := Deep.hone_of hone 0 f0 rfl;obtain ⟨o1, k1⟩ := Deep.hone_of hone 1 f1 rfl;obtain ⟨o2, k2⟩ := Deep.hone_of hone 2 f2 rfl;obtain ⟨o3, k3⟩ := Deep.hone_of hone 3 f3 rfl;exact ⟨c0, c1, c2, c3, y0, y1, y2, y3, m, rfl, by rw [hx], by simpa [o0, k0] using h0, by simpa [o1, k1] using h1, by simpa [o2, k2] using h2, by simpa [o3, k3] using h3⟩
set_option maxRecDepth 100000 in
theorem zjw {n : Nat} {cs : List Value} {y : DataW H × List MemPlace} (h : DataW.trod enc Tryz.prog W base sp held n 25 cs = some y) (hw : ∀ k ∈ y.1.weights Tryz.prog 25, k <= reachBytes) :
  ∃ (x : Dsk) (po co : Option Addr) (pc cc : Nat), cs = (dC x po co pc cc).toList /\ DskV W (.agg (dC x po co pc cc)) x := by
 obtain ⟨v0, v1, v2, v3, y0, y1, y2, y3, n, rfl, hd, h0, h1, h2, h3⟩ := zkQ Tryz.underlying25 (by kernel_rfl) zdV h;rw [hd, DataW.weights, Tryz.underlying25] at hw;obtain ⟨size, e0, _, _⟩ := DataW.trod_int Tryz.underlying3 h0;obtain ⟨left, e3, _, wl⟩ := DataW.trod_int Tryz.underlying3 h3;obtain rfl := (List.cons.inj e0).1;obtain rfl := (List.cons.inj e3).1;obtain ⟨po, pages, pc, rfl, s1, a1, l1, z1⟩ := open_strs h1 (fun k hk => hw k (DataW.weights_mem_each (j := 1) (t := 22) rfl rfl k hk));obtain ⟨co, cache, cc, rfl, s2, a2, l2, z2⟩ := zly h2 (fun k hk => hw k (DataW.weights_mem_each (j := 2) (t := 23) rfl rfl k hk));refine ⟨⟨size, pages, cache, left⟩, po, co, pc, cc, rfl, po, pc, co, cc, rfl, a1, a2, ⟨s1, s2, by simp only; omega, by simp only; omega, z1, z2, ?_⟩⟩;simpa [Lit.wf, IntKind.min, IntKind.max, IntKind.signed, IntKind.bits] using wl
theorem zgg : Tryz.prog.cellsOf 33 = 9 := by kernel_rfl
theorem zfY : Tryz.prog.underlying 33 = some (.struct (Tryz.prog.fieldsOf 33)) := by kernel_rfl
theorem zlu : (Tryz.prog.fieldsOf 33).toList.map (fun f => (f.type, f.offset)) = [(25, 0), (3, 4), (3, 5), (3, 6), (3, 7), (31, 8)] := by kernel_rfl
set_option maxRecDepth 100000 in
theorem zi2 {r : Reach} {b0 : Nat} {v : Value} {d : DataW H} {p : List MemPlace} (hv : Value.okWide Tryz.prog W r b0 33 v) (h : DataW.Trod enc Tryz.prog W base sp held 33 v d p) (hw : ∀ k ∈ d.weights Tryz.prog 33, k <= reachBytes) :
  ∃ x : Ix, IxV W v x := by
 obtain ⟨cs, rfl, hsz⟩ := okWide_struct zfY hv;rw [zgg] at hsz;obtain ⟨fuel, hfu⟩ := h;have hf := zlu;obtain ⟨xs, m, _, hy, hl, hx, hall⟩ := DataW.trod_struct zfY hfu;have hd : d = .agg (xs.map (·.1)) := congrArg Prod.fst hy;have hw' : ∀ k ∈ DataW.weightsEach Tryz.prog ((Tryz.prog.fieldsOf 33).toList.map (·.type)) (xs.map (·.1)), k <= reachBytes := by intro k hk;refine hw k ?_;rw [hd, DataW.weights, zfY];exact hk
 have hcs : (Value.agg cs).cells.toList = cs.toList := rfl;rw [hcs] at hall;have hall' : ∀ (i : Nat) (f : Field), (Tryz.prog.fieldsOf 33).toList[i]? = some f -> DataW.trod enc Tryz.prog W base sp held m f.type ((cs.toList.drop f.offset).take (Tryz.prog.cellsOf f.type)) = xs[i]? := fun i f e => hall i f (by rw [<- Array.getElem?_toList]; exact e);have hx' : xs.length = (Tryz.prog.fieldsOf 33).toList.length := by rw [hx]; rfl
 generalize (Tryz.prog.fieldsOf 33).toList = fs at *;have hl5 : fs.length = 6 := by simpa using congrArg List.length hf
 match fs, hl5 with
 | [f1, f2, f3, f4, f5, f6], _ =>
  simp only [List.map_cons, List.map_nil, List.cons.injEq, Prod.mk.injEq, and_true] at hf;obtain ⟨⟨t1, o1⟩, ⟨t2, o2⟩, ⟨t3, o3⟩, ⟨t4, o4⟩, ⟨t5, o5⟩, ⟨t6, o6⟩⟩ := hf;have h1 := hall' 0 f1 rfl;have h2 := hall' 1 f2 rfl;have h3 := hall' 2 f3 rfl;have h4 := hall' 3 f4 rfl;have h5 := hall' 4 f5 rfl;have h6 := hall' 5 f6 rfl;simp only [zlC, List.length_nil] at hx';rw [t1, o1, zdV, List.getElem?_eq_getElem (by omega)] at h1;rw [t2, o2, zbl, List.getElem?_eq_getElem (by omega)] at h2;rw [t3, o3, zbl, List.getElem?_eq_getElem (by omega)] at h3;rw [t4, o4, zbl, List.getElem?_eq_getElem (by omega)] at h4;rw [t5, o5, zbl, List.getElem?_eq_getElem (by omega)] at h5;rw [t6, o6, zjq, List.getElem?_eq_getElem (by omega)] at h6;obtain ⟨x, po, co, pc, cc, e1, hD⟩ := zjw h1 (fun k hk => hw' k (DataW.weights_mem_each (j := 0) (t := 25) (d := (xs[0]'(by omega)).1) (by simp [t1]) (by rw [List.getElem?_map, List.getElem?_eq_getElem (by omega)]; rfl) k hk));obtain ⟨q2, e2, _, _⟩ := DataW.trod_int Tryz.underlying3 h2;obtain ⟨q3, e3, _, _⟩ := DataW.trod_int Tryz.underlying3 h3;obtain ⟨q4, e4, _, _⟩ := DataW.trod_int Tryz.underlying3 h4;obtain ⟨q5, e5, _, _⟩ := DataW.trod_int Tryz.underlying3 h5;have hL : cs.toList.length = 9 := by simpa using hsz
  have g6 : (cs.toList.drop 8).take 1 = cs.toList.drop 8 := List.take_of_length_le (by rw [List.length_drop]; omega);obtain ⟨z, hz⟩ : ∃ z, cs.toList.drop 8 = [z] := by
   have : (cs.toList.drop 8).length = 1 := by rw [List.length_drop]; omega
   match cs.toList.drop 8, this with
   | [z], _ => exact ⟨z, rfl⟩
  rw [g6, hz] at h6;obtain ⟨ro, recs, rc, e6, s6, a6, _⟩ := zi6 h6 (fun k hk => hw' k (DataW.weights_mem_each (j := 5) (t := 31) (d := (xs[5]'(by omega)).1) (by simp [t6]) (by rw [List.getElem?_map, List.getElem?_eq_getElem (by omega)]; rfl) k hk));have st : ∀ a m, cs.toList.drop a = (cs.toList.drop a).take m ++ cs.toList.drop (a + m) := fun a m => by rw [<- List.drop_drop, List.take_append_drop]
  have k0 : cs.toList.drop 0 = (cs.toList.drop 0).take 4 ++ cs.toList.drop 4 := st 0 4;have k1 : cs.toList.drop 4 = (cs.toList.drop 4).take 1 ++ cs.toList.drop 5 := st 4 1;have k2 : cs.toList.drop 5 = (cs.toList.drop 5).take 1 ++ cs.toList.drop 6 := st 5 1;have k3 : cs.toList.drop 6 = (cs.toList.drop 6).take 1 ++ cs.toList.drop 7 := st 6 1;have k4 : cs.toList.drop 7 = (cs.toList.drop 7).take 1 ++ cs.toList.drop 8 := st 7 1;rw [e5, hz, e6] at k4;rw [e4, k4] at k3;rw [e3, k3] at k2;rw [e2, k2] at k1;rw [e1, k1] at k0;have hcs' : cs = ixC x po co pc cc q2 q3 q4 q5 ro recs.length rc := by rw [<- Array.toList_inj];exact k0
  rw [hcs'];exact ⟨⟨x, q2, q3, q4, q5, recs⟩, po, pc, co, cc, ro, rc, rfl, hD, s6, a6⟩
end
section
variable {H : Type} {enc : TypeId × Value -> H} {W : World} {base : Nat} {sp : Nat -> Bool} {held : Bool}
theorem zio {r : Reach} {b0 : Nat} {v : Value} {d : DataW H} {p : List MemPlace} (hv : Value.okWide Tryz.prog W r b0 9 v) (h : DataW.Trod enc Tryz.prog W base sp held 9 v d p) (hw : ∀ k ∈ d.weights Tryz.prog 9, k <= reachBytes) :
  ∃ x : ByteArray, v = .string x /\ x.size <= 140737488351232 := by
 obtain ⟨s, rfl, rfl, _, _⟩ := Go.ChangeMaps.open_string Tryz.underlying9 hv h;exact ⟨s, rfl, hw s.size (by rw [zc1]; exact zmS.2 (by simp))⟩
end
end Go.Proofs.YtlefmmhlpgmbjaaGreat
