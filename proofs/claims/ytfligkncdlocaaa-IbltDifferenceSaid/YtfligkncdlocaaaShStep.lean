/- One block: the reference's step. -/
import Derived.Test.YtfligkncdlocaaaShCmpr
namespace Go.Proofs.Ytfligkncdlocaaa
open Go.RowKit

theorem S8.of_list (l : List UInt32) (h : l.length = 8) : (S8.of l).list = l := by
  match l, h with
  | [a, b, c, d, e, f, g, i], _ => rfl
theorem cells8 {W : World} {n : Nat} {s : S8} {t : TypeId} (x : Bx W n (u32s s.list).toArray t) :
    W.cell? ⟨n, 0, none⟩ = some (.int .u32 (wv s.a)) ∧ W.cell? ⟨n, 1, none⟩ = some (.int .u32 (wv s.b)) ∧ W.cell? ⟨n, 2, none⟩ = some (.int .u32 (wv s.c)) ∧ W.cell? ⟨n, 3, none⟩ = some (.int .u32 (wv s.d)) ∧
    W.cell? ⟨n, 4, none⟩ = some (.int .u32 (wv s.e)) ∧ W.cell? ⟨n, 5, none⟩ = some (.int .u32 (wv s.f)) ∧ W.cell? ⟨n, 6, none⟩ = some (.int .u32 (wv s.g)) ∧ W.cell? ⟨n, 7, none⟩ = some (.int .u32 (wv s.h)) := by
  refine ⟨?_, ?_, ?_, ?_, ?_, ?_, ?_, ?_⟩ <;> rw [x.cell] <;> rfl
set_option maxRecDepth 100000 in
set_option maxHeartbeats 1200000 in
theorem ref02_step (st : List UInt32) (hst : st.length = 8) (b : ByteArray) (hb : b.size = 64) (w : World) :
    Calls Try.prog 78 #[.agg (u32s st).toArray, .string b] w fun e w' => e = .returned (.agg (u32s (compressL st b.data.toList)).toArray) ∧ Below w.heap.size w w' := by
  obtain ⟨cs, hcs⟩ : ∃ cs, (u32s st).toArray = cs := ⟨_, rfl⟩
  obtain ⟨z, hz⟩ : ∃ z : Array Value, Array.replicate 64 (Value.int .u32 0) = z := ⟨_, rfl⟩
  have hz0 := zeroW
  rw [hz] at hz0
  have hzs : z.size = 64 := by rw [← hz]; simp
  obtain ⟨y, hy⟩ : ∃ y : Array Value, Array.replicate 8 (Value.int .u32 0) = y := ⟨_, rfl⟩
  have hy0 := zeroH
  rw [hy] at hy0
  have hys : y.size = 8 := by rw [← hy]; simp
  obtain ⟨W, hW⟩ : ∃ W, schedK b.data.toList 64 = W := ⟨_, rfl⟩
  have hWl : W.length = 64 := by rw [← hW]; exact schedK_len _ _
  have hsch : ∀ w, Calls Try.prog 85 #[.string b] w fun e w' => e = .returned (.agg (u32s W).toArray) ∧ Below w.heap.size w w' := fun w => hW ▸ ref02_schedule b hb w
  obtain ⟨cW, hcW⟩ : ∃ c, (u32s W).toArray = c := ⟨_, rfl⟩
  obtain ⟨cK, hcK⟩ : ∃ c, (u32s shaK).toArray = c := ⟨_, rfl⟩
  have hcon := ref02_constants
  rw [hcK] at hcon
  rw [hcW] at hsch
  have hWs : cW.size = 64 := by rw [← hcW]; simp [u32s, hWl]
  have hKs : cK.size = 64 := by rw [← hcK]; rfl
  have hW1 : cW.all (·.oneCell') = true := by rw [← hcW]; exact u32s_one _
  have hK1 : cK.all (·.oneCell') = true := by rw [← hcK]; exact u32s_one _
  rw [hcs]
  have Z0 := Lib.hid hz0
  have Zs := Lib.hid hzs
  have Y0 := Lib.hid hy0
  have Ys := Lib.hid hys
  have HW := Lib.hid hW
  have HWl := Lib.hid hWl
  have Hsch := Lib.hid hsch
  have Hcon := Lib.hid hcon
  have HcW := Lib.hid hcW
  have HcK := Lib.hid hcK
  have HWs := Lib.hid hWs
  have HKs := Lib.hid hKs
  have HW1 := Lib.hid hW1
  have HK1 := Lib.hid hK1
  have Hcs := Lib.hid hcs
  have Hst := Lib.hid hst
  clear hz hz0 hzs hy hy0 hys hW hWl hsch hcW hcK hcon hWs hKs hW1 hK1 hcs hst hb
  have hcl : cs.size = 8 := by rw [← Hcs.out]; simp [u32s, Hst.out]
  have Hcl := Lib.hid hcl
  have hc1 : cs.all (·.oneCell') = true := by rw [← Hcs.out]; exact u32s_one _
  have Hc1 := Lib.hid hc1
  clear hcl hc1
  go_enter Try.func78, Try.ntmps78
  go_wp2_with (refine wpList_alloc_row rfl 89 rfl y Y0.out ?_)
  refine (Hsch.out _).mono ?_
  rintro e w1 ⟨rfl, hb1⟩
  have xs := (Bx.new w cs 89 |>.alloc (.cells y 89)).belowAll hb1
  have xr := (Bx.new (w.alloc (.cells cs 89)) y 89).belowAll hb1
  have hB1 := Below.then ((Below.one w (.cells cs 89)).alloc (by simp) (.cells y 89)) hb1 (by simp; omega)
  simp only [World.size_alloc] at xr
  go_wp2_with fail
  refine (Hcon.out _).mono ?_
  rintro e w2 ⟨rfl, hb2⟩
  have xs := xs.belowAll hb2
  have xr := xr.belowAll hb2
  have hB2 := Below.then hB1 hb2 hB1.size
  have xW := (Bx.new w2 z 103).alloc (.cells z 103)
  have xK := Bx.new (w2.alloc (.cells z 103)) z 103
  have hz1 : w.heap.size + 1 < w2.heap.size := xr.lt
  go_wp2_with (first
    | (refine wpList_alloc_row rfl 103 rfl z Z0.out ?_)
    | (refine wpList_store_mid rfl 103 (.tmp 5) (.tmp 15) rfl w2.heap.size 0 cW rfl rfl (there_bx xW (by rw [HWs.out, Zs.out]; exact Nat.le_refl _)) (by rw [sizeW, HWs.out]) HW1.out ?_)
    | (refine wpList_store_mid rfl 103 (.tmp 6) (.tmp 16) rfl (w2.alloc (.cells z 103)).heap.size 0 cK rfl rfl (there_bx (xK.setCellsO (b' := w2.heap.size) (by simp) cW.toList 0) (by rw [HKs.out, Zs.out]; exact Nat.le_refl _)) (by rw [sizeW, HKs.out]) HK1.out ?_
       have xW2 := (xW.setAll (cx := cW) (by rw [HWs.out, Zs.out])).setCellsO (b' := (w2.alloc (.cells z 103)).heap.size) (by simp) cK.toList 0
       have xK2 := (xK.setCellsO (b' := w2.heap.size) (by simp) cW.toList 0).setAll (cx := cK) (by rw [HKs.out, Zs.out])
       have xs2 := (((xs.alloc (.cells z 103)).alloc (.cells z 103)).setCellsO (b' := w2.heap.size) (by omega) cW.toList 0).setCellsO (b' := (w2.alloc (.cells z 103)).heap.size) (by simp; omega) cK.toList 0
       have xr2 := (((xr.alloc (.cells z 103)).alloc (.cells z 103)).setCellsO (b' := w2.heap.size) (by omega) cW.toList 0).setCellsO (b' := (w2.alloc (.cells z 103)).heap.size) (by simp; omega) cK.toList 0
       have hB3 := below_setCells (b := (w2.alloc (.cells z 103)).heap.size) (by simp; omega) cK.toList 0 _ (below_setCells (b := w2.heap.size) (by omega) cW.toList 0 _ ((hB2.alloc (by omega) (.cells z 103)).alloc (by simp; omega) (.cells z 103)))
       simp only [Act.put, List.setIfInBounds_toArray, List.set_cons_zero, List.set_cons_succ]
       generalize (((w2.alloc (.cells z 103)).alloc (.cells z 103)).setCells w2.heap.size 0 cW.toList).setCells (w2.alloc (.cells z 103)).heap.size 0 cK.toList = w3 at *
       simp only [World.size_alloc] at xK2 ⊢
       clear hB2 hb2 xW xK xs xr)
    | (refine wpList_load_mid rfl 89 (.tmp 2) rfl w.heap.size 0 rfl cs.toList _ xs2.range Try.underlying89 rfl (by rw [sizeH]; simp [Hcl.out]) ?_)
    | (refine wpList_alloc_row rfl 89 rfl y Y0.out ?_)
    | (refine wpList_store_mid rfl 89 (.tmp 7) (.tmp 17) rfl w3.heap.size 0 cs rfl rfl (there_bx (Bx.new w3 y 89) (by rw [Hcl.out, Ys.out]; exact Nat.le_refl _)) (by rw [sizeH, Hcl.out]) Hc1.out ?_))
  generalize w2.heap.size = n2 at *
  have hn3 : n2 + 1 < w3.heap.size := xK2.lt
  have xv := (Bx.new w3 y 89).setAll (cx := cs) (by rw [Hcl.out, Ys.out])
  have xW := (xW2.alloc (.cells y 89)).setCellsO (b' := w3.heap.size) (by omega) cs.toList 0
  have xK := (xK2.alloc (.cells y 89)).setCellsO (b' := w3.heap.size) (by omega) cs.toList 0
  have xs := (xs2.alloc (.cells y 89)).setCellsO (b' := w3.heap.size) (by omega) cs.toList 0
  have xr := (xr2.alloc (.cells y 89)).setCellsO (b' := w3.heap.size) (by omega) cs.toList 0
  have hB := below_setCells (b := w3.heap.size) (by omega) cs.toList 0 _ (hB3.alloc hB3.size (.cells y 89))
  generalize (w3.alloc (.cells y 89)).setCells w3.heap.size 0 cs.toList = w4 at *
  generalize w3.heap.size = n3 at *
  clear xW2 xK2 xs2 xr2 hB3 w3
  go_loopw [8] (fun i wr => ∃ k : Nat, k ≤ 64 ∧ i = .int .i64 k ∧ Bx wr n3 (u32s (rndsS W k (S8.of st)).list).toArray 89 ∧
    Bx wr n2 cW 103 ∧ Bx wr (n2 + 1) cK 103 ∧ Bx wr w.heap.size cs 89 ∧ Bx wr (w.heap.size + 1) y 89 ∧ Below w.heap.size w wr) (fun i _ => 64 - (intOf i).toNat)
  case atStart => exact ⟨0, by omega, rfl, by rw [show rndsS W 0 (S8.of st) = S8.of st from rfl, S8.of_list _ Hst.out, Hcs.out]; exact xv, xW, xK, xs, xr, hB⟩
  case round =>
    clear xv xW xK xs xr hB
    obtain ⟨k, hk, rfl, xv, xW, xK, xs, xr, hB⟩ := hrel
    by_cases hlt : k < 64
    · have hlt' : (k : Int) < 64 := by omega
      have hstep : rndsS W (k + 1) (S8.of st) = rndS (rndsS W k (S8.of st)) (shaK.getD k 0) (W.getD k 0) := rfl
      have eW : cW[k]? = some (.int .u32 (wv (W.getD k 0))) := by rw [← HcW.out, u32s_get (by rw [HWl.out]; exact hlt)]
      have eK : cK[k]? = some (.int .u32 (wv (shaK.getD k 0))) := by rw [← HcK.out, u32s_get (by rw [shaK_len]; exact hlt)]
      generalize W.getD k 0 = ww at *
      generalize shaK.getD k 0 = kk at *
      have Hstep := Lib.hid hstep
      have EW := Lib.hid eW
      have EK := Lib.hid eK
      clear hstep eW eK
      generalize rndsS W k (S8.of st) = s at *
      have hxor := wv_xor
      have hand := wv_and
      have hnot := wv_not'
      have hadd := wv_add'
      obtain ⟨g0, g1, g2, g3, g4, g5, g6, g7⟩ := cells8 xv
      have lv := xv.lt
      have cQ := Lat.cells wr
      go_wp2_with fail
      refine wp_region_lat (by kernel_rfl) (by kernel_rfl) ?_
      repeat (any_goals (first | go_big_quiet_skip | (go_big_quiet_want; go_big_quiet_op; first | go_big_quiet_on | go_big_quiet_call ((fail))) | quiet_step ((fail))))
      refine wpQuiet_nil ?_
      rintro W6 ⟨⟨_, hb6⟩, rfl⟩
      have xv := xv.belowAll hb6
      have xW := xW.belowAll hb6
      have xK := xK.belowAll hb6
      have xs := xs.belowAll hb6
      have xr := xr.belowAll hb6
      have hB := Below.then hB hb6 hB.size
      clear hb6
      clear g0 g1 g2 g3 g4 g5 g6 g7 lv cQ
      obtain ⟨g0, g1, g2, g3, g4, g5, g6, g7⟩ := cells8 xv
      have lv := xv.lt
      have h6 : ∀ V, Calls Try.prog 87 #[.int .u32 (wv s.e), .int .u64 6] V fun e w' => e = .returned (.int .u32 (wv (rotR s.e 6))) ∧ V = w' := fun V => ref02_rot s.e 6 6 6 rfl rfl (by decide) (by decide) V
      have H6 := Lib.hid h6
      clear h6
      have h11 : ∀ V, Calls Try.prog 87 #[.int .u32 (wv s.e), .int .u64 11] V fun e w' => e = .returned (.int .u32 (wv (rotR s.e 11))) ∧ V = w' := fun V => ref02_rot s.e 11 11 11 rfl rfl (by decide) (by decide) V
      have H11 := Lib.hid h11
      clear h11
      have h25 : ∀ V, Calls Try.prog 87 #[.int .u32 (wv s.e), .int .u64 25] V fun e w' => e = .returned (.int .u32 (wv (rotR s.e 25))) ∧ V = w' := fun V => ref02_rot s.e 25 25 25 rfl rfl (by decide) (by decide) V
      have H25 := Lib.hid h25
      clear h25
      have gW : W6.cell? ⟨n2, k, none⟩ = some (.int .u32 (wv ww)) := by rw [xW.cell]; exact EW.out
      have gK : W6.cell? ⟨n2 + 1, k, none⟩ = some (.int .u32 (wv kk)) := by rw [xK.cell]; exact EK.out
      have lW := xW.lt
      have lK := xK.lt
      have cQ := Lat.cells W6
      go_wp2_with fail
      refine wp_region_lat (by kernel_rfl) (by kernel_rfl) ?_
      repeat (any_goals (first | go_big_quiet_skip | (go_big_quiet_want; go_big_quiet_op; first | go_big_quiet_on | go_big_quiet_call ((first | (with_reducible exact Calls.lat_same (H6.out _)) | (with_reducible exact Calls.lat_same (H11.out _)) | (with_reducible exact Calls.lat_same (H25.out _))))) | quiet_step ((first | (with_reducible exact Calls.lat_same (H6.out _)) | (with_reducible exact Calls.lat_same (H11.out _)) | (with_reducible exact Calls.lat_same (H25.out _))))))
      refine wpQuiet_nil ?_
      rintro W7 ⟨⟨_, hb7⟩, rfl⟩
      have xv := xv.belowAll hb7
      have xW := xW.belowAll hb7
      have xK := xK.belowAll hb7
      have xs := xs.belowAll hb7
      have xr := xr.belowAll hb7
      have hB := Below.then hB hb7 hB.size
      clear hb7
      clear g0 g1 g2 g3 g4 g5 g6 g7 lv cQ gW gK lW lK H6 H11 H25
      obtain ⟨g0, g1, g2, g3, g4, g5, g6, g7⟩ := cells8 xv
      have lv := xv.lt
      have h2 : ∀ V, Calls Try.prog 87 #[.int .u32 (wv s.a), .int .u64 2] V fun e w' => e = .returned (.int .u32 (wv (rotR s.a 2))) ∧ V = w' := fun V => ref02_rot s.a 2 2 2 rfl rfl (by decide) (by decide) V
      have H2 := Lib.hid h2
      clear h2
      have h13 : ∀ V, Calls Try.prog 87 #[.int .u32 (wv s.a), .int .u64 13] V fun e w' => e = .returned (.int .u32 (wv (rotR s.a 13))) ∧ V = w' := fun V => ref02_rot s.a 13 13 13 rfl rfl (by decide) (by decide) V
      have H13 := Lib.hid h13
      clear h13
      have h22 : ∀ V, Calls Try.prog 87 #[.int .u32 (wv s.a), .int .u64 22] V fun e w' => e = .returned (.int .u32 (wv (rotR s.a 22))) ∧ V = w' := fun V => ref02_rot s.a 22 22 22 rfl rfl (by decide) (by decide) V
      have H22 := Lib.hid h22
      clear h22
      have cQ := Lat.cells W7
      go_wp2_with fail
      refine wp_region_lat (by kernel_rfl) (by kernel_rfl) ?_
      repeat (any_goals (first | go_big_quiet_skip | (go_big_quiet_want; go_big_quiet_op; first | go_big_quiet_on | go_big_quiet_call ((first | (with_reducible exact Calls.lat_same (H2.out _)) | (with_reducible exact Calls.lat_same (H13.out _)) | (with_reducible exact Calls.lat_same (H22.out _))))) | quiet_step ((first | (with_reducible exact Calls.lat_same (H2.out _)) | (with_reducible exact Calls.lat_same (H13.out _)) | (with_reducible exact Calls.lat_same (H22.out _))))))
      refine wpQuiet_nil ?_
      rintro W8 ⟨⟨_, hb8⟩, rfl⟩
      have xv := xv.belowAll hb8
      have xW := xW.belowAll hb8
      have xK := xK.belowAll hb8
      have xs := xs.belowAll hb8
      have xr := xr.belowAll hb8
      have hB := Below.then hB hb8 hB.size
      clear hb8 g0 g1 g2 g3 g4 g5 g6 g7 lv cQ H2 H13 H22
      obtain ⟨g0, g1, g2, g3, g4, g5, g6, g7⟩ := cells8 xv
      have lv := xv.lt
      obtain ⟨cv, hcv⟩ : ∃ c, (u32s (rndS s kk ww).list).toArray = c := ⟨_, rfl⟩
      have R := Lib.hid (run_buildS (rndS s kk ww))
      rw [hcv] at R
      have Hcv := Lib.hid hcv
      have hvl : cv.size = 8 := by rw [← hcv]; rfl
      have hv1 : cv.all (·.oneCell') = true := by rw [← hcv]; exact u32s_one _
      have hol : ((u32s s.list).toArray).size = 8 := rfl
      have Hvl := Lib.hid hvl
      have Hv1 := Lib.hid hv1
      have Hol := Lib.hid hol
      clear hcv hvl hv1 hol
      go_wp2_with (first
        | (refine wpList_build_run rfl 89 _ rfl (partsOf (rndS s kk ww).list) (by kernel_rfl) cv R.out ?_)
        | (refine wpList_store_mid rfl 89 (.tmp 7) (.tmp 99) rfl n3 0 cv rfl rfl (there_bx xv (by rw [Hvl.out, Hol.out]; exact Nat.le_refl _)) (by rw [sizeH, Hvl.out]) Hv1.out ?_))
      have xv2 := xv.setAll (cx := cv) (by rw [Hvl.out, Hol.out])
      go_roundw
      case rel =>
        refine ⟨k + 1, by omega, by go_num, ?_, xW.setCellsO (b' := n3) (by omega) cv.toList 0, xK.setCellsO (b' := n3) (by omega) cv.toList 0, xs.setCellsO (b' := n3) (by omega) cv.toList 0, xr.setCellsO (b' := n3) (by omega) cv.toList 0, below_setCells (b := n3) (by omega) cv.toList 0 _ hB⟩
        rw [Hstep.out, Hcv.out]; exact xv2
      case measure => simp [intOf]; omega
    · obtain rfl : k = 64 := by omega
      have hlt' : ¬ ((64 : Nat) : Int) < 64 := by omega
      obtain ⟨s, hs⟩ : ∃ s, rndsS W 64 (S8.of st) = s := ⟨_, rfl⟩
      rw [hs] at xv
      have Hs := Lib.hid hs
      clear hs xW xK
      go_wp2_with fail
      go_loopw [13] (fun i wr => ∃ k : Nat, k ≤ 8 ∧ i = .int .i64 k ∧ Bx wr n3 (u32s s.list).toArray 89 ∧ Bx wr w.heap.size (u32s (addP st s.list k)).toArray 89 ∧ Bx wr (w.heap.size + 1) y 89 ∧ Below w.heap.size w wr) (fun i _ => 8 - (intOf i).toNat)
      case atStart => exact ⟨0, by omega, rfl, xv, by rw [addP_zero, Hcs.out]; exact xs, xr, hB⟩
      case round =>
        clear xv xs xr hB
        obtain ⟨k, hk, rfl, xv, xs, xr, hB⟩ := hrel
        by_cases hlt : k < 8
        · have hlt' : (k : Int) < 8 := by omega
          have hst := Hst.out
          have gv : wr.cell? ⟨n3, k, none⟩ = some (.int .u32 (wv (s.list.getD k 0))) := by rw [xv.cell, u32s_get (by rw [S8.len]; exact hlt)]
          have gs : wr.cell? ⟨w.heap.size, k, none⟩ = some (.int .u32 (wv (st.getD k 0))) := by rw [xs.cell, u32s_get (by rw [addP_len hst (S8.len s) (by omega)]; exact hlt), addP_get hst (S8.len s) hlt]
          have hset := addP_set hst (S8.len s) hlt
          generalize st.getD k 0 = p at *
          generalize s.list.getD k 0 = q at *
          have Hset := Lib.hid hset
          clear hset hst
          have ls := xs.lt
          have lv := xv.lt
          have hadd := wv_add'
          have cQ := Lat.cells wr
          go_wp2
          refine wp_region_lz 9 1 #[true, true, true, true, true, true, true, true, true, false] (fun _ => none) (by kernel_rfl) (by rfl) (by rfl) (by kernel_rfl) ?_
          simp only [List.take_succ_cons, List.take_zero]
          refine LW.block 9 9 (by rfl) (by kernel_rfl) (by kernel_rfl) ?_
          simp only [List.take_succ_cons, List.take_zero, List.drop_succ_cons, List.drop_zero]
          repeat (first | go_big_quiet_skip | (go_big_quiet_want; go_big_quiet_op; go_big_quiet_on))
          refine wpQuiet_nil ?_
          refine LW.done ?_
          intro W' hG
          have xv2 := xv.belowAll hG.below
          have xs2 := xs.belowAll hG.below
          have xr2 := xr.belowAll hG.below
          have hB2 := Below.then hB hG.below hB.size
          have gs1 : W'.cell? ⟨w.heap.size, k, none⟩ = some (.int .u32 (wv p)) := by rw [hG.below.cell (p := ⟨w.heap.size, k, none⟩) ls]; exact gs
          have fs1 := xs2.free k
          have ls1 := xs2.lt
          clear cQ gs gv ls lv
          refine wpAny_ready (rs := [9]) (by kernel_rfl) (by simp) ?_
          refine AllReady.cons rfl (fun K hK => ?_) AllReady.nil
          go_simp
          refine hK _ _ ?_
          clear hK K
          refine wpAny_done (by kernel_rfl) ?_ _
          go_wp2
          go_roundw
          case rel =>
            refine ⟨k + 1, by omega, by go_num, xv2.setO (a := ⟨w.heap.size, k, none⟩) (by simp; omega) _, ?_, xr2.setO (a := ⟨w.heap.size, k, none⟩) (by simp) _, below_set1 hB2 (Nat.le_refl _)⟩
            have := xs2.set k (.int .u32 (wv (p + q)))
            rw [u32s_set, Hset.out] at this
            exact this
          case measure => simp [intOf]; omega
        · obtain rfl : k = 8 := by omega
          have hlt' : ¬ ((8 : Nat) : Int) < 8 := by omega
          have hall := addP_all Hst.out (S8.len s)
          have hfin : List.zipWith (· + ·) st s.list = compressL st b.data.toList := by unfold compressL; rw [HW.out, Hs.out]
          rw [hall, hfin] at xs
          have hl8 : (compressL st b.data.toList).length = 8 := by rw [← hfin]; simp [Hst.out, S8.len]
          clear hall hfin
          obtain ⟨cx, hcx⟩ : ∃ cx, (u32s (compressL st b.data.toList)).toArray = cx := ⟨_, rfl⟩
          have hsz : cx.size = 8 := by rw [← hcx]; simp [u32s, hl8]
          have h1 : cx.all (·.oneCell') = true := by rw [← hcx]; exact u32s_one _
          rw [hcx] at xs
          have Hcx := Lib.hid hcx
          have H1 := Lib.hid h1
          have Hsz := Lib.hid hsz
          clear h1 hsz hcx hl8
          go_wp2_with (first
            | (refine wpList_load_mid rfl 89 (.tmp 2) rfl w.heap.size 0 rfl cx.toList _ xs.range Try.underlying89 rfl (by rw [sizeH]; simp [Hsz.out]) ?_)
            | (refine wpList_store_mid rfl 89 (.tmp 4) (.tmp 113) rfl (w.heap.size + 1) 0 cx rfl rfl (there_bx xr (by rw [Hsz.out, Ys.out]; exact Nat.le_refl _)) (by rw [sizeH, Hsz.out]) H1.out ?_))
          have xr2 := xr.setAll (cx := cx) (by rw [Hsz.out, Ys.out])
          refine bodyPost_ret (v := .agg cx) (results_cell_row (d := .array 8 86) Try.results78 _ _ (w.heap.size + 1) _ _ _ rfl xr2 Try.underlying89 rfl (by rw [sizeH, Hsz.out])) rfl ?_
          rw [Hcx.out]
          exact ⟨rfl, below_setCells (by omega) _ _ _ hB⟩
end Go.Proofs.Ytfligkncdlocaaa
