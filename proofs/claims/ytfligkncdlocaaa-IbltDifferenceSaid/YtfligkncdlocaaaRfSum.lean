/- quiltref02.Sum: the digest of a message. -/
import Derived.Test.YtfligkncdlocaaaRfPad
import Derived.Test.YtfligkncdlocaaaShStep
namespace Go.Proofs.Ytfligkncdlocaaa
open Go.RowKit

theorem blk_ext (l : List UInt8) (q : Nat) : (sB (padL l)).extract (64 * q) (64 * q + 64) = blk l q := by
  apply ByteArray.ext
  apply Array.toList_inj.1
  rw [ByteArray.data_extract, Array.toList_extract]
  unfold blk sB
  simp only [List.extract_eq_take_drop, Nat.add_sub_cancel_left]
set_option maxRecDepth 100000 in
set_option maxHeartbeats 1200000 in
theorem ref02_sum (s : ByteArray) (hs : s.size ≤ 1000000000) (w : World) :
    Calls Try.prog 67 #[.string s] w fun e w' => e = .returned (dgV (sumL s.data.toList)) ∧ Below w.heap.size w w' := by
  obtain ⟨z, hz⟩ : ∃ z : Array Value, Array.replicate 32 (Value.int .u8 0) = z := ⟨_, rfl⟩
  have hz0 := zeroDg
  rw [hz] at hz0
  have hzs : z.size = 32 := by rw [← hz]; simp
  obtain ⟨y, hy⟩ : ∃ y : Array Value, Array.replicate 8 (Value.int .u32 0) = y := ⟨_, rfl⟩
  have hy0 := zeroH
  rw [hy] at hy0
  have hys : y.size = 8 := by rw [← hy]; simp
  obtain ⟨cI, hcI⟩ : ∃ c, (u32s shaI).toArray = c := ⟨_, rfl⟩
  have hr := run_buildI
  rw [hcI] at hr
  have hIs : cI.size = 8 := by rw [← hcI]; rfl
  have hI1 : cI.all (·.oneCell') = true := by rw [← hcI]; exact u32s_one _
  have hpad : ∀ V, Calls Try.prog 77 #[.string s] V fun e w' => e = .returned (.string (sB (padL s.data.toList))) ∧ Below V.heap.size V w' := fun V => ref02_padded s hs V
  have hml := sB_size (padL s.data.toList)
  rw [padL_nBlk] at hml
  have hnb := nBlk_at s.data.toList
  have hzl := zN_lt s.data.toList.length
  have hl : s.data.toList.length = s.size := by simp
  rw [hl] at hnb hzl
  have hn1 : nBlk s.data.toList ≤ 100000000 := by omega
  have HZ := Lib.hid hz
  have Z0 := Lib.hid hz0
  have Zs := Lib.hid hzs
  have Y0 := Lib.hid hy0
  have Ys := Lib.hid hys
  have R := Lib.hid hr
  have HcI := Lib.hid hcI
  have HIs := Lib.hid hIs
  have HI1 := Lib.hid hI1
  have Hpad := Lib.hid hpad
  have Hn1 := Lib.hid hn1
  clear hz hz0 hzs hy hy0 hys hr hcI hIs hI1 hpad hnb hzl hl hs hn1
  have xd := Bx.new w z 31
  have hB1 := Below.one w (.cells z 31)
  go_enter Try.func67, Try.ntmps67
  go_wp2_with (first
    | (refine wpList_alloc_row rfl 31 rfl z Z0.out ?_; generalize w.alloc (.cells z 31) = w1 at *)
    | (refine wpList_build_run rfl 89 _ rfl (partsOf shaI) (by kernel_rfl) cI R.out ?_)
    | (refine wpList_alloc_row rfl 89 rfl y Y0.out ?_)
    | (refine wpList_store_mid rfl 89 (.tmp 3) (.tmp 8) rfl w1.heap.size 0 cI rfl rfl (there_bx (Bx.new w1 y 89) (by rw [HIs.out, Ys.out]; exact Nat.le_refl _)) (by rw [sizeH, HIs.out]) HI1.out ?_))
  refine (Hpad.out _).mono ?_
  rintro e w2 ⟨rfl, hb2⟩
  have l1 := xd.lt
  have xs := ((Bx.new w1 y 89).setAll (cx := cI) (by rw [HIs.out, Ys.out])).belowAll hb2
  have xd2 := ((xd.alloc (.cells y 89)).setCellsO (b' := w1.heap.size) (by omega) cI.toList 0).belowAll hb2
  have hB2 := Below.then (below_setCells (b := w1.heap.size) (by omega) cI.toList 0 _ (hB1.alloc hB1.size (.cells y 89))) hb2 (by rw [size_setCells]; simp; omega)
  clear xd hB1 hb2
  obtain ⟨n3, hn3⟩ : ∃ n3, w1.heap.size = n3 := ⟨_, rfl⟩
  rw [hn3] at xs l1 ⊢
  clear hn3
  rw [← HcI.out, show (u32s shaI).toArray = (u32s (stL ((blks s.data.toList).take 0))).toArray from rfl] at xs
  obtain ⟨nb, hnb⟩ : ∃ nb, nBlk s.data.toList = nb := ⟨_, rfl⟩
  rw [hnb] at hml Hn1
  have Hnb := Lib.hid hnb
  have Hex := Lib.hid (blk_ext s.data.toList)
  obtain ⟨M, hM⟩ : ∃ M, sB (padL s.data.toList) = M := ⟨_, rfl⟩
  rw [hM] at hml Hex ⊢
  have Hml := Lib.hid hml
  clear hM hnb hml w1
  go_wp2
  go_loopw [5] (fun i wr => ∃ q : Nat, q ≤ nb ∧ i = .int .i64 (64 * (q : Int)) ∧ Bx wr n3 (u32s (stL ((blks s.data.toList).take q))).toArray 89 ∧ Bx wr w.heap.size z 31 ∧ Below w.heap.size w wr) (fun i _ => 64 * nb - (intOf i).toNat)
  case atStart => exact ⟨0, by omega, rfl, xs, xd2, hB2⟩
  case round =>
    clear xs xd2 hB2
    obtain ⟨q, hq, rfl, xs, xd, hB⟩ := hrel
    have hml := Hml.out
    have hn1 := Hn1.out
    by_cases hlt : q < nb
    · have i0 : 64 * (q : Int) + 64 ≤ 64 * (nb : Int) := by omega
      have i1 : (0 : Int) ≤ 64 * (q : Int) := by omega
      have i2 : 64 * (q : Int) ≤ 64 * (q : Int) + 64 := by omega
      have t0 : (64 * (q : Int)).toNat = 64 * q := by omega
      have t1 : (64 * (q : Int) + 64).toNat = 64 * q + 64 := by omega
      have i3 : 64 * (q : Int) + 64 ≤ 9223372036854775807 := by omega
      have hex := Hex.out q
      have hqn : q < nBlk s.data.toList := by rw [Hnb.out]; exact hlt
      have hbz := blk_size hqn
      have hnext : stL ((blks s.data.toList).take (q + 1)) = compressL (stL ((blks s.data.toList).take q)) (blk s.data.toList q).data.toList := by rw [blks_take_succ hqn, stL_snoc]
      have hsl := stL_len ((blks s.data.toList).take q)
      have hs8 := S8.of_list _ hsl
      generalize S8.of (stL ((blks s.data.toList).take q)) = s8 at *
      rw [← hs8] at hnext xs
      have hbm : (blk s.data.toList q).size ≤ maxLen := by rw [hbz]; decide
      obtain ⟨cx, hcx⟩ : ∃ c, (u32s (stL ((blks s.data.toList).take (q + 1)))).toArray = c := ⟨_, rfl⟩
      have hxz : cx.size = 8 := by rw [← hcx]; simp only [u32s, List.size_toArray, List.length_map]; exact stL_len _
      have hx1 : cx.all (·.oneCell') = true := by rw [← hcx]; exact u32s_one _
      have hst : ∀ V, Calls Try.prog 78 #[.agg (u32s s8.list).toArray, .string (blk s.data.toList q)] V fun e w' => e = .returned (.agg cx) ∧ Below V.heap.size V w' := fun V => by
        have := ref02_step s8.list rfl (blk s.data.toList q) hbz V
        rw [← hnext, hcx] at this
        exact this
      generalize blk s.data.toList q = x at *
      have Hst := Lib.hid hst
      have Hcx := Lib.hid hcx
      have Hxz := Lib.hid hxz
      have Hx1 := Lib.hid hx1
      clear hst hcx hxz hx1 hnext hs8 hsl hbz
      obtain ⟨g0, g1, g2, g3, g4, g5, g6, g7⟩ := cells8 xs
      have ls := xs.lt
      have cQ := Lat.cells wr
      go_wp2
      refine wp_region_lz 7 1 #[true, true, true, true, true, true, true, false] (fun i => if i = 6 then some (annK (.agg cx)) else none) (by kernel_rfl) (by rfl) (by rfl) (by kernel_rfl) ?_
      simp only [List.take_succ_cons, List.take_zero]
      refine LW.block 6 6 (by rfl) (by kernel_rfl) (by kernel_rfl) ?_
      simp only [List.take_succ_cons, List.take_zero, List.drop_succ_cons, List.drop_zero]
      repeat (first | go_big_quiet_skip | (go_big_quiet_want; go_big_quiet_op; go_big_quiet_on))
      refine wpQuiet_nil ?_
      refine LW.lzy _ (by rfl) (by rfl) ?_ ?_
      · intro yL _
        unfold lzAt
        go_simp
        exact lz_constB (Hst.out _)
      intro _
      simp only [Act.put, List.setIfInBounds_toArray, List.set_cons_zero, List.set_cons_succ]
      (try simp only [annK])
      refine LW.done ?_
      intro W' hG
      have xs' := xs.belowAll hG.below
      have xd' := xd.belowAll hG.below
      have hB' := Below.then hB hG.below hB.size
      have hol : ((u32s s8.list).toArray).size = 8 := rfl
      refine wpAny_ready (rs := [7]) (by kernel_rfl) (by simp) ?_
      refine AllReady.cons rfl (fun K hK => ?_) AllReady.nil
      refine wp_store_mid 89 (.tmp 3) (.tmp 24) rfl n3 0 cx rfl rfl (there_bx xs' (by rw [Hxz.out, hol]; exact Nat.le_refl _)) (by rw [sizeH, Hxz.out]) Hx1.out ?_
      refine hK _ _ ?_
      clear hK K
      refine wpAny_done (by kernel_rfl) ?_ _
      clear g0 g1 g2 g3 g4 g5 g6 g7 ls cQ hex hbm
      go_wp2
      go_roundw
      case rel =>
        refine ⟨q + 1, by omega, by go_num, ?_, xd'.setCellsO (by omega) _ _, below_setCells (by omega) _ _ _ hB'⟩
        rw [Hcx.out]
        exact xs'.setAll (cx := cx) (by rw [Hxz.out, hol])
      case measure => simp [intOf]; omega
    · obtain rfl : q = nb := by omega
      have i0 : ¬ 64 * (q : Int) + 64 ≤ 64 * (q : Int) := by omega
      have i3 : 64 * (q : Int) + 64 ≤ 9223372036854775807 := by omega
      have hsum : sumL s.data.toList = outD (stL ((blks s.data.toList).take q)) := by rw [List.take_of_length_le (by rw [blks_len, Hnb.out]; exact Nat.le_refl _)]; rfl
      have hsl := stL_len ((blks s.data.toList).take q)
      generalize stL ((blks s.data.toList).take q) = st at *
      have Hsum := Lib.hid hsum
      have Hsl := Lib.hid hsl
      have lnn := xs.lt
      have hBz := xd.lt
      have xD := Bx.new wr z 31
      have xs := xs.alloc (.cells z 31)
      have xd := xd.alloc (.cells z 31)
      have hB := hB.alloc hB.size (.cells z 31)
      have hz1 : z.all (·.oneCell') = true := by rw [← HZ.out]; kernel_rfl
      have Hz1 := Lib.hid hz1
      clear hsum hsl hz1
      go_wp2_with (first
        | (refine wpList_build_zero rfl 31 rfl 32 5 Try.underlying31 z Z0.out rfl ?_)
        | (refine wpList_alloc_row rfl 31 rfl z Z0.out ?_)
        | (refine wpList_store_mid rfl 31 (.tmp 6) (.tmp 25) rfl wr.heap.size 0 z rfl rfl (there_bx xD (by exact Nat.le_refl _)) (by rw [sizeDg, Zs.out]) Hz1.out ?_))
      have xD := xD.setAll (cx := z) rfl
      have xs := xs.setCellsO (b' := wr.heap.size) (by omega) z.toList 0
      have xd := xd.setCellsO (b' := wr.heap.size) (by omega) z.toList 0
      have hB := below_setCells (b := wr.heap.size) (by omega) z.toList 0 _ hB
      generalize (wr.alloc (.cells z 31)).setCells wr.heap.size 0 z.toList = w5 at *
      generalize wr.heap.size = nD at *
      rw [← HZ.out, show Array.replicate 32 (Value.int .u8 0) = (bytesV (dP st 0)).toArray from rfl] at xD
      go_loopw [7] (fun i wr => ∃ k : Nat, k ≤ 32 ∧ i = .int .i64 k ∧ Bx wr nD (bytesV (dP st k)).toArray 31 ∧ Bx wr n3 (u32s st).toArray 89 ∧ Bx wr w.heap.size z 31 ∧ Below w.heap.size w wr) (fun i _ => 32 - (intOf i).toNat)
      case atStart => exact ⟨0, by omega, rfl, xD, xs, xd, hB⟩
      case round =>
        clear xD xs xd hB
        obtain ⟨k, hk, rfl, xD, xs, xd, hB⟩ := hrel
        by_cases hlt : k < 32
        · have hlt' : (k : Int) < 32 := by omega
          have j0 : (0 : Int) ≤ (k : Int) / 4 := by omega
          have j1 : (k : Int) / 4 < 8 := by omega
          have u0 : ((k : Int) / 4).toNat = k / 4 := by omega
          have j2 : 8 * ((k : Int) % 4) ≤ 24 := by omega
          have u1 : (24 - 8 * ((k : Int) % 4)).toNat = 24 - 8 * (k % 4) := by omega
          have j3 : (0 : Int) ≤ 24 - 8 * ((k : Int) % 4) := by omega
          have cS : wr.cell? ⟨n3, k / 4, none⟩ = some (.int .u32 (wv (st.getD (k / 4) 0))) := by rw [xs.cell, u32s_get (by rw [Hsl.out]; omega)]
          have lS := xs.lt
          obtain ⟨x0, cD⟩ : ∃ x0, wr.cell? ⟨nD, k, none⟩ = some (.int .u8 x0) := by
            have hDl := dP_len (st := st) (m := k) hk
            exact ⟨_, by rw [xD.cell, bytesV_get (by omega)]⟩
          have fD := xD.free k
          have lD := xD.lt
          go_wp2
          rw [show wv (st[k / 4]?.getD 0) / 2 ^ (24 - 8 * (k % 4)) % 256 = ((outB st k).toNat : Int) from out_val32 st k]
          go_roundw
          case rel =>
            refine ⟨k + 1, by omega, by go_num, ?_, xs.setO (a := ⟨nD, k, none⟩) (by simp; omega) _, xd.setO (a := ⟨nD, k, none⟩) (by simp; omega) _, below_set1 hB (by omega)⟩
            have := xD.set k (.int .u8 ((outB st k).toNat : Int))
            rw [bytesV_set, dP_set hlt] at this
            exact this
          case measure => simp [intOf]; omega
        · obtain rfl : k = 32 := by omega
          have hlt' : ¬ ((32 : Nat) : Int) < 32 := by omega
          rw [dP_all] at xD
          obtain ⟨cx, hcx⟩ : ∃ cx, (bytesV (outD st)).toArray = cx := ⟨_, rfl⟩
          have hxz : cx.size = 32 := by rw [← hcx]; simp [bytesV, outD_len]
          have hx1 : cx.all (·.oneCell') = true := by rw [← hcx]; exact all_oneCell_toArray (bytesV_one _)
          rw [hcx] at xD
          have Hcx := Lib.hid hcx
          have Hxz := Lib.hid hxz
          have Hx1 := Lib.hid hx1
          clear hcx hxz hx1
          go_wp2_with (first
            | (refine wpList_load_mid rfl 31 (.tmp 6) rfl nD 0 rfl cx.toList _ xD.range Try.underlying31 rfl (by rw [sizeDg]; simp [Hxz.out]) ?_)
            | (refine wpList_store_mid rfl 31 (.tmp 2) (.tmp 43) rfl w.heap.size 0 cx rfl rfl (there_bx xd (by rw [Hxz.out, Zs.out]; exact Nat.le_refl _)) (by rw [sizeDg, Hxz.out]) Hx1.out ?_))
          have xd2 := xd.setAll (cx := cx) (by rw [Hxz.out, Zs.out])
          refine bodyPost_ret (v := .agg cx) (results_cell_row (d := .array 32 5) Try.results67 _ _ w.heap.size _ _ _ rfl xd2 Try.underlying31 rfl (by rw [sizeDg, Hxz.out])) rfl ?_
          exact ⟨by rw [Hsum.out, ← Hcx.out]; rfl, below_setCells (Nat.le_refl _) _ _ _ hB⟩
end Go.Proofs.Ytfligkncdlocaaa
