/- The program's schedule of words. -/
import Derived.Test.YtfligkncdlocaaaShSch
namespace Go.Proofs.Ytfligkncdlocaaa
open Go.RowKit

theorem shl_or8 (x y : UInt32) : (x ||| y) <<< 8 = (x <<< 8) ||| (y <<< 8) := by
  apply UInt32.toBitVec_inj.1
  rw [UInt32.toBitVec_shiftLeft, UInt32.toBitVec_or, UInt32.toBitVec_or, UInt32.toBitVec_shiftLeft, UInt32.toBitVec_shiftLeft]
  show (x.toBitVec ||| y.toBitVec) <<< (8 : Nat) = x.toBitVec <<< (8:Nat) ||| y.toBitVec <<< (8:Nat)
  rw [BitVec.shiftLeft_or_distrib]
theorem shl_8_8 (x : UInt32) : (x <<< 8) <<< 8 = x <<< 16 := by
  apply UInt32.toBitVec_inj.1
  rw [UInt32.toBitVec_shiftLeft, UInt32.toBitVec_shiftLeft, UInt32.toBitVec_shiftLeft]
  show (x.toBitVec <<< (8:Nat)) <<< (8 : Nat) = x.toBitVec <<< (16:Nat)
  rw [← BitVec.shiftLeft_add]
theorem shl_16_8 (x : UInt32) : (x <<< 16) <<< 8 = x <<< 24 := by
  apply UInt32.toBitVec_inj.1
  rw [UInt32.toBitVec_shiftLeft, UInt32.toBitVec_shiftLeft, UInt32.toBitVec_shiftLeft]
  show (x.toBitVec <<< (16:Nat)) <<< (8 : Nat) = x.toBitVec <<< (24:Nat)
  rw [← BitVec.shiftLeft_add]
theorem be4_fold (a b c d : UInt32) : ((((((((0 : UInt32) <<< 8) ||| a) <<< 8) ||| b) <<< 8) ||| c) <<< 8) ||| d = (((a <<< 24) ||| (b <<< 16)) ||| (c <<< 8)) ||| d := by
  have h0 : (0 : UInt32) <<< 8 = 0 := rfl
  have h1 : ∀ x : UInt32, 0 ||| x = x := fun x => by apply UInt32.toBitVec_inj.1; simp
  rw [h0, h1]
  simp only [shl_or8, shl_8_8, shl_16_8]
theorem four_bytes (b : ByteArray) (k : Nat) (hb : 4 * k + 3 < b.size) : (b.extract (4 * k) (4 * k + 4)).data.toList = [b[4 * k], b[4 * k + 1], b[4 * k + 2], b[4 * k + 3]] := by
  have hz : b.data.size = b.size := rfl
  rw [ByteArray.data_extract, Array.toList_extract]
  have hl : 4 * k + 3 < b.data.toList.length := by simpa using hb
  simp only [List.extract_eq_take_drop, Nat.add_sub_cancel_left]
  rw [List.drop_eq_getElem_cons (by omega), List.drop_eq_getElem_cons (by omega), List.drop_eq_getElem_cons (by omega), List.drop_eq_getElem_cons (by omega)]
  simp [Nat.add_assoc]
  exact ⟨rfl, rfl, rfl, rfl⟩
/-- the first j bytes of a word -/
def pw (l : List UInt8) (j : Nat) : UInt32 := (l.take j).foldl (fun x c => (x <<< 8) ||| c.toUInt32) 0
theorem pw_succ {l : List UInt8} {j : Nat} (h : j < l.length) : pw l (j + 1) = ((pw l j) <<< 8) ||| l[j].toUInt32 := by
  unfold pw
  rw [List.take_succ_eq_append_getElem h, List.foldl_append]; rfl
theorem pw_raw (x : UInt32) (c : UInt8) : bits .or .u32 (wv x * 256 % 4294967296) ((c.toNat : Int) % 4294967296) = wv ((x <<< 8) ||| c.toUInt32) := by
  have s := shl32' x 8 (by decide)
  rw [show (2 : Int) ^ 8 = 256 by decide] at s
  rw [widen]
  show bits .or .u32 ((x.toNat : Int) * 256 % 4294967296) _ = _
  rw [s, bits_or32]; rfl
theorem pw_be (b : ByteArray) (W : List UInt32) (k : Nat) (hk : k < 16) (hb : 64 ≤ b.size) : pw (b.extract (4 * k) (4 * k + 4)).data.toList 4 = schedW b.data.toList W k := by
  rw [schedW_lo b W k hk (by omega) (by omega) (by omega) (by omega), four_bytes b k (by omega)]
  exact be4_fold _ _ _ _
theorem schedC_same (b : List UInt8) (k : Nat) (hk : k < 64) : (schedC b k).setIfInBounds k (.int .u32 (wv 0)) = schedC b k := by
  have h := schedC_zero b k hk
  apply Array.ext_getElem?
  intro i
  by_cases e : k = i
  · subst e
    have hs := schedC_size b k (by omega)
    rw [Array.getElem?_setIfInBounds_self_of_lt (by omega), h]; rfl
  · rw [Array.getElem?_setIfInBounds_ne e]
set_option maxRecDepth 100000 in
set_option maxHeartbeats 2000000 in
theorem sha_schedule (b : ByteArray) (hb : b.size = 64) (w : World) :
    Calls Try.prog 80 #[.string b] w fun e w' => e = .returned (.agg (u32s (schedK b.data.toList 64)).toArray) ∧ Below w.heap.size w w' := by
  obtain ⟨z, hz⟩ : ∃ z : Array Value, Array.replicate 64 (Value.int .u32 0) = z := ⟨_, rfl⟩
  have hz0 := zeroW
  rw [hz] at hz0
  have hzs : z.size = 64 := by rw [← hz]; simp
  have Z0 := Lib.hid hz0
  have Zs := Lib.hid hzs
  have hzc : z = schedC b.data.toList 0 := by rw [← hz]; rfl
  have Zc := Lib.hid hzc
  clear hz hz0 hzs hzc
  have hb1 : b.size ≤ 64 := by omega
  have hb2' : 64 ≤ b.size := by omega
  clear hb
  have xr := Bx.new w z 103 |>.alloc (.cells z 103)
  have xw := Bx.new (w.alloc (.cells z 103)) z 103
  have hB := (Below.one w (.cells z 103)).alloc (by simp) (.cells z 103)
  simp only [World.size_alloc] at xw
  go_enter Try.func80, Try.ntmps80
  go_wp2_with (refine wpList_alloc_row rfl 103 rfl z Z0.out ?_)
  generalize ((w.alloc (.cells z 103)).alloc (.cells z 103)) = w1 at *
  go_loopw [9] (fun i wr => ∃ k : Nat, k ≤ 64 ∧ i = .int .i64 k ∧ Bx wr (w.heap.size + 1) (schedC b.data.toList k) 103 ∧ Bx wr w.heap.size z 103 ∧ Below w.heap.size w wr) (fun i _ => 64 - (intOf i).toNat)
  case atStart => exact ⟨0, by omega, rfl, by rw [← Zc.out]; exact xw, xr, hB⟩
  case round =>
    clear xw xr hB
    obtain ⟨k, hk, rfl, xw, xr, hB⟩ := hrel
    by_cases hlt : k < 16
    · have i0 : (0 : Int) ≤ 4 * (k : Int) := by omega
      have i1 : (4 : Int) * (k : Int) + 4 ≤ (b.size : Int) := by omega
      have i2 : (4 : Int) * (k : Int) ≤ 4 * (k : Int) + 4 := by omega
      have t0 : (4 * (k : Int)).toNat = 4 * k := by omega
      have t1 : (4 * (k : Int) + 4).toNat = 4 * k + 4 := by omega
      have hex : (b.extract (4 * k) (4 * k + 4)).size ≤ maxLen := by rw [ByteArray.size_extract]; unfold maxLen; omega
      have hez : (b.extract (4 * k) (4 * k + 4)).size = 4 := by rw [ByteArray.size_extract]; omega
      have Hez := Lib.hid hez
      clear hez
      go_wp2_with (refine wpList_bytes rfl (.tmp 20) 9 73 5 rfl Try.underlying9 Try.underlying73 Try.underlying5 _ rfl hex ?_; intro w2 c2 hs2 hr2 hb2 hz2; rw [Hez.out] at hs2; rw [Hez.out])
      have xw2 := xw.belowAll hb2
      have xr2 := xr.belowAll hb2
      have hB2 := Below.then hB hb2 hB.size
      have hlw := xw.lt
      rw [← schedC_same b.data.toList k (by omega)] at xw2
      obtain ⟨bs, hbs⟩ : ∃ bs, (b.extract (4 * k) (4 * k + 4)).data.toList = bs := ⟨_, rfl⟩
      have hl4 : bs.length = 4 := by have h := Hez.out; rw [ByteArray.size_extract] at h; rw [← hbs]; simp; omega
      have Hl4 := Lib.hid hl4
      have Hbs := Lib.hid hbs
      rw [hbs] at hr2
      obtain ⟨nb, hnb⟩ : ∃ nb, wr.heap.size = nb := ⟨_, rfl⟩
      rw [hnb] at hr2 hlw ⊢
      clear hbs hl4 xw xr hB hb2 hz2 hs2 hnb
      go_loopw [23] (fun i wi => ∃ j : Nat, j ≤ 4 ∧ i = .int .i64 j ∧ Bx wi (w.heap.size + 1) ((schedC b.data.toList k).setIfInBounds k (.int .u32 (wv (pw bs j)))) 103 ∧ Bx wi w.heap.size z 103 ∧ RowAt (· = nb) wi (some ⟨nb, 0, none⟩) (bytesV bs) ∧ Below w.heap.size w wi) (fun i _ => 4 - (intOf i).toNat)
      case atStart => exact ⟨0, by omega, rfl, xw2, xr2, hr2, hB2⟩
      case round =>
        clear xw2 xr2 hr2 hB2
        obtain ⟨j, hj, rfl, xw, xr, hr, hB⟩ := hrel
        by_cases hj4 : j < 4
        · have hjl : j < bs.length := by have := Hl4.out; omega
          have hcb : wr.cell? ⟨nb, j, none⟩ = some (.int .u8 (bs[j].toNat : Int)) := by
            obtain ⟨b', off, e, hc, _⟩ := hr j (by simpa [bytesV] using hjl)
            obtain ⟨rfl, rfl⟩ : nb = b' ∧ 0 = off := by simpa using e
            rw [Nat.zero_add] at hc
            rw [hc]; simp [bytesV]
          have hcw : wr.cell? ⟨w.heap.size + 1, k, none⟩ = some (.int .u32 (wv (pw bs j))) := by
            rw [xw.cell, Array.getElem?_setIfInBounds_self_of_lt (by rw [schedC_size _ _ (by omega)]; omega)]
          have fw := xw.free k
          have lw := xw.lt
          go_wp2
          rw [pw_raw, ← pw_succ hjl]
          go_roundw
          case rel =>
            refine ⟨j + 1, by omega, by go_num, ?_, xr.setO (a := ⟨w.heap.size + 1, k, none⟩) (by simp) _, hr.same ((Same.refl _ _).set (a := ⟨w.heap.size + 1, k, none⟩) (by simp; omega) _), below_set1 hB (by omega)⟩
            have := xw.set k (.int .u32 (wv (pw bs (j + 1))))
            simpa using this
          case measure => simp [intOf]; omega
        · obtain rfl : j = 4 := by omega
          have hpw : pw bs 4 = schedW b.data.toList (schedK b.data.toList k) k := by rw [← Hbs.out]; exact pw_be b _ k (by omega) hb2'
          rw [hpw, schedC_set _ _ (by omega)] at xw
          clear hpw
          go_wp2
          go_roundw
          case rel => exact ⟨k + 1, by omega, by go_num, xw, xr, hB⟩
          case measure => simp [intOf]; omega
    · by_cases hlt2 : k < 64
      · have hk1 : 16 ≤ k := by omega
        have lw0 := xw.lt
        obtain ⟨x, hx⟩ : ∃ x, (schedK b.data.toList k).getD (k - 15) 0 = x := ⟨_, rfl⟩
        have cx : wr.cell? ⟨w.heap.size + 1, k - 15, none⟩ = some (.int .u32 (wv x)) := by rw [xw.cell, schedC_get _ _ _ (by omega), hx]
        have sx : IntKind.i64.wrap ((k : Int) - 15) = (k : Int) - 15 := IntWalk.i64_in _ (by omega)
        have jx : (0 : Int) ≤ (k : Int) - 15 := by omega
        have ux : (k : Int) - 15 < 64 := by omega
        have tx : ((k : Int) - 15).toNat = k - 15 := by omega
        obtain ⟨y, hy⟩ : ∃ y, (schedK b.data.toList k).getD (k - 2) 0 = y := ⟨_, rfl⟩
        have cy : wr.cell? ⟨w.heap.size + 1, k - 2, none⟩ = some (.int .u32 (wv y)) := by rw [xw.cell, schedC_get _ _ _ (by omega), hy]
        have sy : IntKind.i64.wrap ((k : Int) - 2) = (k : Int) - 2 := IntWalk.i64_in _ (by omega)
        have jy : (0 : Int) ≤ (k : Int) - 2 := by omega
        have uy : (k : Int) - 2 < 64 := by omega
        have ty : ((k : Int) - 2).toNat = k - 2 := by omega
        obtain ⟨p, hp⟩ : ∃ p, (schedK b.data.toList k).getD (k - 7) 0 = p := ⟨_, rfl⟩
        have cp : wr.cell? ⟨w.heap.size + 1, k - 7, none⟩ = some (.int .u32 (wv p)) := by rw [xw.cell, schedC_get _ _ _ (by omega), hp]
        have sp : IntKind.i64.wrap ((k : Int) - 7) = (k : Int) - 7 := IntWalk.i64_in _ (by omega)
        have jp : (0 : Int) ≤ (k : Int) - 7 := by omega
        have up : (k : Int) - 7 < 64 := by omega
        have tp : ((k : Int) - 7).toNat = k - 7 := by omega
        obtain ⟨q, hq⟩ : ∃ q, (schedK b.data.toList k).getD (k - 16) 0 = q := ⟨_, rfl⟩
        have cq : wr.cell? ⟨w.heap.size + 1, k - 16, none⟩ = some (.int .u32 (wv q)) := by rw [xw.cell, schedC_get _ _ _ (by omega), hq]
        have sq : IntKind.i64.wrap ((k : Int) - 16) = (k : Int) - 16 := IntWalk.i64_in _ (by omega)
        have jq : (0 : Int) ≤ (k : Int) - 16 := by omega
        have uq : (k : Int) - 16 < 64 := by omega
        have tq : ((k : Int) - 16).toNat = k - 16 := by omega
        have hv : schedW b.data.toList (schedK b.data.toList k) k = sig1 y + p + sig0 x + q := by unfold schedW; rw [if_neg (by omega), hx, hy, hp, hq]
        have Hv := Lib.hid hv
        clear hx hy hp hq hv
        have hxor := wv_xor
        have hadd := wv_add
        have hadd' := wv_add'
        go_wp2
        go_quiet (fail)
        have cQ : ∀ (l : Lat (wr.drewN nq)) (b o : Nat), b < wr.heap.size → l.w.cell? ⟨b, o, none⟩ = wr.cell? ⟨b, o, none⟩ := fun l b o h => Lat.cells (wr.drewN nq) l b o h
        go_wp2
        refine wp_region_lz 29 1 #[true, true, true, true, true, true, true, true, true, true, true, true, true, true, true, true, true, true, true, true, true, true, true, true, true, true, true, true, true, false] (fun i => if i = 2 then some (annK (.int .u32 (wv (rotR y 17)))) else if i = 4 then some (annK (.int .u32 (wv (rotR y 19)))) else if i = 15 then some (annK (.int .u32 (wv (rotR x 7)))) else if i = 17 then some (annK (.int .u32 (wv (rotR x 18)))) else none) (by kernel_rfl) (by rfl) (by rfl) (by kernel_rfl) ?_
        simp only [List.take_succ_cons, List.take_zero]
        refine LW.block 2 2 (by rfl) (by kernel_rfl) (by kernel_rfl) ?_
        simp only [List.take_succ_cons, List.take_zero, List.drop_succ_cons, List.drop_zero]
        repeat (first | go_big_quiet_skip | (go_big_quiet_want; go_big_quiet_op; go_big_quiet_on))
        refine wpQuiet_nil ?_
        refine LW.lzy _ (by rfl) (by rfl) ?_ ?_
        · intro yL _
          unfold lzAt
          go_simp
          exact lz_const (sha_rot y 17 17 17 rfl rfl (by decide) (by decide) _)
        intro _
        simp only [Act.put, List.setIfInBounds_toArray, List.set_cons_zero, List.set_cons_succ]
        (try simp only [annK])
        refine LW.block 1 4 (by rfl) (by kernel_rfl) (by kernel_rfl) ?_
        simp only [List.take_succ_cons, List.take_zero, List.drop_succ_cons, List.drop_zero]
        repeat (first | go_big_quiet_skip | (go_big_quiet_want; go_big_quiet_op; go_big_quiet_on))
        refine wpQuiet_nil ?_
        refine LW.lzy _ (by rfl) (by rfl) ?_ ?_
        · intro yL _
          unfold lzAt
          go_simp
          exact lz_const (sha_rot y 19 19 19 rfl rfl (by decide) (by decide) _)
        intro _
        simp only [Act.put, List.setIfInBounds_toArray, List.set_cons_zero, List.set_cons_succ]
        (try simp only [annK])
        refine LW.block 10 15 (by rfl) (by kernel_rfl) (by kernel_rfl) ?_
        simp only [List.take_succ_cons, List.take_zero, List.drop_succ_cons, List.drop_zero]
        repeat (first | go_big_quiet_skip | (go_big_quiet_want; go_big_quiet_op; go_big_quiet_on))
        refine wpQuiet_nil ?_
        refine LW.lzy _ (by rfl) (by rfl) ?_ ?_
        · intro yL _
          unfold lzAt
          go_simp
          exact lz_const (sha_rot x 7 7 7 rfl rfl (by decide) (by decide) _)
        intro _
        simp only [Act.put, List.setIfInBounds_toArray, List.set_cons_zero, List.set_cons_succ]
        (try simp only [annK])
        refine LW.block 1 17 (by rfl) (by kernel_rfl) (by kernel_rfl) ?_
        simp only [List.take_succ_cons, List.take_zero, List.drop_succ_cons, List.drop_zero]
        repeat (first | go_big_quiet_skip | (go_big_quiet_want; go_big_quiet_op; go_big_quiet_on))
        refine wpQuiet_nil ?_
        refine LW.lzy _ (by rfl) (by rfl) ?_ ?_
        · intro yL _
          unfold lzAt
          go_simp
          exact lz_const (sha_rot x 18 18 18 rfl rfl (by decide) (by decide) _)
        intro _
        simp only [Act.put, List.setIfInBounds_toArray, List.set_cons_zero, List.set_cons_succ]
        (try simp only [annK])
        refine LW.block 11 29 (by rfl) (by kernel_rfl) (by kernel_rfl) ?_
        simp only [List.take_succ_cons, List.take_zero, List.drop_succ_cons, List.drop_zero]
        repeat (first | go_big_quiet_skip | (go_big_quiet_want; go_big_quiet_op; go_big_quiet_on))
        refine wpQuiet_nil ?_
        refine LW.done ?_
        intro W' hG
        have hbW : Below wr.heap.size wr W' := (Below.drewN (Below.refl _ wr) nq).trans (hG.below.mono (Nat.le_refl _))
        have xw2 := xw.belowAll hbW
        have cw : W'.cell? ⟨w.heap.size + 1, k, none⟩ = some (.int .u32 0) := by rw [xw2.cell, schedC_zero _ _ hlt2]
        have fw := xw2.free k
        have lw := xw2.lt
        clear cx cy cp cq cQ lw0
        refine wpAny_ready (rs := [29]) (by kernel_rfl) (by simp) ?_
        refine AllReady.cons rfl (fun K hK => ?_) AllReady.nil
        go_simp
        refine hK _ _ ?_
        clear hK K
        refine wpAny_done (by kernel_rfl) ?_ _
        go_wp2
        rw [sched_raw x y p q]
        go_roundw
        case rel =>
          refine ⟨k + 1, by omega, by go_num, ?_, (xr.belowAll hbW).setO (a := ⟨w.heap.size + 1, k, none⟩) (by simp) _, below_set1 (Below.then hB hbW hB.size) (by omega)⟩
          have := xw2.set k (.int .u32 (wv (schedW b.data.toList (schedK b.data.toList k) k)))
          rw [schedC_set _ _ hlt2, Hv.out] at this
          exact this
        case measure => simp [intOf]; omega
      · obtain rfl : k = 64 := by omega
        rw [show ((64 : Nat) : Int) = 64 from rfl]
        have hcx : schedC b.data.toList 64 = (u32s (schedK b.data.toList 64)).toArray := by simp [schedC]
        rw [hcx] at xw
        have hl := schedK_len b.data.toList 64
        obtain ⟨cx, hcx⟩ : ∃ cx, (u32s (schedK b.data.toList 64)).toArray = cx := ⟨_, rfl⟩
        have hsz : cx.size = 64 := by rw [← hcx]; simp [u32s, hl]
        have h1 : cx.all (·.oneCell') = true := by rw [← hcx]; exact all_oneCell_toArray (fun v hv => by obtain ⟨_, _, rfl⟩ := List.mem_map.1 hv; rfl)
        rw [hcx] at xw
        have Hcx := Lib.hid hcx
        have H1 := Lib.hid h1
        have Hs := Lib.hid hsz
        clear h1 hsz hcx hl
        go_wp2_with (first
          | (refine wpList_load_mid rfl 103 (.tmp 3) rfl (w.heap.size + 1) 0 rfl cx.toList _ xw.range Try.underlying103 rfl (by rw [sizeW]; simp [Hs.out]) ?_)
          | (refine wpList_store_mid rfl 103 (.tmp 2) (.tmp 75) rfl w.heap.size 0 cx rfl rfl (there_bx xr (by rw [Hs.out, Zs.out]; exact Nat.le_refl _)) (by rw [sizeW, Hs.out]) H1.out ?_))
        have xr2 := xr.setAll (cx := cx) (by rw [Hs.out, Zs.out])
        refine bodyPost_ret (v := .agg cx) (results_cell_row (d := .array 64 86) Try.results80 _ _ w.heap.size _ _ _ rfl xr2 Try.underlying103 rfl (by rw [sizeW, Hs.out])) rfl ?_
        exact ⟨by rw [Hcx.out], below_setCells (Nat.le_refl _) _ _ _ hB⟩
end Go.Proofs.Ytfligkncdlocaaa
