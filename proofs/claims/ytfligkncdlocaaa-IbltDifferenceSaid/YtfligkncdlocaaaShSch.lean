/- The schedule of words of a block, of the program and of the reference. -/
import Derived.Test.YtfligkncdlocaaaShRot
import Derived.Test.YtfligkncdlocaaaArr
namespace Go.Proofs.Ytfligkncdlocaaa
open Go.RowKit

def u32s (l : List UInt32) : List Value := l.map u32V
def be4 (a b c d : UInt8) : UInt32 := (((a.toUInt32 <<< 24) ||| (b.toUInt32 <<< 16)) ||| (c.toUInt32 <<< 8)) ||| d.toUInt32
def sig0 (x : UInt32) : UInt32 := rotR x 7 ^^^ rotR x 18 ^^^ (x >>> 3)
def sig1 (y : UInt32) : UInt32 := rotR y 17 ^^^ rotR y 19 ^^^ (y >>> 10)
def schedW (b : List UInt8) (W : List UInt32) (t : Nat) : UInt32 :=
  if t < 16 then be4 (b.getD (4 * t) 0) (b.getD (4 * t + 1) 0) (b.getD (4 * t + 2) 0) (b.getD (4 * t + 3) 0)
  else sig1 (W.getD (t - 2) 0) + W.getD (t - 7) 0 + sig0 (W.getD (t - 15) 0) + W.getD (t - 16) 0
def schedK (b : List UInt8) : Nat → List UInt32
  | 0 => []
  | k + 1 => schedK b k ++ [schedW b (schedK b k) k]
theorem schedK_len (b : List UInt8) (k : Nat) : (schedK b k).length = k := by
  induction k with
  | zero => rfl
  | succ k ih => simp [schedK, ih]
/-- the words as they lie after k rounds -/
def schedC (b : List UInt8) (k : Nat) : Array Value := (u32s (schedK b k) ++ List.replicate (64 - k) (Value.int .u32 0)).toArray

theorem sizeW : (Try.prog.info? 103).map (·.size) = some 64 := by kernel_rfl
theorem zeroW : (Try.prog.info? 103).map (·.zero) = some (some (.agg (Array.replicate 64 (.int .u32 0)))) := by kernel_rfl
theorem sizeU32 : ((Try.prog.info? 86).map (·.size)).isSome = true := by kernel_rfl
theorem schedC_size (b : List UInt8) (k : Nat) (hk : k ≤ 64) : (schedC b k).size = 64 := by simp [schedC, u32s, schedK_len]; omega
theorem schedC_get (b : List UInt8) (k j : Nat) (hj : j < k) : (schedC b k)[j]? = some (.int .u32 (wv ((schedK b k).getD j 0))) := by
  have hl := schedK_len b k
  simp [schedC, u32s, hl, hj, List.getElem?_append, u32V]
theorem schedC_set (b : List UInt8) (k : Nat) (hk : k < 64) : (schedC b k).setIfInBounds k (.int .u32 (wv (schedW b (schedK b k) k))) = schedC b (k + 1) := by
  have hl := schedK_len b k
  unfold schedC
  rw [show 64 - k = (64 - (k + 1)) + 1 by omega, List.replicate_succ]
  simp only [List.setIfInBounds_toArray, schedK, u32s, List.map_append, List.map_cons, List.map_nil]
  rw [List.set_append_right _ _ (by simp [hl])]
  simp [hl, u32V]
theorem schedC_zero (b : List UInt8) (k : Nat) (hk : k < 64) : (schedC b k)[k]? = some (.int .u32 0) := by
  have hl := schedK_len b k
  unfold schedC
  rw [show 64 - k = (64 - (k + 1)) + 1 by omega, List.replicate_succ]
  simp [u32s, hl]
theorem widen (c : UInt8) : (c.toNat : Int) % 4294967296 = (c.toUInt32.toNat : Int) := by
  have := c.toNat_lt
  simp; omega
theorem be_raw (a b c d : UInt8) : bits .or .u32 (bits .or .u32 (bits .or .u32 ((a.toNat : Int) % 4294967296 * 16777216 % 4294967296) ((b.toNat : Int) % 4294967296 * 65536 % 4294967296)) ((c.toNat : Int) % 4294967296 * 256 % 4294967296)) ((d.toNat : Int) % 4294967296) = ((be4 a b c d).toNat : Int) := by
  rw [widen, widen, widen, widen]
  have s1 := shl32' a.toUInt32 24 (by decide)
  have s2 := shl32' b.toUInt32 16 (by decide)
  have s3 := shl32' c.toUInt32 8 (by decide)
  rw [show (2 : Int) ^ 24 = 16777216 by decide] at s1
  rw [show (2 : Int) ^ 16 = 65536 by decide] at s2
  rw [show (2 : Int) ^ 8 = 256 by decide] at s3
  rw [s1, s2, s3, bits_or32, bits_or32, bits_or32]
  rfl
theorem schedW_lo (b : ByteArray) (W : List UInt32) (k : Nat) (hk : k < 16) (h0 : 4 * k < b.size) (h1 : 4 * k + 1 < b.size) (h2 : 4 * k + 2 < b.size) (h3 : 4 * k + 3 < b.size) : schedW b.data.toList W k = be4 b[4 * k] b[4 * k + 1] b[4 * k + 2] b[4 * k + 3] := by
  have e : ∀ i (h : i < b.size), b.data.toList.getD i 0 = b[i] := fun i h => by
    have : i < b.data.toList.length := by simpa using h
    simp only [List.getD, List.getElem?_eq_getElem this, Option.getD_some, Array.getElem_toList]
    rfl
  unfold schedW
  rw [if_pos hk, e _ h0, e _ h1, e _ h2, e _ h3]
theorem sched_raw (x y p q : UInt32) : (bits .xor .u32 (wv (rotR y 17 ^^^ rotR y 19)) (wv y / 1024) + wv p + bits .xor .u32 (wv (rotR x 7 ^^^ rotR x 18)) (wv x / 8) + wv q) % 4294967296 = wv (sig1 y + p + sig0 x + q) := by
  have e1 : wv y / (1024 : Int) = wv (y >>> 10) := wv_shr y 10 (by decide)
  have e2 : wv x / (8 : Int) = wv (x >>> 3) := wv_shr x 3 (by decide)
  rw [e1, e2, wv_xor, wv_xor]
  show (wv (sig1 y) + wv p + wv (sig0 x) + wv q) % 4294967296 = _
  generalize sig1 y = s
  generalize sig0 x = r
  unfold wv
  simp only [UInt32.toNat_add]
  omega
set_option maxRecDepth 100000 in
set_option maxHeartbeats 2000000 in
theorem ref02_schedule (b : ByteArray) (hb : b.size = 64) (w : World) :
    Calls Try.prog 85 #[.string b] w fun e w' => e = .returned (.agg (u32s (schedK b.data.toList 64)).toArray) ∧ Below w.heap.size w w' := by
  obtain ⟨z, hz⟩ : ∃ z : Array Value, Array.replicate 64 (Value.int .u32 0) = z := ⟨_, rfl⟩
  have hz0 := zeroW
  rw [hz] at hz0
  have hzs : z.size = 64 := by rw [← hz]; simp
  have hz1 : z.all (·.oneCell') = true := by rw [← hz]; exact all_oneCell_toArray (cs := List.replicate 64 (Value.int .u32 0)) (fun v hv => by rw [List.eq_of_mem_replicate hv]; rfl)
  have Z0 := Lib.hid hz0
  have Zs := Lib.hid hzs
  have Z1 := Lib.hid hz1
  have hzc : z = schedC b.data.toList 0 := by rw [← hz]; rfl
  have Zc := Lib.hid hzc
  clear hz hz0 hzs hz1 hzc
  have hb1 : b.size ≤ 64 := by omega
  have hb2 : 64 ≤ b.size := by omega
  clear hb
  have xr := Bx.new w z 103 |>.alloc (.cells z 103)
  have xw := Bx.new (w.alloc (.cells z 103)) z 103
  have hB := (Below.one w (.cells z 103)).alloc (by simp) (.cells z 103)
  go_enter Try.func85, Try.ntmps85
  go_wp2_with (first
    | (refine wpList_alloc_row rfl 103 rfl z Z0.out ?_)
    | (refine wpList_build_zero rfl 103 rfl 64 86 Try.underlying103 z Z0.out sizeU32 ?_)
    | (refine wpList_store_mid rfl 103 (.tmp 3) (.tmp 8) rfl (w.alloc (.cells z 103)).heap.size 0 z rfl rfl (there_bx xw (Nat.le_refl _)) (by rw [sizeW, Zs.out]) Z1.out ?_))
  simp only [World.size_alloc] at xw
  have xw2 := xw.setAll (cx := z) rfl
  have xr2 := xr.setCellsO (b' := w.heap.size + 1) (by simp) z.toList 0
  have hB2 := below_setCells (b := w.heap.size + 1) (by omega) z.toList 0 _ hB
  generalize ((w.alloc (.cells z 103)).alloc (.cells z 103)).setCells (w.heap.size + 1) 0 z.toList = w1 at *
  clear xw xr hB
  go_loopw [4] (fun i wr => ∃ k : Nat, k ≤ 16 ∧ i = .int .i64 k ∧ Bx wr (w.heap.size + 1) (schedC b.data.toList k) 103 ∧ Bx wr w.heap.size z 103 ∧ Below w.heap.size w wr) (fun i _ => 16 - (intOf i).toNat)
  case atStart => exact ⟨0, by omega, rfl, by rw [← Zc.out]; exact xw2, xr2, hB2⟩
  case round =>
    clear xw2 xr2 hB2
    obtain ⟨k, hk, rfl, xw, xr, hB⟩ := hrel
    by_cases hlt : k < 16
    · have n0 : 4 * k < b.size := by omega
      have n1 : 4 * k + 1 < b.size := by omega
      have n2 : 4 * k + 2 < b.size := by omega
      have n3 : 4 * k + 3 < b.size := by omega
      have i0 : (4 : Int) * (k : Int) < (b.size : Int) := by omega
      have i1 : (4 : Int) * (k : Int) + 1 < (b.size : Int) := by omega
      have i2 : (4 : Int) * (k : Int) + 2 < (b.size : Int) := by omega
      have i3 : (4 : Int) * (k : Int) + 3 < (b.size : Int) := by omega
      have j0 : (0 : Int) ≤ 4 * (k : Int) := by omega
      have j1 : (0 : Int) ≤ 4 * (k : Int) + 1 := by omega
      have j2 : (0 : Int) ≤ 4 * (k : Int) + 2 := by omega
      have j3 : (0 : Int) ≤ 4 * (k : Int) + 3 := by omega
      have t0 : (4 * (k : Int)).toNat = 4 * k := by omega
      have t1 : (4 * (k : Int) + 1).toNat = 4 * k + 1 := by omega
      have t2 : (4 * (k : Int) + 2).toNat = 4 * k + 2 := by omega
      have t3 : (4 * (k : Int) + 3).toNat = 4 * k + 3 := by omega
      have cQ := Lat.cells wr
      go_wp2
      refine wp_region_lz 31 1 #[true, true, true, true, true, true, true, true, true, true, true, true, true, true, true, true, true, true, true, true, true, true, true, true, true, true, true, true, true, true, true, false] (fun _ => none) (by kernel_rfl) (by rfl) (by rfl) (by kernel_rfl) ?_
      simp only [List.take_succ_cons, List.take_zero]
      refine LW.block 31 31 (by rfl) (by kernel_rfl) (by kernel_rfl) ?_
      simp only [List.take_succ_cons, List.take_zero, List.drop_succ_cons, List.drop_zero]
      repeat (first | go_big_quiet_skip | (go_big_quiet_want; go_big_quiet_op; go_big_quiet_on))
      refine wpQuiet_nil ?_
      refine LW.done ?_
      intro W' hG
      have xw2 := xw.belowAll hG.below
      have cw : W'.cell? ⟨w.heap.size + 1, k, none⟩ = some (.int .u32 0) := by rw [xw2.cell, schedC_zero _ _ (by omega)]
      have fw := xw2.free k
      have lw := xw2.lt
      refine wpAny_ready (rs := [31]) (by kernel_rfl) (by simp) ?_
      refine AllReady.cons rfl (fun K hK => ?_) AllReady.nil
      go_simp
      refine hK _ _ ?_
      clear hK K
      refine wpAny_done (by kernel_rfl) ?_ _
      go_wp2
      have hv := (be_raw b[4 * k] b[4 * k + 1] b[4 * k + 2] b[4 * k + 3]).trans (congrArg wv (schedW_lo b (schedK b.data.toList k) k hlt n0 n1 n2 n3).symm)
      rw [hv]
      have Hv := Lib.hid hv
      clear hv
      go_roundw
      case rel =>
        refine ⟨k + 1, by omega, by go_num, ?_, (xr.belowAll hG.below).setO (a := ⟨w.heap.size + 1, k, none⟩) (by simp) _, below_set1 (Below.then hB hG.below hB.size) (by omega)⟩
        have := xw2.set k (.int .u32 (wv (schedW b.data.toList (schedK b.data.toList k) k)))
        rw [schedC_set _ _ (by omega)] at this
        exact this
      case measure => simp [intOf]; omega
    · obtain rfl : k = 16 := by omega
      clear hk hlt
      rw [show ((16 : Nat) : Int) = 16 from rfl]
      go_wp2
      go_loopw [5] (fun i wr => ∃ k : Nat, 16 ≤ k ∧ k ≤ 64 ∧ i = .int .i64 k ∧ Bx wr (w.heap.size + 1) (schedC b.data.toList k) 103 ∧ Bx wr w.heap.size z 103 ∧ Below w.heap.size w wr) (fun i _ => 64 - (intOf i).toNat)
      case atStart => exact ⟨16, by omega, by omega, rfl, xw, xr, hB⟩
      case round =>
        clear xw xr hB
        obtain ⟨k, hk1, hk2, rfl, xw, xr, hB⟩ := hrel
        by_cases hlt : k < 64
        · have lw0 := xw.lt
          obtain ⟨x, hx⟩ : ∃ x, (schedK b.data.toList k).getD (k - 15) 0 = x := ⟨_, rfl⟩
          have cx : wr.cell? ⟨w.heap.size + 1, k - 15, none⟩ = some (.int .u32 (wv x)) := by rw [xw.cell, schedC_get _ _ _ (by omega), hx]
          have sx : IntKind.i64.wrap ((k : Int) - 15) = (k : Int) - 15 := IntWalk.i64_in _ (by omega)
          have jx : (0 : Int) ≤ (k : Int) - 15 := by omega
          have ux : (k : Int) - 15 < 64 := by omega
          have tx : ((k : Int) - 15).toNat = k - 15 := by omega
          obtain ⟨y, hy⟩ : ∃ y, (schedK b.data.toList k).getD (k - 2) 0 = y := ⟨_, rfl⟩
          have cy : wr.cell? ⟨w.heap.size + 1, k - 2, none⟩ = some (.int .u32 (wv y)) := by rw [xw.cell, schedC_get _ _ _ (by omega), hy]
          have sy : IntKind.i64.wrap ((k : Int) - 2) = (k : Int) - 2 := IntWalk.i64_in _ (by omega)
          have jy : (0 : Int) ≤ (k : Int) - 2 := by omega
          have uy : (k : Int) - 2 < 64 := by omega
          have ty : ((k : Int) - 2).toNat = k - 2 := by omega
          obtain ⟨p, hp⟩ : ∃ p, (schedK b.data.toList k).getD (k - 7) 0 = p := ⟨_, rfl⟩
          have cp : wr.cell? ⟨w.heap.size + 1, k - 7, none⟩ = some (.int .u32 (wv p)) := by rw [xw.cell, schedC_get _ _ _ (by omega), hp]
          have sp : IntKind.i64.wrap ((k : Int) - 7) = (k : Int) - 7 := IntWalk.i64_in _ (by omega)
          have jp : (0 : Int) ≤ (k : Int) - 7 := by omega
          have up : (k : Int) - 7 < 64 := by omega
          have tp : ((k : Int) - 7).toNat = k - 7 := by omega
          obtain ⟨q, hq⟩ : ∃ q, (schedK b.data.toList k).getD (k - 16) 0 = q := ⟨_, rfl⟩
          have cq : wr.cell? ⟨w.heap.size + 1, k - 16, none⟩ = some (.int .u32 (wv q)) := by rw [xw.cell, schedC_get _ _ _ (by omega), hq]
          have sq : IntKind.i64.wrap ((k : Int) - 16) = (k : Int) - 16 := IntWalk.i64_in _ (by omega)
          have jq : (0 : Int) ≤ (k : Int) - 16 := by omega
          have uq : (k : Int) - 16 < 64 := by omega
          have tq : ((k : Int) - 16).toNat = k - 16 := by omega
          have hv : schedW b.data.toList (schedK b.data.toList k) k = sig1 y + p + sig0 x + q := by unfold schedW; rw [if_neg (by omega), hx, hy, hp, hq]
          have Hv := Lib.hid hv
          clear hx hy hp hq hv
          have hxor := wv_xor
          have hadd := wv_add
          have hadd' := wv_add'
          go_wp2
          go_quiet (fail)
          have cQ : ∀ (l : Lat (wr.drewN nq)) (b o : Nat), b < wr.heap.size → l.w.cell? ⟨b, o, none⟩ = wr.cell? ⟨b, o, none⟩ := fun l b o h => Lat.cells (wr.drewN nq) l b o h
          go_wp2
          refine wp_region_lz 29 1 #[true, true, true, true, true, true, true, true, true, true, true, true, true, true, true, true, true, true, true, true, true, true, true, true, true, true, true, true, true, false] (fun i => if i = 2 then some (annK (.int .u32 (wv (rotR y 17)))) else if i = 4 then some (annK (.int .u32 (wv (rotR y 19)))) else if i = 15 then some (annK (.int .u32 (wv (rotR x 7)))) else if i = 17 then some (annK (.int .u32 (wv (rotR x 18)))) else none) (by kernel_rfl) (by rfl) (by rfl) (by kernel_rfl) ?_
          simp only [List.take_succ_cons, List.take_zero]
          refine LW.block 2 2 (by rfl) (by kernel_rfl) (by kernel_rfl) ?_
          simp only [List.take_succ_cons, List.take_zero, List.drop_succ_cons, List.drop_zero]
          repeat (first | go_big_quiet_skip | (go_big_quiet_want; go_big_quiet_op; go_big_quiet_on))
          refine wpQuiet_nil ?_
          refine LW.lzy _ (by rfl) (by rfl) ?_ ?_
          · intro yL _
            unfold lzAt
            go_simp
            exact lz_const (ref02_rot y 17 17 17 rfl rfl (by decide) (by decide) _)
          intro _
          simp only [Act.put, List.setIfInBounds_toArray, List.set_cons_zero, List.set_cons_succ]
          (try simp only [annK])
          refine LW.block 1 4 (by rfl) (by kernel_rfl) (by kernel_rfl) ?_
          simp only [List.take_succ_cons, List.take_zero, List.drop_succ_cons, List.drop_zero]
          repeat (first | go_big_quiet_skip | (go_big_quiet_want; go_big_quiet_op; go_big_quiet_on))
          refine wpQuiet_nil ?_
          refine LW.lzy _ (by rfl) (by rfl) ?_ ?_
          · intro yL _
            unfold lzAt
            go_simp
            exact lz_const (ref02_rot y 19 19 19 rfl rfl (by decide) (by decide) _)
          intro _
          simp only [Act.put, List.setIfInBounds_toArray, List.set_cons_zero, List.set_cons_succ]
          (try simp only [annK])
          refine LW.block 10 15 (by rfl) (by kernel_rfl) (by kernel_rfl) ?_
          simp only [List.take_succ_cons, List.take_zero, List.drop_succ_cons, List.drop_zero]
          repeat (first | go_big_quiet_skip | (go_big_quiet_want; go_big_quiet_op; go_big_quiet_on))
          refine wpQuiet_nil ?_
          refine LW.lzy _ (by rfl) (by rfl) ?_ ?_
          · intro yL _
            unfold lzAt
            go_simp
            exact lz_const (ref02_rot x 7 7 7 rfl rfl (by decide) (by decide) _)
          intro _
          simp only [Act.put, List.setIfInBounds_toArray, List.set_cons_zero, List.set_cons_succ]
          (try simp only [annK])
          refine LW.block 1 17 (by rfl) (by kernel_rfl) (by kernel_rfl) ?_
          simp only [List.take_succ_cons, List.take_zero, List.drop_succ_cons, List.drop_zero]
          repeat (first | go_big_quiet_skip | (go_big_quiet_want; go_big_quiet_op; go_big_quiet_on))
          refine wpQuiet_nil ?_
          refine LW.lzy _ (by rfl) (by rfl) ?_ ?_
          · intro yL _
            unfold lzAt
            go_simp
            exact lz_const (ref02_rot x 18 18 18 rfl rfl (by decide) (by decide) _)
          intro _
          simp only [Act.put, List.setIfInBounds_toArray, List.set_cons_zero, List.set_cons_succ]
          (try simp only [annK])
          refine LW.block 11 29 (by rfl) (by kernel_rfl) (by kernel_rfl) ?_
          simp only [List.take_succ_cons, List.take_zero, List.drop_succ_cons, List.drop_zero]
          repeat (first | go_big_quiet_skip | (go_big_quiet_want; go_big_quiet_op; go_big_quiet_on))
          refine wpQuiet_nil ?_
          refine LW.done ?_
          intro W' hG
          have hbW : Below wr.heap.size wr W' := (Below.drewN (Below.refl _ wr) nq).trans (hG.below.mono (Nat.le_refl _))
          have xw2 := xw.belowAll hbW
          have cw : W'.cell? ⟨w.heap.size + 1, k, none⟩ = some (.int .u32 0) := by rw [xw2.cell, schedC_zero _ _ hlt]
          have fw := xw2.free k
          have lw := xw2.lt
          clear cx cy cp cq cQ lw0
          refine wpAny_ready (rs := [29]) (by kernel_rfl) (by simp) ?_
          refine AllReady.cons rfl (fun K hK => ?_) AllReady.nil
          go_simp
          refine hK _ _ ?_
          clear hK K
          refine wpAny_done (by kernel_rfl) ?_ _
          go_wp2
          rw [sched_raw x y p q]
          go_roundw
          case rel =>
            refine ⟨k + 1, by omega, by omega, by go_num, ?_, (xr.belowAll hbW).setO (a := ⟨w.heap.size + 1, k, none⟩) (by simp) _, below_set1 (Below.then hB hbW hB.size) (by omega)⟩
            have := xw2.set k (.int .u32 (wv (schedW b.data.toList (schedK b.data.toList k) k)))
            rw [schedC_set _ _ hlt, Hv.out] at this
            exact this
          case measure => simp [intOf]; omega
        · obtain rfl : k = 64 := by omega
          have hcx : schedC b.data.toList 64 = (u32s (schedK b.data.toList 64)).toArray := by simp [schedC]
          rw [hcx] at xw
          have hl := schedK_len b.data.toList 64
          obtain ⟨cx, hcx⟩ : ∃ cx, (u32s (schedK b.data.toList 64)).toArray = cx := ⟨_, rfl⟩
          have hsz : cx.size = 64 := by rw [← hcx]; simp [u32s, hl]
          have h1 : cx.all (·.oneCell') = true := by rw [← hcx]; exact all_oneCell_toArray (fun v hv => by obtain ⟨_, _, rfl⟩ := List.mem_map.1 hv; rfl)
          rw [hcx] at xw
          have Hcx := Lib.hid hcx
          have H1 := Lib.hid h1
          have Hs := Lib.hid hsz
          clear h1 hsz hcx hl
          go_wp2_with (first
            | (refine wpList_load_mid rfl 103 (.tmp 3) rfl (w.heap.size + 1) 0 rfl cx.toList _ xw.range Try.underlying103 rfl (by rw [sizeW]; simp [Hs.out]) ?_)
            | (refine wpList_store_mid rfl 103 (.tmp 2) (.tmp 85) rfl w.heap.size 0 cx rfl rfl (there_bx xr (by rw [Hs.out, Zs.out]; exact Nat.le_refl _)) (by rw [sizeW, Hs.out]) H1.out ?_))
          have xr2 := xr.setAll (cx := cx) (by rw [Hs.out, Zs.out])
          refine bodyPost_ret (v := .agg cx) (results_cell_row (d := .array 64 86) Try.results85 _ _ w.heap.size _ _ _ rfl xr2 Try.underlying103 rfl (by rw [sizeW, Hs.out])) rfl ?_
          exact ⟨by rw [Hcx.out], below_setCells (Nat.le_refl _) _ _ _ hB⟩
end Go.Proofs.Ytfligkncdlocaaa
