/- 32-bit words: what the walk computes on them, as UInt32. Rotations of words. The schedule of words of a block, of the program and of the reference. The program's schedule of words. The constants of the steps and the first state. One block: the program's compress. -/
import Derived.Test.YtebgopdmeghmhaaGreatDig
import Derived.Test.YtebgopdmeghmhaaGreatArr
namespace Go.Proofs.YtebgopdmeghmhaaGreat
open Go.RowKit

/-- a word as the walk holds it: kept closed -/
def wv (x : UInt32) : Int := (x.toNat : Int)
def u32V (x : UInt32) : Value := .int .u32 (wv x)
def rotR (x n : UInt32) : UInt32 := (x >>> n) ||| (x <<< (32 - n))
theorem wrap_u32 (n : Nat) (h : n < 4294967296) : IntKind.u32.wrap (n : Int) = n := by
  simp [IntKind.wrap, IntKind.bits, IntKind.signed]
  omega
theorem ofInt_u32 (x : UInt32) : BitVec.ofInt 32 (x.toNat : Int) = x.toBitVec := by
  apply BitVec.eq_of_toNat_eq
  simp
theorem bits_xor32 (x y : UInt32) : bits .xor .u32 (x.toNat : Int) (y.toNat : Int) = ((x ^^^ y).toNat : Int) := by
  unfold bits
  simp only [IntKind.bits]
  rw [ofInt_u32, ofInt_u32, wrap_u32 _ (by exact (x.toBitVec ^^^ y.toBitVec).isLt)]
  rfl
theorem bits_and32 (x y : UInt32) : bits .and .u32 (x.toNat : Int) (y.toNat : Int) = ((x &&& y).toNat : Int) := by
  unfold bits
  simp only [IntKind.bits]
  rw [ofInt_u32, ofInt_u32, wrap_u32 _ (by exact (x.toBitVec &&& y.toBitVec).isLt)]
  rfl
theorem bits_or32 (x y : UInt32) : bits .or .u32 (x.toNat : Int) (y.toNat : Int) = ((x ||| y).toNat : Int) := by
  unfold bits
  simp only [IntKind.bits]
  rw [ofInt_u32, ofInt_u32, wrap_u32 _ (by exact (x.toBitVec ||| y.toBitVec).isLt)]
  rfl
theorem add32 (x y : UInt32) : IntKind.u32.wrap ((x.toNat : Int) + (y.toNat : Int)) = ((x + y).toNat : Int) := by
  simp [IntKind.wrap, IntKind.bits, IntKind.signed, UInt32.toNat_add]
theorem toNat_ofNat32 {n : Nat} (h : n < 32) : (UInt32.ofNat n).toNat = n := by simp; omega
theorem pow_cast (n : Nat) : (2 : Int) ^ n = ((2 ^ n : Nat) : Int) := by simp
theorem shl32 (x : UInt32) (n : Nat) (h : n < 32) : IntKind.u32.wrap ((x.toNat : Int) * 2 ^ n) = ((x <<< UInt32.ofNat n).toNat : Int) := by
  have e := toNat_ofNat32 h
  simp only [UInt32.toNat_shiftLeft, e]
  rw [show n % 32 = n by omega, Nat.shiftLeft_eq, pow_cast, ← Int.natCast_mul]
  simp [IntKind.wrap, IntKind.bits, IntKind.signed]
theorem shr32 (x : UInt32) (n : Nat) (h : n < 32) : ((x.toNat : Int)).fdiv (2 ^ n) = ((x >>> UInt32.ofNat n).toNat : Int) := by
  have e := toNat_ofNat32 h
  simp only [UInt32.toNat_shiftRight, e]
  rw [show n % 32 = n by omega, Nat.shiftRight_eq_div_pow, pow_cast, Int.fdiv_eq_ediv_of_nonneg _ (Int.natCast_nonneg _), ← Int.natCast_ediv]
theorem shr32' (x : UInt32) (n : Nat) (h : n < 32) : (x.toNat : Int) / 2 ^ n = ((x >>> UInt32.ofNat n).toNat : Int) := by
  rw [← shr32 x n h, Int.fdiv_eq_ediv_of_nonneg _ (by rw [pow_cast]; exact Int.natCast_nonneg _)]
theorem shl32' (x : UInt32) (n : Nat) (h : n < 32) : (x.toNat : Int) * 2 ^ n % 4294967296 = ((x <<< UInt32.ofNat n).toNat : Int) := by
  rw [← shl32 x n h]
  simp [IntKind.wrap, IntKind.bits, IntKind.signed]
theorem sub_ofNat32 (n : Nat) (h1 : 1 ≤ n) (h2 : n ≤ 31) : (32 : UInt32) - UInt32.ofNat n = UInt32.ofNat (32 - n) := by
  apply UInt32.toNat_inj.1
  rw [UInt32.toNat_sub, toNat_ofNat32 (by omega), toNat_ofNat32 (by omega)]
  simp; omega
theorem rot_val (x : UInt32) (n : Nat) (h1 : 1 ≤ n) (h2 : n ≤ 31) : bits .or .u32 ((x.toNat : Int) / 2 ^ n) ((x.toNat : Int) * 2 ^ (32 - n) % 4294967296) = ((rotR x (UInt32.ofNat n)).toNat : Int) := by
  rw [shr32' x n (by omega), shl32' x (32 - n) (by omega), bits_or32, rotR, sub_ofNat32 n h1 h2]
theorem bits_or32_comm (a b : Int) : bits .or .u32 a b = bits .or .u32 b a := by
  unfold bits
  simp only
  rw [BitVec.or_comm]
theorem rot_and (n : Nat) (h1 : 1 ≤ n) (h2 : n ≤ 31) : bits .and .u64 (IntKind.u64.wrap (-(n : Int))) 31 = 32 - (n : Int) := by
  have : ∀ n : Fin 32, 1 ≤ n.1 → bits .and .u64 (IntKind.u64.wrap (-(n.1 : Int))) 31 = 32 - (n.1 : Int) := by decide +kernel
  exact this ⟨n, by omega⟩ h1
/-! the rules of the walk -/
theorem wv_xor (x y : UInt32) : bits .xor .u32 (wv x) (wv y) = wv (x ^^^ y) := bits_xor32 x y
theorem wv_and (x y : UInt32) : bits .and .u32 (wv x) (wv y) = wv (x &&& y) := bits_and32 x y
theorem wv_or (x y : UInt32) : bits .or .u32 (wv x) (wv y) = wv (x ||| y) := bits_or32 x y
theorem wv_add (x y : UInt32) : IntKind.u32.wrap (wv x + wv y) = wv (x + y) := add32 x y
theorem wv_add' (x y : UInt32) : (wv x + wv y) % 4294967296 = wv (x + y) := by
  rw [← wv_add]; simp [IntKind.wrap, IntKind.bits, IntKind.signed]
theorem wv_not (x : UInt32) : bits .xor .u32 4294967295 (wv x) = wv (~~~x) := by
  have h : (4294967295 : Int) = wv 4294967295 := by decide
  rw [h, wv_xor]
  congr 1
theorem wv_shr (x : UInt32) (n : Nat) (h : n < 32) : (wv x) / 2 ^ n = wv (x >>> UInt32.ofNat n) := shr32' x n h
theorem wv_shrf (x : UInt32) (n : Nat) (h : n < 32) : (wv x).fdiv (2 ^ n) = wv (x >>> UInt32.ofNat n) := shr32 x n h
theorem wv_bd (x : UInt32) : 0 ≤ wv x ∧ wv x ≤ 4294967295 := by
  have := x.toNat_lt
  unfold wv; omega
end Go.Proofs.YtebgopdmeghmhaaGreat
namespace Go.Proofs.YtebgopdmeghmhaaGreat
open Go.RowKit

set_option maxHeartbeats 1000000 in
theorem ref02_rotate (x : UInt32) (n : Nat) (h1 : 1 ≤ n) (h2 : n ≤ 31) (w : World) :
    Calls Tryz.prog 110 #[.int .u32 (x.toNat : Int), .int .u64 (n : Int)] w fun e w' => e = .returned (.int .u32 ((rotR x (UInt32.ofNat n)).toNat : Int)) ∧ w = w' := by
  go_enter Tryz.func110, Tryz.ntmps110
  go_wp2
  go_ret
  exact ⟨by show Ending.returned (.int .u32 _) = _; rw [← rot_val x n h1 h2], rfl⟩
set_option maxHeartbeats 1000000 in
theorem bits_rotl (x : UInt32) (n : Nat) (h1 : 1 ≤ n) (h2 : n ≤ 31) (w : World) :
    Calls Tryz.prog 117 #[.int .u32 (x.toNat : Int), .int .i64 (-(n : Int))] w fun e w' => e = .returned (.int .u32 ((rotR x (UInt32.ofNat n)).toNat : Int)) ∧ w = w' := by
  have hs := rot_and n h1 h2
  go_enter Tryz.func117, Tryz.ntmps117
  go_wp2
  go_ret
  exact ⟨by show Ending.returned (.int .u32 _) = _; rw [← rot_val x n h1 h2, bits_or32_comm, show 32 - (32 - n) = n by omega], rfl⟩
set_option maxHeartbeats 1000000 in
theorem sha_right (x : UInt32) (n : Nat) (h1 : 1 ≤ n) (h2 : n ≤ 31) (w : World) :
    Calls Tryz.prog 115 #[.int .u32 (x.toNat : Int), .int .i64 (n : Int)] w fun e w' => e = .returned (.int .u32 ((rotR x (UInt32.ofNat n)).toNat : Int)) ∧ w = w' := by
  go_enter Tryz.func115, Tryz.ntmps115
  go_wp2_with fail
  refine (bits_rotl x n h1 h2 _).mono ?_
  rintro e w' ⟨rfl, rfl⟩
  go_wp2
  go_ret
  exact ⟨rfl, rfl⟩
theorem ref02_rot (x : UInt32) (n : Nat) (c : Int) (u : UInt32) (hc : c = (n : Int)) (hu : UInt32.ofNat n = u) (h1 : 1 ≤ n) (h2 : n ≤ 31) (w : World) :
    Calls Tryz.prog 110 #[.int .u32 (wv x), .int .u64 c] w fun e w' => e = .returned (.int .u32 (wv (rotR x u))) ∧ w = w' := by
  subst hc hu; exact ref02_rotate x n h1 h2 w
theorem sha_rot (x : UInt32) (n : Nat) (c : Int) (u : UInt32) (hc : c = (n : Int)) (hu : UInt32.ofNat n = u) (h1 : 1 ≤ n) (h2 : n ≤ 31) (w : World) :
    Calls Tryz.prog 115 #[.int .u32 (wv x), .int .i64 c] w fun e w' => e = .returned (.int .u32 (wv (rotR x u))) ∧ w = w' := by
  subst hc hu; exact sha_right x n h1 h2 w
end Go.Proofs.YtebgopdmeghmhaaGreat
namespace Go.Proofs.YtebgopdmeghmhaaGreat
open Go.RowKit

def u32s (l : List UInt32) : List Value := l.map u32V
def be4 (a b c d : UInt8) : UInt32 := (((a.toUInt32 <<< 24) ||| (b.toUInt32 <<< 16)) ||| (c.toUInt32 <<< 8)) ||| d.toUInt32
def sig0 (x : UInt32) : UInt32 := rotR x 7 ^^^ rotR x 18 ^^^ (x >>> 3)
def sig1 (y : UInt32) : UInt32 := rotR y 17 ^^^ rotR y 19 ^^^ (y >>> 10)
def schedW (b : List UInt8) (W : List UInt32) (t : Nat) : UInt32 :=
  if t < 16 then be4 (b.getD (4 * t) 0) (b.getD (4 * t + 1) 0) (b.getD (4 * t + 2) 0) (b.getD (4 * t + 3) 0)
  else sig1 (W.getD (t - 2) 0) + W.getD (t - 7) 0 + sig0 (W.getD (t - 15) 0) + W.getD (t - 16) 0
def schedK (b : List UInt8) : Nat → List UInt32
  | 0 => []
  | k + 1 => schedK b k ++ [schedW b (schedK b k) k]
theorem schedK_len (b : List UInt8) (k : Nat) : (schedK b k).length = k := by
  induction k with
  | zero => rfl
  | succ k ih => simp [schedK, ih]
/-- the words as they lie after k rounds -/
def schedC (b : List UInt8) (k : Nat) : Array Value := (u32s (schedK b k) ++ List.replicate (64 - k) (Value.int .u32 0)).toArray

theorem sizeW : (Tryz.prog.info? 129).map (·.size) = some 64 := by kernel_rfl
theorem zeroW : (Tryz.prog.info? 129).map (·.zero) = some (some (.agg (Array.replicate 64 (.int .u32 0)))) := by kernel_rfl
theorem sizeU32 : ((Tryz.prog.info? 111).map (·.size)).isSome = true := by kernel_rfl
theorem schedC_size (b : List UInt8) (k : Nat) (hk : k ≤ 64) : (schedC b k).size = 64 := by simp [schedC, u32s, schedK_len]; omega
theorem schedC_get (b : List UInt8) (k j : Nat) (hj : j < k) : (schedC b k)[j]? = some (.int .u32 (wv ((schedK b k).getD j 0))) := by
  have hl := schedK_len b k
  simp [schedC, u32s, hl, hj, List.getElem?_append, u32V]
theorem schedC_set (b : List UInt8) (k : Nat) (hk : k < 64) : (schedC b k).setIfInBounds k (.int .u32 (wv (schedW b (schedK b k) k))) = schedC b (k + 1) := by
  have hl := schedK_len b k
  unfold schedC
  rw [show 64 - k = (64 - (k + 1)) + 1 by omega, List.replicate_succ]
  simp only [List.setIfInBounds_toArray, schedK, u32s, List.map_append, List.map_cons, List.map_nil]
  rw [List.set_append_right _ _ (by simp [hl])]
  simp [hl, u32V]
theorem schedC_zero (b : List UInt8) (k : Nat) (hk : k < 64) : (schedC b k)[k]? = some (.int .u32 0) := by
  have hl := schedK_len b k
  unfold schedC
  rw [show 64 - k = (64 - (k + 1)) + 1 by omega, List.replicate_succ]
  simp [u32s, hl]
theorem widen (c : UInt8) : (c.toNat : Int) % 4294967296 = (c.toUInt32.toNat : Int) := by
  have := c.toNat_lt
  simp; omega
theorem be_raw (a b c d : UInt8) : bits .or .u32 (bits .or .u32 (bits .or .u32 ((a.toNat : Int) % 4294967296 * 16777216 % 4294967296) ((b.toNat : Int) % 4294967296 * 65536 % 4294967296)) ((c.toNat : Int) % 4294967296 * 256 % 4294967296)) ((d.toNat : Int) % 4294967296) = ((be4 a b c d).toNat : Int) := by
  rw [widen, widen, widen, widen]
  have s1 := shl32' a.toUInt32 24 (by decide)
  have s2 := shl32' b.toUInt32 16 (by decide)
  have s3 := shl32' c.toUInt32 8 (by decide)
  rw [show (2 : Int) ^ 24 = 16777216 by decide] at s1
  rw [show (2 : Int) ^ 16 = 65536 by decide] at s2
  rw [show (2 : Int) ^ 8 = 256 by decide] at s3
  rw [s1, s2, s3, bits_or32, bits_or32, bits_or32]
  rfl
theorem schedW_lo (b : ByteArray) (W : List UInt32) (k : Nat) (hk : k < 16) (h0 : 4 * k < b.size) (h1 : 4 * k + 1 < b.size) (h2 : 4 * k + 2 < b.size) (h3 : 4 * k + 3 < b.size) : schedW b.data.toList W k = be4 b[4 * k] b[4 * k + 1] b[4 * k + 2] b[4 * k + 3] := by
  have e : ∀ i (h : i < b.size), b.data.toList.getD i 0 = b[i] := fun i h => by
    have : i < b.data.toList.length := by simpa using h
    simp only [List.getD, List.getElem?_eq_getElem this, Option.getD_some, Array.getElem_toList]
    rfl
  unfold schedW
  rw [if_pos hk, e _ h0, e _ h1, e _ h2, e _ h3]
theorem sched_raw (x y p q : UInt32) : (bits .xor .u32 (wv (rotR y 17 ^^^ rotR y 19)) (wv y / 1024) + wv p + bits .xor .u32 (wv (rotR x 7 ^^^ rotR x 18)) (wv x / 8) + wv q) % 4294967296 = wv (sig1 y + p + sig0 x + q) := by
  have e1 : wv y / (1024 : Int) = wv (y >>> 10) := wv_shr y 10 (by decide)
  have e2 : wv x / (8 : Int) = wv (x >>> 3) := wv_shr x 3 (by decide)
  rw [e1, e2, wv_xor, wv_xor]
  show (wv (sig1 y) + wv p + wv (sig0 x) + wv q) % 4294967296 = _
  generalize sig1 y = s
  generalize sig0 x = r
  unfold wv
  simp only [UInt32.toNat_add]
  omega
set_option maxRecDepth 100000 in
set_option maxHeartbeats 2000000 in
theorem ref02_schedule (b : ByteArray) (hb : b.size = 64) (w : World) :
    Calls Tryz.prog 108 #[.string b] w fun e w' => e = .returned (.agg (u32s (schedK b.data.toList 64)).toArray) ∧ Below w.heap.size w w' := by
  obtain ⟨z, hz⟩ : ∃ z : Array Value, Array.replicate 64 (Value.int .u32 0) = z := ⟨_, rfl⟩
  have hz0 := zeroW
  rw [hz] at hz0
  have hzs : z.size = 64 := by rw [← hz]; simp
  have hz1 : z.all (·.oneCell') = true := by rw [← hz]; exact all_oneCell_toArray (cs := List.replicate 64 (Value.int .u32 0)) (fun v hv => by rw [List.eq_of_mem_replicate hv]; rfl)
  have Z0 := Lib.hid hz0
  have Zs := Lib.hid hzs
  have Z1 := Lib.hid hz1
  have hzc : z = schedC b.data.toList 0 := by rw [← hz]; rfl
  have Zc := Lib.hid hzc
  clear hz hz0 hzs hz1 hzc
  have hb1 : b.size ≤ 64 := by omega
  have hb2 : 64 ≤ b.size := by omega
  clear hb
  have xr := Bx.new w z 129 |>.alloc (.cells z 129)
  have xw := Bx.new (w.alloc (.cells z 129)) z 129
  have hB := (Below.one w (.cells z 129)).alloc (by simp) (.cells z 129)
  go_enter Tryz.func108, Tryz.ntmps108
  go_wp2_with (first
    | (refine wpList_alloc_row rfl 129 rfl z Z0.out ?_)
    | (refine wpList_build_zero rfl 129 rfl 64 111 Tryz.underlying129 z Z0.out sizeU32 ?_)
    | (refine wpList_store_mid rfl 129 (.tmp 3) (.tmp 8) rfl (w.alloc (.cells z 129)).heap.size 0 z rfl rfl (there_bx xw (Nat.le_refl _)) (by rw [sizeW, Zs.out]) Z1.out ?_))
  simp only [World.size_alloc] at xw
  have xw2 := xw.setAll (cx := z) rfl
  have xr2 := xr.setCellsO (b' := w.heap.size + 1) (by simp) z.toList 0
  have hB2 := below_setCells (b := w.heap.size + 1) (by omega) z.toList 0 _ hB
  generalize ((w.alloc (.cells z 129)).alloc (.cells z 129)).setCells (w.heap.size + 1) 0 z.toList = w1 at *
  clear xw xr hB
  go_loopw [4] (fun i wr => ∃ k : Nat, k ≤ 16 ∧ i = .int .i64 k ∧ Bx wr (w.heap.size + 1) (schedC b.data.toList k) 129 ∧ Bx wr w.heap.size z 129 ∧ Below w.heap.size w wr) (fun i _ => 16 - (intOf i).toNat)
  case atStart => exact ⟨0, by omega, rfl, by rw [← Zc.out]; exact xw2, xr2, hB2⟩
  case round =>
    clear xw2 xr2 hB2
    obtain ⟨k, hk, rfl, xw, xr, hB⟩ := hrel
    by_cases hlt : k < 16
    · have n0 : 4 * k < b.size := by omega
      have n1 : 4 * k + 1 < b.size := by omega
      have n2 : 4 * k + 2 < b.size := by omega
      have n3 : 4 * k + 3 < b.size := by omega
      have i0 : (4 : Int) * (k : Int) < (b.size : Int) := by omega
      have i1 : (4 : Int) * (k : Int) + 1 < (b.size : Int) := by omega
      have i2 : (4 : Int) * (k : Int) + 2 < (b.size : Int) := by omega
      have i3 : (4 : Int) * (k : Int) + 3 < (b.size : Int) := by omega
      have j0 : (0 : Int) ≤ 4 * (k : Int) := by omega
      have j1 : (0 : Int) ≤ 4 * (k : Int) + 1 := by omega
      have j2 : (0 : Int) ≤ 4 * (k : Int) + 2 := by omega
      have j3 : (0 : Int) ≤ 4 * (k : Int) + 3 := by omega
      have t0 : (4 * (k : Int)).toNat = 4 * k := by omega
      have t1 : (4 * (k : Int) + 1).toNat = 4 * k + 1 := by omega
      have t2 : (4 * (k : Int) + 2).toNat = 4 * k + 2 := by omega
      have t3 : (4 * (k : Int) + 3).toNat = 4 * k + 3 := by omega
      have cQ := Lat.cells wr
      go_wp2
      refine wp_region_lz 31 1 #[true, true, true, true, true, true, true, true, true, true, true, true, true, true, true, true, true, true, true, true, true, true, true, true, true, true, true, true, true, true, true, false] (fun _ => none) (by kernel_rfl) (by rfl) (by rfl) (by kernel_rfl) ?_
      simp only [List.take_succ_cons, List.take_zero]
      refine LW.block 31 31 (by rfl) (by kernel_rfl) (by kernel_rfl) ?_
      simp only [List.take_succ_cons, List.take_zero, List.drop_succ_cons, List.drop_zero]
      repeat (first | go_big_quiet_skip | (go_big_quiet_want; go_big_quiet_op; go_big_quiet_on))
      refine wpQuiet_nil ?_
      refine LW.done ?_
      intro W' hG
      have xw2 := xw.belowAll hG.below
      have cw : W'.cell? ⟨w.heap.size + 1, k, none⟩ = some (.int .u32 0) := by rw [xw2.cell, schedC_zero _ _ (by omega)]
      have fw := xw2.free k
      have lw := xw2.lt
      refine wpAny_ready (rs := [31]) (by kernel_rfl) (by simp) ?_
      refine AllReady.cons rfl (fun K hK => ?_) AllReady.nil
      go_simp
      refine hK _ _ ?_
      clear hK K
      refine wpAny_done (by kernel_rfl) ?_ _
      go_wp2
      have hv := (be_raw b[4 * k] b[4 * k + 1] b[4 * k + 2] b[4 * k + 3]).trans (congrArg wv (schedW_lo b (schedK b.data.toList k) k hlt n0 n1 n2 n3).symm)
      rw [hv]
      have Hv := Lib.hid hv
      clear hv
      go_roundw
      case rel =>
        refine ⟨k + 1, by omega, by go_num, ?_, (xr.belowAll hG.below).setO (a := ⟨w.heap.size + 1, k, none⟩) (by simp) _, below_set1 (Below.then hB hG.below hB.size) (by omega)⟩
        have := xw2.set k (.int .u32 (wv (schedW b.data.toList (schedK b.data.toList k) k)))
        rw [schedC_set _ _ (by omega)] at this
        exact this
      case measure => simp [intOf]; omega
    · obtain rfl : k = 16 := by omega
      clear hk hlt
      rw [show ((16 : Nat) : Int) = 16 from rfl]
      go_wp2
      go_loopw [5] (fun i wr => ∃ k : Nat, 16 ≤ k ∧ k ≤ 64 ∧ i = .int .i64 k ∧ Bx wr (w.heap.size + 1) (schedC b.data.toList k) 129 ∧ Bx wr w.heap.size z 129 ∧ Below w.heap.size w wr) (fun i _ => 64 - (intOf i).toNat)
      case atStart => exact ⟨16, by omega, by omega, rfl, xw, xr, hB⟩
      case round =>
        clear xw xr hB
        obtain ⟨k, hk1, hk2, rfl, xw, xr, hB⟩ := hrel
        by_cases hlt : k < 64
        · have lw0 := xw.lt
          obtain ⟨x, hx⟩ : ∃ x, (schedK b.data.toList k).getD (k - 15) 0 = x := ⟨_, rfl⟩
          have cx : wr.cell? ⟨w.heap.size + 1, k - 15, none⟩ = some (.int .u32 (wv x)) := by rw [xw.cell, schedC_get _ _ _ (by omega), hx]
          have sx : IntKind.i64.wrap ((k : Int) - 15) = (k : Int) - 15 := IntWalk.i64_in _ (by omega)
          have jx : (0 : Int) ≤ (k : Int) - 15 := by omega
          have ux : (k : Int) - 15 < 64 := by omega
          have tx : ((k : Int) - 15).toNat = k - 15 := by omega
          obtain ⟨y, hy⟩ : ∃ y, (schedK b.data.toList k).getD (k - 2) 0 = y := ⟨_, rfl⟩
          have cy : wr.cell? ⟨w.heap.size + 1, k - 2, none⟩ = some (.int .u32 (wv y)) := by rw [xw.cell, schedC_get _ _ _ (by omega), hy]
          have sy : IntKind.i64.wrap ((k : Int) - 2) = (k : Int) - 2 := IntWalk.i64_in _ (by omega)
          have jy : (0 : Int) ≤ (k : Int) - 2 := by omega
          have uy : (k : Int) - 2 < 64 := by omega
          have ty : ((k : Int) - 2).toNat = k - 2 := by omega
          obtain ⟨p, hp⟩ : ∃ p, (schedK b.data.toList k).getD (k - 7) 0 = p := ⟨_, rfl⟩
          have cp : wr.cell? ⟨w.heap.size + 1, k - 7, none⟩ = some (.int .u32 (wv p)) := by rw [xw.cell, schedC_get _ _ _ (by omega), hp]
          have sp : IntKind.i64.wrap ((k : Int) - 7) = (k : Int) - 7 := IntWalk.i64_in _ (by omega)
          have jp : (0 : Int) ≤ (k : Int) - 7 := by omega
          have up : (k : Int) - 7 < 64 := by omega
          have tp : ((k : Int) - 7).toNat = k - 7 := by omega
          obtain ⟨q, hq⟩ : ∃ q, (schedK b.data.toList k).getD (k - 16) 0 = q := ⟨_, rfl⟩
          have cq : wr.cell? ⟨w.heap.size + 1, k - 16, none⟩ = some (.int .u32 (wv q)) := by rw [xw.cell, schedC_get _ _ _ (by omega), hq]
          have sq : IntKind.i64.wrap ((k : Int) - 16) = (k : Int) - 16 := IntWalk.i64_in _ (by omega)
          have jq : (0 : Int) ≤ (k : Int) - 16 := by omega
          have uq : (k : Int) - 16 < 64 := by omega
          have tq : ((k : Int) - 16).toNat = k - 16 := by omega
          have hv : schedW b.data.toList (schedK b.data.toList k) k = sig1 y + p + sig0 x + q := by unfold schedW; rw [if_neg (by omega), hx, hy, hp, hq]
          have Hv := Lib.hid hv
          clear hx hy hp hq hv
          have hxor := wv_xor
          have hadd := wv_add
          have hadd' := wv_add'
          go_wp2
          go_quiet (fail)
          have cQ : ∀ (l : Lat (wr.drewN nq)) (b o : Nat), b < wr.heap.size → l.w.cell? ⟨b, o, none⟩ = wr.cell? ⟨b, o, none⟩ := fun l b o h => Lat.cells (wr.drewN nq) l b o h
          go_wp2
          refine wp_region_lz 29 1 #[true, true, true, true, true, true, true, true, true, true, true, true, true, true, true, true, true, true, true, true, true, true, true, true, true, true, true, true, true, false] (fun i => if i = 2 then some (annK (.int .u32 (wv (rotR y 17)))) else if i = 4 then some (annK (.int .u32 (wv (rotR y 19)))) else if i = 15 then some (annK (.int .u32 (wv (rotR x 7)))) else if i = 17 then some (annK (.int .u32 (wv (rotR x 18)))) else none) (by kernel_rfl) (by rfl) (by rfl) (by kernel_rfl) ?_
          simp only [List.take_succ_cons, List.take_zero]
          refine LW.block 2 2 (by rfl) (by kernel_rfl) (by kernel_rfl) ?_
          simp only [List.take_succ_cons, List.take_zero, List.drop_succ_cons, List.drop_zero]
          repeat (first | go_big_quiet_skip | (go_big_quiet_want; go_big_quiet_op; go_big_quiet_on))
          refine wpQuiet_nil ?_
          refine LW.lzy _ (by rfl) (by rfl) ?_ ?_
          · intro yL _
            unfold lzAt
            go_simp
            exact lz_const (ref02_rot y 17 17 17 rfl rfl (by decide) (by decide) _)
          intro _
          simp only [Act.put, List.setIfInBounds_toArray, List.set_cons_zero, List.set_cons_succ]
          (try simp only [annK])
          refine LW.block 1 4 (by rfl) (by kernel_rfl) (by kernel_rfl) ?_
          simp only [List.take_succ_cons, List.take_zero, List.drop_succ_cons, List.drop_zero]
          repeat (first | go_big_quiet_skip | (go_big_quiet_want; go_big_quiet_op; go_big_quiet_on))
          refine wpQuiet_nil ?_
          refine LW.lzy _ (by rfl) (by rfl) ?_ ?_
          · intro yL _
            unfold lzAt
            go_simp
            exact lz_const (ref02_rot y 19 19 19 rfl rfl (by decide) (by decide) _)
          intro _
          simp only [Act.put, List.setIfInBounds_toArray, List.set_cons_zero, List.set_cons_succ]
          (try simp only [annK])
          refine LW.block 10 15 (by rfl) (by kernel_rfl) (by kernel_rfl) ?_
          simp only [List.take_succ_cons, List.take_zero, List.drop_succ_cons, List.drop_zero]
          repeat (first | go_big_quiet_skip | (go_big_quiet_want; go_big_quiet_op; go_big_quiet_on))
          refine wpQuiet_nil ?_
          refine LW.lzy _ (by rfl) (by rfl) ?_ ?_
          · intro yL _
            unfold lzAt
            go_simp
            exact lz_const (ref02_rot x 7 7 7 rfl rfl (by decide) (by decide) _)
          intro _
          simp only [Act.put, List.setIfInBounds_toArray, List.set_cons_zero, List.set_cons_succ]
          (try simp only [annK])
          refine LW.block 1 17 (by rfl) (by kernel_rfl) (by kernel_rfl) ?_
          simp only [List.take_succ_cons, List.take_zero, List.drop_succ_cons, List.drop_zero]
          repeat (first | go_big_quiet_skip | (go_big_quiet_want; go_big_quiet_op; go_big_quiet_on))
          refine wpQuiet_nil ?_
          refine LW.lzy _ (by rfl) (by rfl) ?_ ?_
          · intro yL _
            unfold lzAt
            go_simp
            exact lz_const (ref02_rot x 18 18 18 rfl rfl (by decide) (by decide) _)
          intro _
          simp only [Act.put, List.setIfInBounds_toArray, List.set_cons_zero, List.set_cons_succ]
          (try simp only [annK])
          refine LW.block 11 29 (by rfl) (by kernel_rfl) (by kernel_rfl) ?_
          simp only [List.take_succ_cons, List.take_zero, List.drop_succ_cons, List.drop_zero]
          repeat (first | go_big_quiet_skip | (go_big_quiet_want; go_big_quiet_op; go_big_quiet_on))
          refine wpQuiet_nil ?_
          refine LW.done ?_
          intro W' hG
          have hbW : Below wr.heap.size wr W' := (Below.drewN (Below.refl _ wr) nq).trans (hG.below.mono (Nat.le_refl _))
          have xw2 := xw.belowAll hbW
          have cw : W'.cell? ⟨w.heap.size + 1, k, none⟩ = some (.int .u32 0) := by rw [xw2.cell, schedC_zero _ _ hlt]
          have fw := xw2.free k
          have lw := xw2.lt
          clear cx cy cp cq cQ lw0
          refine wpAny_ready (rs := [29]) (by kernel_rfl) (by simp) ?_
          refine AllReady.cons rfl (fun K hK => ?_) AllReady.nil
          go_simp
          refine hK _ _ ?_
          clear hK K
          refine wpAny_done (by kernel_rfl) ?_ _
          go_wp2
          rw [sched_raw x y p q]
          go_roundw
          case rel =>
            refine ⟨k + 1, by omega, by omega, by go_num, ?_, (xr.belowAll hbW).setO (a := ⟨w.heap.size + 1, k, none⟩) (by simp) _, below_set1 (Below.then hB hbW hB.size) (by omega)⟩
            have := xw2.set k (.int .u32 (wv (schedW b.data.toList (schedK b.data.toList k) k)))
            rw [schedC_set _ _ hlt, Hv.out] at this
            exact this
          case measure => simp [intOf]; omega
        · obtain rfl : k = 64 := by omega
          have hcx : schedC b.data.toList 64 = (u32s (schedK b.data.toList 64)).toArray := by simp [schedC]
          rw [hcx] at xw
          have hl := schedK_len b.data.toList 64
          obtain ⟨cx, hcx⟩ : ∃ cx, (u32s (schedK b.data.toList 64)).toArray = cx := ⟨_, rfl⟩
          have hsz : cx.size = 64 := by rw [← hcx]; simp [u32s, hl]
          have h1 : cx.all (·.oneCell') = true := by rw [← hcx]; exact all_oneCell_toArray (fun v hv => by obtain ⟨_, _, rfl⟩ := List.mem_map.1 hv; rfl)
          rw [hcx] at xw
          have Hcx := Lib.hid hcx
          have H1 := Lib.hid h1
          have Hs := Lib.hid hsz
          clear h1 hsz hcx hl
          go_wp2_with (first
            | (refine wpList_load_mid rfl 129 (.tmp 3) rfl (w.heap.size + 1) 0 rfl cx.toList _ xw.range Tryz.underlying129 rfl (by rw [sizeW]; simp [Hs.out]) ?_)
            | (refine wpList_store_mid rfl 129 (.tmp 2) (.tmp 85) rfl w.heap.size 0 cx rfl rfl (there_bx xr (by rw [Hs.out, Zs.out]; exact Nat.le_refl _)) (by rw [sizeW, Hs.out]) H1.out ?_))
          have xr2 := xr.setAll (cx := cx) (by rw [Hs.out, Zs.out])
          refine bodyPost_ret (v := .agg cx) (results_cell_row (d := .array 64 111) Tryz.results108 _ _ w.heap.size _ _ _ rfl xr2 Tryz.underlying129 rfl (by rw [sizeW, Hs.out])) rfl ?_
          exact ⟨by rw [Hcx.out], below_setCells (Nat.le_refl _) _ _ _ hB⟩
end Go.Proofs.YtebgopdmeghmhaaGreat
namespace Go.Proofs.YtebgopdmeghmhaaGreat
open Go.RowKit

theorem shl_or8 (x y : UInt32) : (x ||| y) <<< 8 = (x <<< 8) ||| (y <<< 8) := by
  apply UInt32.toBitVec_inj.1
  rw [UInt32.toBitVec_shiftLeft, UInt32.toBitVec_or, UInt32.toBitVec_or, UInt32.toBitVec_shiftLeft, UInt32.toBitVec_shiftLeft]
  show (x.toBitVec ||| y.toBitVec) <<< (8 : Nat) = x.toBitVec <<< (8:Nat) ||| y.toBitVec <<< (8:Nat)
  rw [BitVec.shiftLeft_or_distrib]
theorem shl_8_8 (x : UInt32) : (x <<< 8) <<< 8 = x <<< 16 := by
  apply UInt32.toBitVec_inj.1
  rw [UInt32.toBitVec_shiftLeft, UInt32.toBitVec_shiftLeft, UInt32.toBitVec_shiftLeft]
  show (x.toBitVec <<< (8:Nat)) <<< (8 : Nat) = x.toBitVec <<< (16:Nat)
  rw [← BitVec.shiftLeft_add]
theorem shl_16_8 (x : UInt32) : (x <<< 16) <<< 8 = x <<< 24 := by
  apply UInt32.toBitVec_inj.1
  rw [UInt32.toBitVec_shiftLeft, UInt32.toBitVec_shiftLeft, UInt32.toBitVec_shiftLeft]
  show (x.toBitVec <<< (16:Nat)) <<< (8 : Nat) = x.toBitVec <<< (24:Nat)
  rw [← BitVec.shiftLeft_add]
theorem be4_fold (a b c d : UInt32) : ((((((((0 : UInt32) <<< 8) ||| a) <<< 8) ||| b) <<< 8) ||| c) <<< 8) ||| d = (((a <<< 24) ||| (b <<< 16)) ||| (c <<< 8)) ||| d := by
  have h0 : (0 : UInt32) <<< 8 = 0 := rfl
  have h1 : ∀ x : UInt32, 0 ||| x = x := fun x => by apply UInt32.toBitVec_inj.1; simp
  rw [h0, h1]
  simp only [shl_or8, shl_8_8, shl_16_8]
theorem four_bytes (b : ByteArray) (k : Nat) (hb : 4 * k + 3 < b.size) : (b.extract (4 * k) (4 * k + 4)).data.toList = [b[4 * k], b[4 * k + 1], b[4 * k + 2], b[4 * k + 3]] := by
  have hz : b.data.size = b.size := rfl
  rw [ByteArray.data_extract, Array.toList_extract]
  have hl : 4 * k + 3 < b.data.toList.length := by simpa using hb
  simp only [List.extract_eq_take_drop, Nat.add_sub_cancel_left]
  rw [List.drop_eq_getElem_cons (by omega), List.drop_eq_getElem_cons (by omega), List.drop_eq_getElem_cons (by omega), List.drop_eq_getElem_cons (by omega)]
  simp [Nat.add_assoc]
  exact ⟨rfl, rfl, rfl, rfl⟩
/-- the first j bytes of a word -/
def pw (l : List UInt8) (j : Nat) : UInt32 := (l.take j).foldl (fun x c => (x <<< 8) ||| c.toUInt32) 0
theorem pw_succ {l : List UInt8} {j : Nat} (h : j < l.length) : pw l (j + 1) = ((pw l j) <<< 8) ||| l[j].toUInt32 := by
  unfold pw
  rw [List.take_succ_eq_append_getElem h, List.foldl_append]; rfl
theorem pw_raw (x : UInt32) (c : UInt8) : bits .or .u32 (wv x * 256 % 4294967296) ((c.toNat : Int) % 4294967296) = wv ((x <<< 8) ||| c.toUInt32) := by
  have s := shl32' x 8 (by decide)
  rw [show (2 : Int) ^ 8 = 256 by decide] at s
  rw [widen]
  show bits .or .u32 ((x.toNat : Int) * 256 % 4294967296) _ = _
  rw [s, bits_or32]; rfl
theorem pw_be (b : ByteArray) (W : List UInt32) (k : Nat) (hk : k < 16) (hb : 64 ≤ b.size) : pw (b.extract (4 * k) (4 * k + 4)).data.toList 4 = schedW b.data.toList W k := by
  rw [schedW_lo b W k hk (by omega) (by omega) (by omega) (by omega), four_bytes b k (by omega)]
  exact be4_fold _ _ _ _
theorem schedC_same (b : List UInt8) (k : Nat) (hk : k < 64) : (schedC b k).setIfInBounds k (.int .u32 (wv 0)) = schedC b k := by
  have h := schedC_zero b k hk
  apply Array.ext_getElem?
  intro i
  by_cases e : k = i
  · subst e
    have hs := schedC_size b k (by omega)
    rw [Array.getElem?_setIfInBounds_self_of_lt (by omega), h]; rfl
  · rw [Array.getElem?_setIfInBounds_ne e]
set_option maxRecDepth 100000 in
set_option maxHeartbeats 2000000 in
theorem sha_schedule (b : ByteArray) (hb : b.size = 64) (w : World) :
    Calls Tryz.prog 113 #[.string b] w fun e w' => e = .returned (.agg (u32s (schedK b.data.toList 64)).toArray) ∧ Below w.heap.size w w' := by
  obtain ⟨z, hz⟩ : ∃ z : Array Value, Array.replicate 64 (Value.int .u32 0) = z := ⟨_, rfl⟩
  have hz0 := zeroW
  rw [hz] at hz0
  have hzs : z.size = 64 := by rw [← hz]; simp
  have Z0 := Lib.hid hz0
  have Zs := Lib.hid hzs
  have hzc : z = schedC b.data.toList 0 := by rw [← hz]; rfl
  have Zc := Lib.hid hzc
  clear hz hz0 hzs hzc
  have hb1 : b.size ≤ 64 := by omega
  have hb2' : 64 ≤ b.size := by omega
  clear hb
  have xr := Bx.new w z 129 |>.alloc (.cells z 129)
  have xw := Bx.new (w.alloc (.cells z 129)) z 129
  have hB := (Below.one w (.cells z 129)).alloc (by simp) (.cells z 129)
  simp only [World.size_alloc] at xw
  go_enter Tryz.func113, Tryz.ntmps113
  go_wp2_with (refine wpList_alloc_row rfl 129 rfl z Z0.out ?_)
  generalize ((w.alloc (.cells z 129)).alloc (.cells z 129)) = w1 at *
  go_loopw [9] (fun i wr => ∃ k : Nat, k ≤ 64 ∧ i = .int .i64 k ∧ Bx wr (w.heap.size + 1) (schedC b.data.toList k) 129 ∧ Bx wr w.heap.size z 129 ∧ Below w.heap.size w wr) (fun i _ => 64 - (intOf i).toNat)
  case atStart => exact ⟨0, by omega, rfl, by rw [← Zc.out]; exact xw, xr, hB⟩
  case round =>
    clear xw xr hB
    obtain ⟨k, hk, rfl, xw, xr, hB⟩ := hrel
    by_cases hlt : k < 16
    · have i0 : (0 : Int) ≤ 4 * (k : Int) := by omega
      have i1 : (4 : Int) * (k : Int) + 4 ≤ (b.size : Int) := by omega
      have i2 : (4 : Int) * (k : Int) ≤ 4 * (k : Int) + 4 := by omega
      have t0 : (4 * (k : Int)).toNat = 4 * k := by omega
      have t1 : (4 * (k : Int) + 4).toNat = 4 * k + 4 := by omega
      have hex : (b.extract (4 * k) (4 * k + 4)).size ≤ maxLen := by rw [ByteArray.size_extract]; unfold maxLen; omega
      have hez : (b.extract (4 * k) (4 * k + 4)).size = 4 := by rw [ByteArray.size_extract]; omega
      have Hez := Lib.hid hez
      clear hez
      go_wp2_with (refine wpList_bytes rfl (.tmp 20) 9 79 5 rfl Tryz.underlying9 Tryz.underlying79 Tryz.underlying5 _ rfl hex ?_; intro w2 c2 hs2 hr2 hb2 hz2; rw [Hez.out] at hs2; rw [Hez.out])
      have xw2 := xw.belowAll hb2
      have xr2 := xr.belowAll hb2
      have hB2 := Below.then hB hb2 hB.size
      have hlw := xw.lt
      rw [← schedC_same b.data.toList k (by omega)] at xw2
      obtain ⟨bs, hbs⟩ : ∃ bs, (b.extract (4 * k) (4 * k + 4)).data.toList = bs := ⟨_, rfl⟩
      have hl4 : bs.length = 4 := by have h := Hez.out; rw [ByteArray.size_extract] at h; rw [← hbs]; simp; omega
      have Hl4 := Lib.hid hl4
      have Hbs := Lib.hid hbs
      rw [hbs] at hr2
      obtain ⟨nb, hnb⟩ : ∃ nb, wr.heap.size = nb := ⟨_, rfl⟩
      rw [hnb] at hr2 hlw ⊢
      clear hbs hl4 xw xr hB hb2 hz2 hs2 hnb
      go_loopw [23] (fun i wi => ∃ j : Nat, j ≤ 4 ∧ i = .int .i64 j ∧ Bx wi (w.heap.size + 1) ((schedC b.data.toList k).setIfInBounds k (.int .u32 (wv (pw bs j)))) 129 ∧ Bx wi w.heap.size z 129 ∧ RowAt (· = nb) wi (some ⟨nb, 0, none⟩) (bytesV bs) ∧ Below w.heap.size w wi) (fun i _ => 4 - (intOf i).toNat)
      case atStart => exact ⟨0, by omega, rfl, xw2, xr2, hr2, hB2⟩
      case round =>
        clear xw2 xr2 hr2 hB2
        obtain ⟨j, hj, rfl, xw, xr, hr, hB⟩ := hrel
        by_cases hj4 : j < 4
        · have hjl : j < bs.length := by have := Hl4.out; omega
          have hcb : wr.cell? ⟨nb, j, none⟩ = some (.int .u8 (bs[j].toNat : Int)) := by
            obtain ⟨b', off, e, hc, _⟩ := hr j (by simpa [bytesV] using hjl)
            obtain ⟨rfl, rfl⟩ : nb = b' ∧ 0 = off := by simpa using e
            rw [Nat.zero_add] at hc
            rw [hc]; simp [bytesV]
          have hcw : wr.cell? ⟨w.heap.size + 1, k, none⟩ = some (.int .u32 (wv (pw bs j))) := by
            rw [xw.cell, Array.getElem?_setIfInBounds_self_of_lt (by rw [schedC_size _ _ (by omega)]; omega)]
          have fw := xw.free k
          have lw := xw.lt
          go_wp2
          rw [pw_raw, ← pw_succ hjl]
          go_roundw
          case rel =>
            refine ⟨j + 1, by omega, by go_num, ?_, xr.setO (a := ⟨w.heap.size + 1, k, none⟩) (by simp) _, hr.same ((Same.refl _ _).set (a := ⟨w.heap.size + 1, k, none⟩) (by simp; omega) _), below_set1 hB (by omega)⟩
            have := xw.set k (.int .u32 (wv (pw bs (j + 1))))
            simpa using this
          case measure => simp [intOf]; omega
        · obtain rfl : j = 4 := by omega
          have hpw : pw bs 4 = schedW b.data.toList (schedK b.data.toList k) k := by rw [← Hbs.out]; exact pw_be b _ k (by omega) hb2'
          rw [hpw, schedC_set _ _ (by omega)] at xw
          clear hpw
          go_wp2
          go_roundw
          case rel => exact ⟨k + 1, by omega, by go_num, xw, xr, hB⟩
          case measure => simp [intOf]; omega
    · by_cases hlt2 : k < 64
      · have hk1 : 16 ≤ k := by omega
        have lw0 := xw.lt
        obtain ⟨x, hx⟩ : ∃ x, (schedK b.data.toList k).getD (k - 15) 0 = x := ⟨_, rfl⟩
        have cx : wr.cell? ⟨w.heap.size + 1, k - 15, none⟩ = some (.int .u32 (wv x)) := by rw [xw.cell, schedC_get _ _ _ (by omega), hx]
        have sx : IntKind.i64.wrap ((k : Int) - 15) = (k : Int) - 15 := IntWalk.i64_in _ (by omega)
        have jx : (0 : Int) ≤ (k : Int) - 15 := by omega
        have ux : (k : Int) - 15 < 64 := by omega
        have tx : ((k : Int) - 15).toNat = k - 15 := by omega
        obtain ⟨y, hy⟩ : ∃ y, (schedK b.data.toList k).getD (k - 2) 0 = y := ⟨_, rfl⟩
        have cy : wr.cell? ⟨w.heap.size + 1, k - 2, none⟩ = some (.int .u32 (wv y)) := by rw [xw.cell, schedC_get _ _ _ (by omega), hy]
        have sy : IntKind.i64.wrap ((k : Int) - 2) = (k : Int) - 2 := IntWalk.i64_in _ (by omega)
        have jy : (0 : Int) ≤ (k : Int) - 2 := by omega
        have uy : (k : Int) - 2 < 64 := by omega
        have ty : ((k : Int) - 2).toNat = k - 2 := by omega
        obtain ⟨p, hp⟩ : ∃ p, (schedK b.data.toList k).getD (k - 7) 0 = p := ⟨_, rfl⟩
        have cp : wr.cell? ⟨w.heap.size + 1, k - 7, none⟩ = some (.int .u32 (wv p)) := by rw [xw.cell, schedC_get _ _ _ (by omega), hp]
        have sp : IntKind.i64.wrap ((k : Int) - 7) = (k : Int) - 7 := IntWalk.i64_in _ (by omega)
        have jp : (0 : Int) ≤ (k : Int) - 7 := by omega
        have up : (k : Int) - 7 < 64 := by omega
        have tp : ((k : Int) - 7).toNat = k - 7 := by omega
        obtain ⟨q, hq⟩ : ∃ q, (schedK b.data.toList k).getD (k - 16) 0 = q := ⟨_, rfl⟩
        have cq : wr.cell? ⟨w.heap.size + 1, k - 16, none⟩ = some (.int .u32 (wv q)) := by rw [xw.cell, schedC_get _ _ _ (by omega), hq]
        have sq : IntKind.i64.wrap ((k : Int) - 16) = (k : Int) - 16 := IntWalk.i64_in _ (by omega)
        have jq : (0 : Int) ≤ (k : Int) - 16 := by omega
        have uq : (k : Int) - 16 < 64 := by omega
        have tq : ((k : Int) - 16).toNat = k - 16 := by omega
        have hv : schedW b.data.toList (schedK b.data.toList k) k = sig1 y + p + sig0 x + q := by unfold schedW; rw [if_neg (by omega), hx, hy, hp, hq]
        have Hv := Lib.hid hv
        clear hx hy hp hq hv
        have hxor := wv_xor
        have hadd := wv_add
        have hadd' := wv_add'
        go_wp2
        go_quiet (fail)
        have cQ : ∀ (l : Lat (wr.drewN nq)) (b o : Nat), b < wr.heap.size → l.w.cell? ⟨b, o, none⟩ = wr.cell? ⟨b, o, none⟩ := fun l b o h => Lat.cells (wr.drewN nq) l b o h
        go_wp2
        refine wp_region_lz 29 1 #[true, true, true, true, true, true, true, true, true, true, true, true, true, true, true, true, true, true, true, true, true, true, true, true, true, true, true, true, true, false] (fun i => if i = 2 then some (annK (.int .u32 (wv (rotR y 17)))) else if i = 4 then some (annK (.int .u32 (wv (rotR y 19)))) else if i = 15 then some (annK (.int .u32 (wv (rotR x 7)))) else if i = 17 then some (annK (.int .u32 (wv (rotR x 18)))) else none) (by kernel_rfl) (by rfl) (by rfl) (by kernel_rfl) ?_
        simp only [List.take_succ_cons, List.take_zero]
        refine LW.block 2 2 (by rfl) (by kernel_rfl) (by kernel_rfl) ?_
        simp only [List.take_succ_cons, List.take_zero, List.drop_succ_cons, List.drop_zero]
        repeat (first | go_big_quiet_skip | (go_big_quiet_want; go_big_quiet_op; go_big_quiet_on))
        refine wpQuiet_nil ?_
        refine LW.lzy _ (by rfl) (by rfl) ?_ ?_
        · intro yL _
          unfold lzAt
          go_simp
          exact lz_const (sha_rot y 17 17 17 rfl rfl (by decide) (by decide) _)
        intro _
        simp only [Act.put, List.setIfInBounds_toArray, List.set_cons_zero, List.set_cons_succ]
        (try simp only [annK])
        refine LW.block 1 4 (by rfl) (by kernel_rfl) (by kernel_rfl) ?_
        simp only [List.take_succ_cons, List.take_zero, List.drop_succ_cons, List.drop_zero]
        repeat (first | go_big_quiet_skip | (go_big_quiet_want; go_big_quiet_op; go_big_quiet_on))
        refine wpQuiet_nil ?_
        refine LW.lzy _ (by rfl) (by rfl) ?_ ?_
        · intro yL _
          unfold lzAt
          go_simp
          exact lz_const (sha_rot y 19 19 19 rfl rfl (by decide) (by decide) _)
        intro _
        simp only [Act.put, List.setIfInBounds_toArray, List.set_cons_zero, List.set_cons_succ]
        (try simp only [annK])
        refine LW.block 10 15 (by rfl) (by kernel_rfl) (by kernel_rfl) ?_
        simp only [List.take_succ_cons, List.take_zero, List.drop_succ_cons, List.drop_zero]
        repeat (first | go_big_quiet_skip | (go_big_quiet_want; go_big_quiet_op; go_big_quiet_on))
        refine wpQuiet_nil ?_
        refine LW.lzy _ (by rfl) (by rfl) ?_ ?_
        · intro yL _
          unfold lzAt
          go_simp
          exact lz_const (sha_rot x 7 7 7 rfl rfl (by decide) (by decide) _)
        intro _
        simp only [Act.put, List.setIfInBounds_toArray, List.set_cons_zero, List.set_cons_succ]
        (try simp only [annK])
        refine LW.block 1 17 (by rfl) (by kernel_rfl) (by kernel_rfl) ?_
        simp only [List.take_succ_cons, List.take_zero, List.drop_succ_cons, List.drop_zero]
        repeat (first | go_big_quiet_skip | (go_big_quiet_want; go_big_quiet_op; go_big_quiet_on))
        refine wpQuiet_nil ?_
        refine LW.lzy _ (by rfl) (by rfl) ?_ ?_
        · intro yL _
          unfold lzAt
          go_simp
          exact lz_const (sha_rot x 18 18 18 rfl rfl (by decide) (by decide) _)
        intro _
        simp only [Act.put, List.setIfInBounds_toArray, List.set_cons_zero, List.set_cons_succ]
        (try simp only [annK])
        refine LW.block 11 29 (by rfl) (by kernel_rfl) (by kernel_rfl) ?_
        simp only [List.take_succ_cons, List.take_zero, List.drop_succ_cons, List.drop_zero]
        repeat (first | go_big_quiet_skip | (go_big_quiet_want; go_big_quiet_op; go_big_quiet_on))
        refine wpQuiet_nil ?_
        refine LW.done ?_
        intro W' hG
        have hbW : Below wr.heap.size wr W' := (Below.drewN (Below.refl _ wr) nq).trans (hG.below.mono (Nat.le_refl _))
        have xw2 := xw.belowAll hbW
        have cw : W'.cell? ⟨w.heap.size + 1, k, none⟩ = some (.int .u32 0) := by rw [xw2.cell, schedC_zero _ _ hlt2]
        have fw := xw2.free k
        have lw := xw2.lt
        clear cx cy cp cq cQ lw0
        refine wpAny_ready (rs := [29]) (by kernel_rfl) (by simp) ?_
        refine AllReady.cons rfl (fun K hK => ?_) AllReady.nil
        go_simp
        refine hK _ _ ?_
        clear hK K
        refine wpAny_done (by kernel_rfl) ?_ _
        go_wp2
        rw [sched_raw x y p q]
        go_roundw
        case rel =>
          refine ⟨k + 1, by omega, by go_num, ?_, (xr.belowAll hbW).setO (a := ⟨w.heap.size + 1, k, none⟩) (by simp) _, below_set1 (Below.then hB hbW hB.size) (by omega)⟩
          have := xw2.set k (.int .u32 (wv (schedW b.data.toList (schedK b.data.toList k) k)))
          rw [schedC_set _ _ hlt2, Hv.out] at this
          exact this
        case measure => simp [intOf]; omega
      · obtain rfl : k = 64 := by omega
        rw [show ((64 : Nat) : Int) = 64 from rfl]
        have hcx : schedC b.data.toList 64 = (u32s (schedK b.data.toList 64)).toArray := by simp [schedC]
        rw [hcx] at xw
        have hl := schedK_len b.data.toList 64
        obtain ⟨cx, hcx⟩ : ∃ cx, (u32s (schedK b.data.toList 64)).toArray = cx := ⟨_, rfl⟩
        have hsz : cx.size = 64 := by rw [← hcx]; simp [u32s, hl]
        have h1 : cx.all (·.oneCell') = true := by rw [← hcx]; exact all_oneCell_toArray (fun v hv => by obtain ⟨_, _, rfl⟩ := List.mem_map.1 hv; rfl)
        rw [hcx] at xw
        have Hcx := Lib.hid hcx
        have H1 := Lib.hid h1
        have Hs := Lib.hid hsz
        clear h1 hsz hcx hl
        go_wp2_with (first
          | (refine wpList_load_mid rfl 129 (.tmp 3) rfl (w.heap.size + 1) 0 rfl cx.toList _ xw.range Tryz.underlying129 rfl (by rw [sizeW]; simp [Hs.out]) ?_)
          | (refine wpList_store_mid rfl 129 (.tmp 2) (.tmp 75) rfl w.heap.size 0 cx rfl rfl (there_bx xr (by rw [Hs.out, Zs.out]; exact Nat.le_refl _)) (by rw [sizeW, Hs.out]) H1.out ?_))
        have xr2 := xr.setAll (cx := cx) (by rw [Hs.out, Zs.out])
        refine bodyPost_ret (v := .agg cx) (results_cell_row (d := .array 64 111) Tryz.results113 _ _ w.heap.size _ _ _ rfl xr2 Tryz.underlying129 rfl (by rw [sizeW, Hs.out])) rfl ?_
        exact ⟨by rw [Hcx.out], below_setCells (Nat.le_refl _) _ _ _ hB⟩
end Go.Proofs.YtebgopdmeghmhaaGreat
namespace Go.Proofs.YtebgopdmeghmhaaGreat
open Go.RowKit

def shaK : List UInt32 := [1116352408, 1899447441, 3049323471, 3921009573, 961987163, 1508970993, 2453635748, 2870763221, 3624381080, 310598401, 607225278, 1426881987, 1925078388, 2162078206, 2614888103, 3248222580, 3835390401, 4022224774, 264347078, 604807628, 770255983, 1249150122, 1555081692, 1996064986, 2554220882, 2821834349, 2952996808, 3210313671, 3336571891, 3584528711, 113926993, 338241895, 666307205, 773529912, 1294757372, 1396182291, 1695183700, 1986661051, 2177026350, 2456956037, 2730485921, 2820302411, 3259730800, 3345764771, 3516065817, 3600352804, 4094571909, 275423344, 430227734, 506948616, 659060556, 883997877, 958139571, 1322822218, 1537002063, 1747873779, 1955562222, 2024104815, 2227730452, 2361852424, 2428436474, 2756734187, 3204031479, 3329325298]
def shaI : List UInt32 := [1779033703, 3144134277, 1013904242, 2773480762, 1359893119, 2600822924, 528734635, 1541459225]
theorem shaK_len : shaK.length = 64 := rfl
theorem shaI_len : shaI.length = 8 := rfl

section
variable {P : Program} {ops : Array Oper} {rest : List Oper} {o : Oper} {a : Act} {Q : Exit → Act → World → Prop} {w : World}
/-- a composite literal of an array of words, its run known -/
theorem wpList_build_run (hgd : o.guard = none) (t : TypeId) (parts : Array (Nat × Operand)) (hop : o.op = .build t parts) (vs : Array (Nat × Value)) (hv : parts.map (fun (i, x) => (i, a.eval x)) = vs) (cs : Array Value) (hr : ∀ w, (Instr.build t vs).run P w = .ok (.agg cs) w)
    (hK : wpList P ops Q rest (a.put o.dst (.agg cs)) w) : wpList P ops Q (o :: rest) a w := by
  refine wpList_plain hgd fun K hK' => ?_
  unfold Oper.wp
  simp only [execOp, hop, hv]
  rw [Sem.run_bind, hr]
  exact hK' _ _ hK
end
def partsOf (l : List UInt32) : Array (Nat × Value) := (l.zipIdx.map fun (x, i) => (i, u32V x)).toArray
theorem run_buildK (w : World) : (Instr.build 129 (partsOf shaK)).run Tryz.prog w = .ok (.agg (u32s shaK).toArray) w := by kernel_rfl
theorem run_buildI (w : World) : (Instr.build 114 (partsOf shaI)).run Tryz.prog w = .ok (.agg (u32s shaI).toArray) w := by kernel_rfl
theorem sizeH : (Tryz.prog.info? 114).map (·.size) = some 8 := by kernel_rfl
theorem zeroH : (Tryz.prog.info? 114).map (·.zero) = some (some (.agg (Array.replicate 8 (.int .u32 0)))) := by kernel_rfl
theorem u32s_one (l : List UInt32) : (u32s l).toArray.all (·.oneCell') = true := all_oneCell_toArray (fun v hv => by obtain ⟨_, _, rfl⟩ := List.mem_map.1 hv; rfl)
set_option maxRecDepth 100000 in
set_option maxHeartbeats 2000000 in
theorem sha_initial (w : World) : Calls Tryz.prog 99 #[] w fun e w' => e = .returned (.agg (u32s shaI).toArray) ∧ Below w.heap.size w w' := by
  obtain ⟨z, hz⟩ : ∃ z : Array Value, Array.replicate 8 (Value.int .u32 0) = z := ⟨_, rfl⟩
  have hz0 := zeroH
  rw [hz] at hz0
  have hzs : z.size = 8 := by rw [← hz]; simp
  have Z0 := Lib.hid hz0
  have Zs := Lib.hid hzs
  obtain ⟨cx, hcx⟩ : ∃ cx, (u32s shaI).toArray = cx := ⟨_, rfl⟩
  have hsz : cx.size = 8 := by rw [← hcx]; rfl
  have h1 : cx.all (·.oneCell') = true := by rw [← hcx]; exact u32s_one _
  have hr := run_buildI
  rw [hcx] at hr
  have R := Lib.hid hr
  have Hcx := Lib.hid hcx
  have H1 := Lib.hid h1
  have Hs := Lib.hid hsz
  clear h1 hsz hcx hr hz hz0 hzs
  have xr := Bx.new w z 114
  go_enter Tryz.func99, Tryz.ntmps99
  go_wp2_with (first
    | (refine wpList_alloc_row rfl 114 rfl z Z0.out ?_)
    | (refine wpList_build_run rfl 114 _ rfl (partsOf shaI) (by kernel_rfl) cx R.out ?_)
    | (refine wpList_store_mid rfl 114 (.tmp 0) (.tmp 1) rfl w.heap.size 0 cx rfl rfl (there_bx xr (by rw [Hs.out, Zs.out]; exact Nat.le_refl _)) (by rw [sizeH, Hs.out]) H1.out ?_))
  have xr2 := xr.setAll (cx := cx) (by rw [Hs.out, Zs.out])
  refine bodyPost_ret (v := .agg cx) (results_cell_row (d := .array 8 111) Tryz.results99 _ _ w.heap.size _ _ _ rfl xr2 Tryz.underlying114 rfl (by rw [sizeH, Hs.out])) rfl ?_
  exact ⟨by rw [Hcx.out], below_setCells (Nat.le_refl _) _ _ _ (Below.one _ _)⟩
set_option maxRecDepth 100000 in
set_option maxHeartbeats 2000000 in
theorem sha_constants (w : World) : Calls Tryz.prog 114 #[] w fun e w' => e = .returned (.agg (u32s shaK).toArray) ∧ Below w.heap.size w w' := by
  obtain ⟨z, hz⟩ : ∃ z : Array Value, Array.replicate 64 (Value.int .u32 0) = z := ⟨_, rfl⟩
  have hz0 := zeroW
  rw [hz] at hz0
  have hzs : z.size = 64 := by rw [← hz]; simp
  have Z0 := Lib.hid hz0
  have Zs := Lib.hid hzs
  obtain ⟨cx, hcx⟩ : ∃ cx, (u32s shaK).toArray = cx := ⟨_, rfl⟩
  have hsz : cx.size = 64 := by rw [← hcx]; rfl
  have h1 : cx.all (·.oneCell') = true := by rw [← hcx]; exact u32s_one _
  have hr := run_buildK
  rw [hcx] at hr
  have R := Lib.hid hr
  have Hcx := Lib.hid hcx
  have H1 := Lib.hid h1
  have Hs := Lib.hid hsz
  clear h1 hsz hcx hr hz hz0 hzs
  have xr := Bx.new w z 129
  go_enter Tryz.func114, Tryz.ntmps114
  go_wp2_with (first
    | (refine wpList_alloc_row rfl 129 rfl z Z0.out ?_)
    | (refine wpList_build_run rfl 129 _ rfl (partsOf shaK) (by kernel_rfl) cx R.out ?_)
    | (refine wpList_store_mid rfl 129 (.tmp 0) (.tmp 1) rfl w.heap.size 0 cx rfl rfl (there_bx xr (by rw [Hs.out, Zs.out]; exact Nat.le_refl _)) (by rw [sizeW, Hs.out]) H1.out ?_))
  have xr2 := xr.setAll (cx := cx) (by rw [Hs.out, Zs.out])
  refine bodyPost_ret (v := .agg cx) (results_cell_row (d := .array 64 111) Tryz.results114 _ _ w.heap.size _ _ _ rfl xr2 Tryz.underlying129 rfl (by rw [sizeW, Hs.out])) rfl ?_
  exact ⟨by rw [Hcx.out], below_setCells (Nat.le_refl _) _ _ _ (Below.one _ _)⟩
set_option maxRecDepth 100000 in
set_option maxHeartbeats 2000000 in
theorem ref02_constants (w : World) : Calls Tryz.prog 109 #[] w fun e w' => e = .returned (.agg (u32s shaK).toArray) ∧ Below w.heap.size w w' := by
  obtain ⟨z, hz⟩ : ∃ z : Array Value, Array.replicate 64 (Value.int .u32 0) = z := ⟨_, rfl⟩
  have hz0 := zeroW
  rw [hz] at hz0
  have hzs : z.size = 64 := by rw [← hz]; simp
  have Z0 := Lib.hid hz0
  have Zs := Lib.hid hzs
  obtain ⟨cx, hcx⟩ : ∃ cx, (u32s shaK).toArray = cx := ⟨_, rfl⟩
  have hsz : cx.size = 64 := by rw [← hcx]; rfl
  have h1 : cx.all (·.oneCell') = true := by rw [← hcx]; exact u32s_one _
  have hr := run_buildK
  rw [hcx] at hr
  have R := Lib.hid hr
  have Hcx := Lib.hid hcx
  have H1 := Lib.hid h1
  have Hs := Lib.hid hsz
  clear h1 hsz hcx hr hz hz0 hzs
  have xr := Bx.new w z 129
  go_enter Tryz.func109, Tryz.ntmps109
  go_wp2_with (first
    | (refine wpList_alloc_row rfl 129 rfl z Z0.out ?_)
    | (refine wpList_build_run rfl 129 _ rfl (partsOf shaK) (by kernel_rfl) cx R.out ?_)
    | (refine wpList_store_mid rfl 129 (.tmp 0) (.tmp 1) rfl w.heap.size 0 cx rfl rfl (there_bx xr (by rw [Hs.out, Zs.out]; exact Nat.le_refl _)) (by rw [sizeW, Hs.out]) H1.out ?_))
  have xr2 := xr.setAll (cx := cx) (by rw [Hs.out, Zs.out])
  refine bodyPost_ret (v := .agg cx) (results_cell_row (d := .array 64 111) Tryz.results109 _ _ w.heap.size _ _ _ rfl xr2 Tryz.underlying129 rfl (by rw [sizeW, Hs.out])) rfl ?_
  exact ⟨by rw [Hcx.out], below_setCells (Nat.le_refl _) _ _ _ (Below.one _ _)⟩
end Go.Proofs.YtebgopdmeghmhaaGreat
namespace Go.Proofs.YtebgopdmeghmhaaGreat
open Go.RowKit

structure S8 where
  a : UInt32
  b : UInt32
  c : UInt32
  d : UInt32
  e : UInt32
  f : UInt32
  g : UInt32
  h : UInt32
def S8.of (l : List UInt32) : S8 := ⟨l.getD 0 0, l.getD 1 0, l.getD 2 0, l.getD 3 0, l.getD 4 0, l.getD 5 0, l.getD 6 0, l.getD 7 0⟩
def S8.list (s : S8) : List UInt32 := [s.a, s.b, s.c, s.d, s.e, s.f, s.g, s.h]
def t1S (s : S8) (k w : UInt32) : UInt32 := s.h + (rotR s.e 6 ^^^ rotR s.e 11 ^^^ rotR s.e 25) + ((s.e &&& s.f) ^^^ (~~~s.e &&& s.g)) + k + w
def t2S (s : S8) : UInt32 := (rotR s.a 2 ^^^ rotR s.a 13 ^^^ rotR s.a 22) + ((s.a &&& s.b) ^^^ (s.a &&& s.c) ^^^ (s.b &&& s.c))
def rndS (s : S8) (k w : UInt32) : S8 := ⟨t1S s k w + t2S s, s.a, s.b, s.c, s.d + t1S s k w, s.e, s.f, s.g⟩
def rndsS (W : List UInt32) : Nat → S8 → S8
  | 0, s => s
  | n + 1, s => rndS (rndsS W n s) (shaK.getD n 0) (W.getD n 0)
/-- the state after a block -/
def compressL (st : List UInt32) (block : List UInt8) : List UInt32 := List.zipWith (· + ·) st (rndsS (schedK block 64) 64 (S8.of st)).list
theorem u32s_get {l : List UInt32} {i : Nat} (h : i < l.length) : (u32s l).toArray[i]? = some (.int .u32 (wv (l.getD i 0))) := by simp [u32s, h, u32V]

theorem run_buildS (s : S8) (w : World) : (Instr.build 114 (partsOf s.list)).run Tryz.prog w = .ok (.agg (u32s s.list).toArray) w := by kernel_rfl
theorem wv_not' (x : UInt32) : bits .xor .u32 (if IntKind.u32.signed = true then -1 else IntKind.u32.max) (wv x) = wv (~~~x) := wv_not x
theorem t1_raw (s : S8) (kk ww : UInt32) : (wv (s.h + (rotR s.e 6 ^^^ rotR s.e 11 ^^^ rotR s.e 25)) + bits .xor .u32 (wv (s.e &&& s.f)) (bits .and .u32 (bits .xor .u32 (if IntKind.u32.signed = true then -1 else IntKind.u32.max) (wv s.e)) (wv s.g)) + wv kk + wv ww) % 4294967296 = wv (t1S s kk ww) := by
  rw [wv_not', wv_and, wv_xor]
  unfold t1S
  generalize s.h + (rotR s.e 6 ^^^ rotR s.e 11 ^^^ rotR s.e 25) = x
  generalize (s.e &&& s.f) ^^^ (~~~s.e &&& s.g) = y
  unfold wv
  simp only [UInt32.toNat_add]
  omega
/-- the sums so far -/
def addP (st v : List UInt32) (k : Nat) : List UInt32 := (List.zipWith (· + ·) st v).take k ++ st.drop k
theorem addP_zero (st v : List UInt32) : addP st v 0 = st := by simp [addP]
theorem addP_len {st v : List UInt32} {k : Nat} (h1 : st.length = 8) (h2 : v.length = 8) (hk : k ≤ 8) : (addP st v k).length = 8 := by simp [addP, h1, h2]; omega
theorem addP_get {st v : List UInt32} {k : Nat} (h1 : st.length = 8) (h2 : v.length = 8) (hk : k < 8) : (addP st v k).getD k 0 = st.getD k 0 := by
  unfold addP
  rw [List.getD_eq_getElem?_getD, List.getD_eq_getElem?_getD, List.getElem?_append_right (by simp; omega), List.length_take, List.getElem?_drop]
  simp only [List.length_zipWith, h1, h2, Nat.min_self]
  rw [Nat.min_eq_left (by omega)]
  simp
theorem addP_set {st v : List UInt32} {k : Nat} (h1 : st.length = 8) (h2 : v.length = 8) (hk : k < 8) : (addP st v k).set k (st.getD k 0 + v.getD k 0) = addP st v (k + 1) := by
  unfold addP
  have hz : (List.zipWith (· + ·) st v).length = 8 := by simp [h1, h2]
  rw [List.set_append_right _ _ (by simp; omega), List.length_take, hz, Nat.min_eq_left (by omega), Nat.sub_self, List.drop_eq_getElem_cons (by omega : k < st.length), List.set_cons_zero, List.take_succ_eq_append_getElem (by omega : k < (List.zipWith (· + ·) st v).length)]
  simp [h1, h2, hk]
theorem addP_all {st v : List UInt32} (h1 : st.length = 8) (h2 : v.length = 8) : addP st v 8 = List.zipWith (· + ·) st v := by
  unfold addP
  rw [List.take_of_length_le (by simp [h1, h2]), List.drop_eq_nil_of_le (by omega), List.append_nil]
theorem u32s_set (a : List UInt32) (k : Nat) (x : UInt32) : (u32s a).toArray.setIfInBounds k (.int .u32 (wv x)) = (u32s (a.set k x)).toArray := by simp [u32s, List.map_set, u32V]
theorem S8.len (s : S8) : s.list.length = 8 := rfl
set_option maxRecDepth 100000 in
set_option maxHeartbeats 800000 in
theorem sha_compress (st : List UInt32) (hst : st.length = 8) (b : ByteArray) (hb : b.size = 64) (w : World) :
    Calls Tryz.prog 101 #[.agg (u32s st).toArray, .string b] w fun e w' => e = .returned (.agg (u32s (compressL st b.data.toList)).toArray) ∧ Below w.heap.size w w' := by
  obtain ⟨cs, hcs⟩ : ∃ cs, (u32s st).toArray = cs := ⟨_, rfl⟩
  obtain ⟨z, hz⟩ : ∃ z : Array Value, Array.replicate 64 (Value.int .u32 0) = z := ⟨_, rfl⟩
  have hz0 := zeroW
  rw [hz] at hz0
  have hzs : z.size = 64 := by rw [← hz]; simp
  obtain ⟨y, hy⟩ : ∃ y : Array Value, Array.replicate 8 (Value.int .u32 0) = y := ⟨_, rfl⟩
  have hy0 := zeroH
  rw [hy] at hy0
  have hys : y.size = 8 := by rw [← hy]; simp
  obtain ⟨W, hW⟩ : ∃ W, schedK b.data.toList 64 = W := ⟨_, rfl⟩
  have hWl : W.length = 64 := by rw [← hW]; exact schedK_len _ _
  have hsch : ∀ w, Calls Tryz.prog 113 #[.string b] w fun e w' => e = .returned (.agg (u32s W).toArray) ∧ Below w.heap.size w w' := fun w => hW ▸ sha_schedule b hb w
  obtain ⟨cW, hcW⟩ : ∃ c, (u32s W).toArray = c := ⟨_, rfl⟩
  obtain ⟨cK, hcK⟩ : ∃ c, (u32s shaK).toArray = c := ⟨_, rfl⟩
  have hcon := sha_constants
  rw [hcK] at hcon
  rw [hcW] at hsch
  have hWs : cW.size = 64 := by rw [← hcW]; simp [u32s, hWl]
  have hKs : cK.size = 64 := by rw [← hcK]; rfl
  have hW1 : cW.all (·.oneCell') = true := by rw [← hcW]; exact u32s_one _
  have hK1 : cK.all (·.oneCell') = true := by rw [← hcK]; exact u32s_one _
  rw [hcs]
  have Z0 := Lib.hid hz0
  have Zs := Lib.hid hzs
  have Y0 := Lib.hid hy0
  have Ys := Lib.hid hys
  have HW := Lib.hid hW
  have HWl := Lib.hid hWl
  have Hsch := Lib.hid hsch
  have Hcon := Lib.hid hcon
  have HcW := Lib.hid hcW
  have HcK := Lib.hid hcK
  have HWs := Lib.hid hWs
  have HKs := Lib.hid hKs
  have HW1 := Lib.hid hW1
  have HK1 := Lib.hid hK1
  have Hcs := Lib.hid hcs
  have Hst := Lib.hid hst
  clear hz hz0 hzs hy hy0 hys hW hWl hsch hcW hcK hcon hWs hKs hW1 hK1 hcs hst hb
  go_enter Tryz.func101, Tryz.ntmps101
  go_wp2_with (refine wpList_alloc_row rfl 114 rfl y Y0.out ?_)
  refine (Hsch.out _).mono ?_
  rintro e w1 ⟨rfl, hb1⟩
  have xs := (Bx.new w cs 114 |>.alloc (.cells y 114)).belowAll hb1
  have xr := (Bx.new (w.alloc (.cells cs 114)) y 114).belowAll hb1
  have hB1 := Below.then ((Below.one w (.cells cs 114)).alloc (by simp) (.cells y 114)) hb1 (by simp; omega)
  simp only [World.size_alloc] at xr
  go_wp2_with fail
  refine (Hcon.out _).mono ?_
  rintro e w2 ⟨rfl, hb2⟩
  have xs := xs.belowAll hb2
  have xr := xr.belowAll hb2
  have hB2 := Below.then hB1 hb2 hB1.size
  have xW := (Bx.new w2 z 129).alloc (.cells z 129)
  have xK := Bx.new (w2.alloc (.cells z 129)) z 129
  go_wp2_with (first
    | (refine wpList_alloc_row rfl 129 rfl z Z0.out ?_)
    | (refine wpList_store_mid rfl 129 (.tmp 5) (.tmp 21) rfl w2.heap.size 0 cW rfl rfl (there_bx xW (by rw [HWs.out, Zs.out]; exact Nat.le_refl _)) (by rw [sizeW, HWs.out]) HW1.out ?_)
    | (refine wpList_store_mid rfl 129 (.tmp 6) (.tmp 22) rfl (w2.alloc (.cells z 129)).heap.size 0 cK rfl rfl (there_bx (xK.setCellsO (b' := w2.heap.size) (by simp) cW.toList 0) (by rw [HKs.out, Zs.out]; exact Nat.le_refl _)) (by rw [sizeW, HKs.out]) HK1.out ?_))
  simp only [Act.put, List.setIfInBounds_toArray, List.set_cons_zero, List.set_cons_succ]
  have hz1 : w.heap.size + 1 < w2.heap.size := xr.lt
  have xW2 := (xW.setAll (cx := cW) (by rw [HWs.out, Zs.out])).setCellsO (b' := (w2.alloc (.cells z 129)).heap.size) (by simp) cK.toList 0
  have xK2 := (xK.setCellsO (b' := w2.heap.size) (by simp) cW.toList 0).setAll (cx := cK) (by rw [HKs.out, Zs.out])
  have xs := (((xs.alloc (.cells z 129)).alloc (.cells z 129)).setCellsO (b' := w2.heap.size) (by omega) cW.toList 0).setCellsO (b' := (w2.alloc (.cells z 129)).heap.size) (by simp; omega) cK.toList 0
  have xr := (((xr.alloc (.cells z 129)).alloc (.cells z 129)).setCellsO (b' := w2.heap.size) (by omega) cW.toList 0).setCellsO (b' := (w2.alloc (.cells z 129)).heap.size) (by simp; omega) cK.toList 0
  have hB3 := below_setCells (b := (w2.alloc (.cells z 129)).heap.size) (by simp; omega) cK.toList 0 _ (below_setCells (b := w2.heap.size) (by omega) cW.toList 0 _ ((hB2.alloc (by omega) (.cells z 129)).alloc (by simp; omega) (.cells z 129)))
  generalize (((w2.alloc (.cells z 129)).alloc (.cells z 129)).setCells w2.heap.size 0 cW.toList).setCells (w2.alloc (.cells z 129)).heap.size 0 cK.toList = w3 at *
  simp only [World.size_alloc] at xK2 ⊢
  generalize w2.heap.size = n2 at *
  clear hB2 hb2 xW xK
  have g0 : w3.cell? ⟨w.heap.size, 0, none⟩ = some (.int .u32 (wv (st.getD 0 0))) := by rw [xs.cell, ← Hcs.out, u32s_get (by rw [Hst.out]; decide)]
  have g1 : w3.cell? ⟨w.heap.size, 1, none⟩ = some (.int .u32 (wv (st.getD 1 0))) := by rw [xs.cell, ← Hcs.out, u32s_get (by rw [Hst.out]; decide)]
  have g2 : w3.cell? ⟨w.heap.size, 2, none⟩ = some (.int .u32 (wv (st.getD 2 0))) := by rw [xs.cell, ← Hcs.out, u32s_get (by rw [Hst.out]; decide)]
  have g3 : w3.cell? ⟨w.heap.size, 3, none⟩ = some (.int .u32 (wv (st.getD 3 0))) := by rw [xs.cell, ← Hcs.out, u32s_get (by rw [Hst.out]; decide)]
  have g4 : w3.cell? ⟨w.heap.size, 4, none⟩ = some (.int .u32 (wv (st.getD 4 0))) := by rw [xs.cell, ← Hcs.out, u32s_get (by rw [Hst.out]; decide)]
  have g5 : w3.cell? ⟨w.heap.size, 5, none⟩ = some (.int .u32 (wv (st.getD 5 0))) := by rw [xs.cell, ← Hcs.out, u32s_get (by rw [Hst.out]; decide)]
  have g6 : w3.cell? ⟨w.heap.size, 6, none⟩ = some (.int .u32 (wv (st.getD 6 0))) := by rw [xs.cell, ← Hcs.out, u32s_get (by rw [Hst.out]; decide)]
  have g7 : w3.cell? ⟨w.heap.size, 7, none⟩ = some (.int .u32 (wv (st.getD 7 0))) := by rw [xs.cell, ← Hcs.out, u32s_get (by rw [Hst.out]; decide)]
  go_quiet (fail)
  go_wp2
  have hBq := Below.drewN hB3 nq
  have xWq := xW2.drewN nq
  have xKq := xK2.drewN nq
  have xsq := xs.drewN nq
  have xrq := xr.drewN nq
  generalize w3.drewN nq = w4 at *
  clear g0 g1 g2 g3 g4 g5 g6 g7 xs xr xW2 xK2 hB3
  go_loopw [39, 7, 8, 9, 10, 11, 12, 13, 14] (fun i va vb vc vd ve vf vg vh wr => ∃ k : Nat, k ≤ 64 ∧ i = .int .i64 k ∧ va = .int .u32 (wv (rndsS W k (S8.of st)).a) ∧ vb = .int .u32 (wv (rndsS W k (S8.of st)).b) ∧ vc = .int .u32 (wv (rndsS W k (S8.of st)).c) ∧ vd = .int .u32 (wv (rndsS W k (S8.of st)).d) ∧ ve = .int .u32 (wv (rndsS W k (S8.of st)).e) ∧ vf = .int .u32 (wv (rndsS W k (S8.of st)).f) ∧ vg = .int .u32 (wv (rndsS W k (S8.of st)).g) ∧ vh = .int .u32 (wv (rndsS W k (S8.of st)).h) ∧
    Bx wr n2 cW 129 ∧ Bx wr (n2 + 1) cK 129 ∧ Bx wr w.heap.size cs 114 ∧ Bx wr (w.heap.size + 1) y 114 ∧ Below w.heap.size w wr) (fun i _ _ _ _ _ _ _ _ _ => 64 - (intOf i).toNat)
  case atStart => exact ⟨0, by omega, rfl, rfl, rfl, rfl, rfl, rfl, rfl, rfl, rfl, xWq, xKq, xsq, xrq, hBq⟩
  case round =>
    clear xWq xKq xsq xrq hBq
    obtain ⟨k, hk, rfl, rfl, rfl, rfl, rfl, rfl, rfl, rfl, rfl, xW, xK, xs, xr, hB⟩ := hrel
    by_cases hlt : k < 64
    · have hlt' : (k : Int) < 64 := by omega
      go_wp2_with fail
      have hstep : rndsS W (k + 1) (S8.of st) = rndS (rndsS W k (S8.of st)) (shaK.getD k 0) (W.getD k 0) := rfl
      have gW : wr.cell? ⟨n2, k, none⟩ = some (.int .u32 (wv (W.getD k 0))) := by rw [xW.cell, ← HcW.out, u32s_get (by rw [HWl.out]; exact hlt)]
      have gK : wr.cell? ⟨n2 + 1, k, none⟩ = some (.int .u32 (wv (shaK.getD k 0))) := by rw [xK.cell, ← HcK.out, u32s_get (by rw [shaK_len]; exact hlt)]
      generalize W.getD k 0 = ww at *
      generalize shaK.getD k 0 = kk at *
      have Hstep := Lib.hid hstep
      clear hstep
      generalize rndsS W k (S8.of st) = s at *
      have lW := xW.lt
      have lK := xK.lt
      have h6 : ∀ V, Calls Tryz.prog 115 #[.int .u32 (wv s.e), .int .i64 6] V fun e w' => e = .returned (.int .u32 (wv (rotR s.e 6))) ∧ V = w' := fun V => sha_rot s.e 6 6 6 rfl rfl (by decide) (by decide) V
      have h11 : ∀ V, Calls Tryz.prog 115 #[.int .u32 (wv s.e), .int .i64 11] V fun e w' => e = .returned (.int .u32 (wv (rotR s.e 11))) ∧ V = w' := fun V => sha_rot s.e 11 11 11 rfl rfl (by decide) (by decide) V
      have h25 : ∀ V, Calls Tryz.prog 115 #[.int .u32 (wv s.e), .int .i64 25] V fun e w' => e = .returned (.int .u32 (wv (rotR s.e 25))) ∧ V = w' := fun V => sha_rot s.e 25 25 25 rfl rfl (by decide) (by decide) V
      have h2 : ∀ V, Calls Tryz.prog 115 #[.int .u32 (wv s.a), .int .i64 2] V fun e w' => e = .returned (.int .u32 (wv (rotR s.a 2))) ∧ V = w' := fun V => sha_rot s.a 2 2 2 rfl rfl (by decide) (by decide) V
      have h13 : ∀ V, Calls Tryz.prog 115 #[.int .u32 (wv s.a), .int .i64 13] V fun e w' => e = .returned (.int .u32 (wv (rotR s.a 13))) ∧ V = w' := fun V => sha_rot s.a 13 13 13 rfl rfl (by decide) (by decide) V
      have h22 : ∀ V, Calls Tryz.prog 115 #[.int .u32 (wv s.a), .int .i64 22] V fun e w' => e = .returned (.int .u32 (wv (rotR s.a 22))) ∧ V = w' := fun V => sha_rot s.a 22 22 22 rfl rfl (by decide) (by decide) V
      have H6 := Lib.hid h6
      have H11 := Lib.hid h11
      have H25 := Lib.hid h25
      have H2 := Lib.hid h2
      have H13 := Lib.hid h13
      have H22 := Lib.hid h22
      clear h6 h11 h25 h2 h13 h22
      have hxor := wv_xor
      have hand := wv_and
      have hnot := wv_not
      have hadd := wv_add'
      have cQ := Lat.cells wr
      refine wp_region_lat (by kernel_rfl) (by kernel_rfl) ?_
      repeat (any_goals (first | go_big_quiet_skip | (go_big_quiet_want; go_big_quiet_op; first | go_big_quiet_on | go_big_quiet_call ((first | (with_reducible exact Calls.lat_same (H6.out _)) | (with_reducible exact Calls.lat_same (H11.out _)) | (with_reducible exact Calls.lat_same (H25.out _))))) | quiet_step ((first | (with_reducible exact Calls.lat_same (H6.out _)) | (with_reducible exact Calls.lat_same (H11.out _)) | (with_reducible exact Calls.lat_same (H25.out _))))))
      refine wpQuiet_nil ?_
      rintro W9 ⟨⟨_, hb9⟩, rfl⟩
      go_wp2_with (first
        | ((with_reducible refine (H2.out _).mono ?_); rintro e w' ⟨rfl, rfl⟩)
        | ((with_reducible refine (H13.out _).mono ?_); rintro e w' ⟨rfl, rfl⟩)
        | ((with_reducible refine (H22.out _).mono ?_); rintro e w' ⟨rfl, rfl⟩))
      have xW := xW.belowAll hb9
      have xK := xK.belowAll hb9
      have xs := xs.belowAll hb9
      have xr := xr.belowAll hb9
      have hB := Below.then hB hb9 hB.size
      rw [t1_raw s kk ww, wv_add', wv_add']
      clear H6 H11 H25 H2 H13 H22 cQ gW gK
      go_roundw
      case rel =>
        refine ⟨k + 1, by omega, by go_num, ?_, ?_, ?_, ?_, ?_, ?_, ?_, ?_, xW, xK, xs, xr, hB⟩ <;> rw [Hstep.out] <;> rfl
      case measure => simp [intOf]; omega
    · obtain rfl : k = 64 := by omega
      have hlt' : ¬ ((64 : Nat) : Int) < 64 := by omega
      obtain ⟨s, hs⟩ : ∃ s, rndsS W 64 (S8.of st) = s := ⟨_, rfl⟩
      rw [hs]
      have Hs := Lib.hid hs
      clear hs xW xK
      obtain ⟨cv, hcv⟩ : ∃ c, (u32s s.list).toArray = c := ⟨_, rfl⟩
      have R := Lib.hid (run_buildS s)
      rw [hcv] at R
      have Hcv := Lib.hid hcv
      clear hcv
      go_wp2_with (refine wpList_build_run rfl 114 _ rfl (partsOf s.list) (by kernel_rfl) cv R.out ?_)
      go_loopw [111] (fun i wr => ∃ k : Nat, k ≤ 8 ∧ i = .int .i64 k ∧ Bx wr w.heap.size (u32s (addP st s.list k)).toArray 114 ∧ Bx wr (w.heap.size + 1) y 114 ∧ Below w.heap.size w wr) (fun i _ => 8 - (intOf i).toNat)
      case atStart => exact ⟨0, by omega, rfl, by rw [addP_zero, Hcs.out]; exact xs, xr, hB⟩
      case round =>
        clear xs xr hB
        obtain ⟨k, hk, rfl, xs, xr, hB⟩ := hrel
        by_cases hlt : k < 8
        · have hlt' : (k : Int) < 8 := by omega
          have hst := Hst.out
          have gv : cv[k]? = some (.int .u32 (wv (s.list.getD k 0))) := by rw [← Hcv.out, u32s_get (by rw [S8.len]; exact hlt)]
          have gs : wr.cell? ⟨w.heap.size, k, none⟩ = some (.int .u32 (wv (st.getD k 0))) := by rw [xs.cell, u32s_get (by rw [addP_len hst (S8.len s) (by omega)]; exact hlt), addP_get hst (S8.len s) hlt]
          have hset := addP_set hst (S8.len s) hlt
          generalize st.getD k 0 = p at *
          generalize s.list.getD k 0 = q at *
          have Hset := Lib.hid hset
          clear hset hst
          have fs := xs.free k
          have ls := xs.lt
          have hadd := wv_add'
          have gi := Lib.hid gv
          clear gv
          go_wp2_with (refine wpList_index_cell rfl 114 (.tmp 110) (.tmp 111) rfl cv rfl k rfl 8 111 Tryz.underlying114 .u32 Tryz.underlying111 rfl hlt _ gi.out ?_)
          go_roundw
          case rel =>
            refine ⟨k + 1, by omega, by go_num, ?_, xr.setO (a := ⟨w.heap.size, k, none⟩) (by simp) _, below_set1 hB (Nat.le_refl _)⟩
            have := xs.set k (.int .u32 (wv (p + q)))
            rw [u32s_set, Hset.out] at this
            exact this
          case measure => simp [intOf]; omega
        · obtain rfl : k = 8 := by omega
          have hlt' : ¬ ((8 : Nat) : Int) < 8 := by omega
          have hall := addP_all Hst.out (S8.len s)
          have hfin : List.zipWith (· + ·) st s.list = compressL st b.data.toList := by unfold compressL; rw [HW.out, Hs.out]
          rw [hall, hfin] at xs
          have hl8 : (compressL st b.data.toList).length = 8 := by rw [← hfin]; simp [Hst.out, S8.len]
          clear hall hfin
          obtain ⟨cx, hcx⟩ : ∃ cx, (u32s (compressL st b.data.toList)).toArray = cx := ⟨_, rfl⟩
          have hsz : cx.size = 8 := by rw [← hcx]; simp [u32s, hl8]
          have h1 : cx.all (·.oneCell') = true := by rw [← hcx]; exact u32s_one _
          rw [hcx] at xs
          have Hcx := Lib.hid hcx
          have H1 := Lib.hid h1
          have Hsz := Lib.hid hsz
          clear h1 hsz hcx hl8
          go_wp2_with (first
            | (refine wpList_load_mid rfl 114 (.tmp 2) rfl w.heap.size 0 rfl cx.toList _ xs.range Tryz.underlying114 rfl (by rw [sizeH]; simp [Hsz.out]) ?_)
            | (refine wpList_store_mid rfl 114 (.tmp 4) (.tmp 122) rfl (w.heap.size + 1) 0 cx rfl rfl (there_bx xr (by rw [Hsz.out, Ys.out]; exact Nat.le_refl _)) (by rw [sizeH, Hsz.out]) H1.out ?_))
          have xr2 := xr.setAll (cx := cx) (by rw [Hsz.out, Ys.out])
          refine bodyPost_ret (v := .agg cx) (results_cell_row (d := .array 8 111) Tryz.results101 _ _ (w.heap.size + 1) _ _ _ rfl xr2 Tryz.underlying114 rfl (by rw [sizeH, Hsz.out])) rfl ?_
          rw [Hcx.out]
          exact ⟨rfl, below_setCells (by omega) _ _ _ hB⟩
end Go.Proofs.YtebgopdmeghmhaaGreat
