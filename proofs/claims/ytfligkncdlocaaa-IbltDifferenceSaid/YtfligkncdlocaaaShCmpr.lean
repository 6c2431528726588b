/- One block: the program's compress. -/
import Derived.Test.YtfligkncdlocaaaShSchP
import Derived.Test.YtfligkncdlocaaaShCon
namespace Go.Proofs.Ytfligkncdlocaaa
open Go.RowKit

structure S8 where
  a : UInt32
  b : UInt32
  c : UInt32
  d : UInt32
  e : UInt32
  f : UInt32
  g : UInt32
  h : UInt32
def S8.of (l : List UInt32) : S8 := ⟨l.getD 0 0, l.getD 1 0, l.getD 2 0, l.getD 3 0, l.getD 4 0, l.getD 5 0, l.getD 6 0, l.getD 7 0⟩
def S8.list (s : S8) : List UInt32 := [s.a, s.b, s.c, s.d, s.e, s.f, s.g, s.h]
def t1S (s : S8) (k w : UInt32) : UInt32 := s.h + (rotR s.e 6 ^^^ rotR s.e 11 ^^^ rotR s.e 25) + ((s.e &&& s.f) ^^^ (~~~s.e &&& s.g)) + k + w
def t2S (s : S8) : UInt32 := (rotR s.a 2 ^^^ rotR s.a 13 ^^^ rotR s.a 22) + ((s.a &&& s.b) ^^^ (s.a &&& s.c) ^^^ (s.b &&& s.c))
def rndS (s : S8) (k w : UInt32) : S8 := ⟨t1S s k w + t2S s, s.a, s.b, s.c, s.d + t1S s k w, s.e, s.f, s.g⟩
def rndsS (W : List UInt32) : Nat → S8 → S8
  | 0, s => s
  | n + 1, s => rndS (rndsS W n s) (shaK.getD n 0) (W.getD n 0)
/-- the state after a block -/
def compressL (st : List UInt32) (block : List UInt8) : List UInt32 := List.zipWith (· + ·) st (rndsS (schedK block 64) 64 (S8.of st)).list
theorem u32s_get {l : List UInt32} {i : Nat} (h : i < l.length) : (u32s l).toArray[i]? = some (.int .u32 (wv (l.getD i 0))) := by simp [u32s, h, u32V]

theorem run_buildS (s : S8) (w : World) : (Instr.build 89 (partsOf s.list)).run Try.prog w = .ok (.agg (u32s s.list).toArray) w := by kernel_rfl
theorem wv_not' (x : UInt32) : bits .xor .u32 (if IntKind.u32.signed = true then -1 else IntKind.u32.max) (wv x) = wv (~~~x) := wv_not x
theorem t1_raw (s : S8) (kk ww : UInt32) : (wv (s.h + (rotR s.e 6 ^^^ rotR s.e 11 ^^^ rotR s.e 25)) + bits .xor .u32 (wv (s.e &&& s.f)) (bits .and .u32 (bits .xor .u32 (if IntKind.u32.signed = true then -1 else IntKind.u32.max) (wv s.e)) (wv s.g)) + wv kk + wv ww) % 4294967296 = wv (t1S s kk ww) := by
  rw [wv_not', wv_and, wv_xor]
  unfold t1S
  generalize s.h + (rotR s.e 6 ^^^ rotR s.e 11 ^^^ rotR s.e 25) = x
  generalize (s.e &&& s.f) ^^^ (~~~s.e &&& s.g) = y
  unfold wv
  simp only [UInt32.toNat_add]
  omega
/-- the sums so far -/
def addP (st v : List UInt32) (k : Nat) : List UInt32 := (List.zipWith (· + ·) st v).take k ++ st.drop k
theorem addP_zero (st v : List UInt32) : addP st v 0 = st := by simp [addP]
theorem addP_len {st v : List UInt32} {k : Nat} (h1 : st.length = 8) (h2 : v.length = 8) (hk : k ≤ 8) : (addP st v k).length = 8 := by simp [addP, h1, h2]; omega
theorem addP_get {st v : List UInt32} {k : Nat} (h1 : st.length = 8) (h2 : v.length = 8) (hk : k < 8) : (addP st v k).getD k 0 = st.getD k 0 := by
  unfold addP
  rw [List.getD_eq_getElem?_getD, List.getD_eq_getElem?_getD, List.getElem?_append_right (by simp; omega), List.length_take, List.getElem?_drop]
  simp only [List.length_zipWith, h1, h2, Nat.min_self]
  rw [Nat.min_eq_left (by omega)]
  simp
theorem addP_set {st v : List UInt32} {k : Nat} (h1 : st.length = 8) (h2 : v.length = 8) (hk : k < 8) : (addP st v k).set k (st.getD k 0 + v.getD k 0) = addP st v (k + 1) := by
  unfold addP
  have hz : (List.zipWith (· + ·) st v).length = 8 := by simp [h1, h2]
  rw [List.set_append_right _ _ (by simp; omega), List.length_take, hz, Nat.min_eq_left (by omega), Nat.sub_self, List.drop_eq_getElem_cons (by omega : k < st.length), List.set_cons_zero, List.take_succ_eq_append_getElem (by omega : k < (List.zipWith (· + ·) st v).length)]
  simp [h1, h2, hk]
theorem addP_all {st v : List UInt32} (h1 : st.length = 8) (h2 : v.length = 8) : addP st v 8 = List.zipWith (· + ·) st v := by
  unfold addP
  rw [List.take_of_length_le (by simp [h1, h2]), List.drop_eq_nil_of_le (by omega), List.append_nil]
theorem u32s_set (a : List UInt32) (k : Nat) (x : UInt32) : (u32s a).toArray.setIfInBounds k (.int .u32 (wv x)) = (u32s (a.set k x)).toArray := by simp [u32s, List.map_set, u32V]
theorem S8.len (s : S8) : s.list.length = 8 := rfl
set_option maxRecDepth 100000 in
set_option maxHeartbeats 800000 in
theorem sha_compress (st : List UInt32) (hst : st.length = 8) (b : ByteArray) (hb : b.size = 64) (w : World) :
    Calls Try.prog 71 #[.agg (u32s st).toArray, .string b] w fun e w' => e = .returned (.agg (u32s (compressL st b.data.toList)).toArray) ∧ Below w.heap.size w w' := by
  obtain ⟨cs, hcs⟩ : ∃ cs, (u32s st).toArray = cs := ⟨_, rfl⟩
  obtain ⟨z, hz⟩ : ∃ z : Array Value, Array.replicate 64 (Value.int .u32 0) = z := ⟨_, rfl⟩
  have hz0 := zeroW
  rw [hz] at hz0
  have hzs : z.size = 64 := by rw [← hz]; simp
  obtain ⟨y, hy⟩ : ∃ y : Array Value, Array.replicate 8 (Value.int .u32 0) = y := ⟨_, rfl⟩
  have hy0 := zeroH
  rw [hy] at hy0
  have hys : y.size = 8 := by rw [← hy]; simp
  obtain ⟨W, hW⟩ : ∃ W, schedK b.data.toList 64 = W := ⟨_, rfl⟩
  have hWl : W.length = 64 := by rw [← hW]; exact schedK_len _ _
  have hsch : ∀ w, Calls Try.prog 80 #[.string b] w fun e w' => e = .returned (.agg (u32s W).toArray) ∧ Below w.heap.size w w' := fun w => hW ▸ sha_schedule b hb w
  obtain ⟨cW, hcW⟩ : ∃ c, (u32s W).toArray = c := ⟨_, rfl⟩
  obtain ⟨cK, hcK⟩ : ∃ c, (u32s shaK).toArray = c := ⟨_, rfl⟩
  have hcon := sha_constants
  rw [hcK] at hcon
  rw [hcW] at hsch
  have hWs : cW.size = 64 := by rw [← hcW]; simp [u32s, hWl]
  have hKs : cK.size = 64 := by rw [← hcK]; rfl
  have hW1 : cW.all (·.oneCell') = true := by rw [← hcW]; exact u32s_one _
  have hK1 : cK.all (·.oneCell') = true := by rw [← hcK]; exact u32s_one _
  rw [hcs]
  have Z0 := Lib.hid hz0
  have Zs := Lib.hid hzs
  have Y0 := Lib.hid hy0
  have Ys := Lib.hid hys
  have HW := Lib.hid hW
  have HWl := Lib.hid hWl
  have Hsch := Lib.hid hsch
  have Hcon := Lib.hid hcon
  have HcW := Lib.hid hcW
  have HcK := Lib.hid hcK
  have HWs := Lib.hid hWs
  have HKs := Lib.hid hKs
  have HW1 := Lib.hid hW1
  have HK1 := Lib.hid hK1
  have Hcs := Lib.hid hcs
  have Hst := Lib.hid hst
  clear hz hz0 hzs hy hy0 hys hW hWl hsch hcW hcK hcon hWs hKs hW1 hK1 hcs hst hb
  go_enter Try.func71, Try.ntmps71
  go_wp2_with (refine wpList_alloc_row rfl 89 rfl y Y0.out ?_)
  refine (Hsch.out _).mono ?_
  rintro e w1 ⟨rfl, hb1⟩
  have xs := (Bx.new w cs 89 |>.alloc (.cells y 89)).belowAll hb1
  have xr := (Bx.new (w.alloc (.cells cs 89)) y 89).belowAll hb1
  have hB1 := Below.then ((Below.one w (.cells cs 89)).alloc (by simp) (.cells y 89)) hb1 (by simp; omega)
  simp only [World.size_alloc] at xr
  go_wp2_with fail
  refine (Hcon.out _).mono ?_
  rintro e w2 ⟨rfl, hb2⟩
  have xs := xs.belowAll hb2
  have xr := xr.belowAll hb2
  have hB2 := Below.then hB1 hb2 hB1.size
  have xW := (Bx.new w2 z 103).alloc (.cells z 103)
  have xK := Bx.new (w2.alloc (.cells z 103)) z 103
  go_wp2_with (first
    | (refine wpList_alloc_row rfl 103 rfl z Z0.out ?_)
    | (refine wpList_store_mid rfl 103 (.tmp 5) (.tmp 21) rfl w2.heap.size 0 cW rfl rfl (there_bx xW (by rw [HWs.out, Zs.out]; exact Nat.le_refl _)) (by rw [sizeW, HWs.out]) HW1.out ?_)
    | (refine wpList_store_mid rfl 103 (.tmp 6) (.tmp 22) rfl (w2.alloc (.cells z 103)).heap.size 0 cK rfl rfl (there_bx (xK.setCellsO (b' := w2.heap.size) (by simp) cW.toList 0) (by rw [HKs.out, Zs.out]; exact Nat.le_refl _)) (by rw [sizeW, HKs.out]) HK1.out ?_))
  simp only [Act.put, List.setIfInBounds_toArray, List.set_cons_zero, List.set_cons_succ]
  have hz1 : w.heap.size + 1 < w2.heap.size := xr.lt
  have xW2 := (xW.setAll (cx := cW) (by rw [HWs.out, Zs.out])).setCellsO (b' := (w2.alloc (.cells z 103)).heap.size) (by simp) cK.toList 0
  have xK2 := (xK.setCellsO (b' := w2.heap.size) (by simp) cW.toList 0).setAll (cx := cK) (by rw [HKs.out, Zs.out])
  have xs := (((xs.alloc (.cells z 103)).alloc (.cells z 103)).setCellsO (b' := w2.heap.size) (by omega) cW.toList 0).setCellsO (b' := (w2.alloc (.cells z 103)).heap.size) (by simp; omega) cK.toList 0
  have xr := (((xr.alloc (.cells z 103)).alloc (.cells z 103)).setCellsO (b' := w2.heap.size) (by omega) cW.toList 0).setCellsO (b' := (w2.alloc (.cells z 103)).heap.size) (by simp; omega) cK.toList 0
  have hB3 := below_setCells (b := (w2.alloc (.cells z 103)).heap.size) (by simp; omega) cK.toList 0 _ (below_setCells (b := w2.heap.size) (by omega) cW.toList 0 _ ((hB2.alloc (by omega) (.cells z 103)).alloc (by simp; omega) (.cells z 103)))
  generalize (((w2.alloc (.cells z 103)).alloc (.cells z 103)).setCells w2.heap.size 0 cW.toList).setCells (w2.alloc (.cells z 103)).heap.size 0 cK.toList = w3 at *
  simp only [World.size_alloc] at xK2 ⊢
  generalize w2.heap.size = n2 at *
  clear hB2 hb2 xW xK
  have g0 : w3.cell? ⟨w.heap.size, 0, none⟩ = some (.int .u32 (wv (st.getD 0 0))) := by rw [xs.cell, ← Hcs.out, u32s_get (by rw [Hst.out]; decide)]
  have g1 : w3.cell? ⟨w.heap.size, 1, none⟩ = some (.int .u32 (wv (st.getD 1 0))) := by rw [xs.cell, ← Hcs.out, u32s_get (by rw [Hst.out]; decide)]
  have g2 : w3.cell? ⟨w.heap.size, 2, none⟩ = some (.int .u32 (wv (st.getD 2 0))) := by rw [xs.cell, ← Hcs.out, u32s_get (by rw [Hst.out]; decide)]
  have g3 : w3.cell? ⟨w.heap.size, 3, none⟩ = some (.int .u32 (wv (st.getD 3 0))) := by rw [xs.cell, ← Hcs.out, u32s_get (by rw [Hst.out]; decide)]
  have g4 : w3.cell? ⟨w.heap.size, 4, none⟩ = some (.int .u32 (wv (st.getD 4 0))) := by rw [xs.cell, ← Hcs.out, u32s_get (by rw [Hst.out]; decide)]
  have g5 : w3.cell? ⟨w.heap.size, 5, none⟩ = some (.int .u32 (wv (st.getD 5 0))) := by rw [xs.cell, ← Hcs.out, u32s_get (by rw [Hst.out]; decide)]
  have g6 : w3.cell? ⟨w.heap.size, 6, none⟩ = some (.int .u32 (wv (st.getD 6 0))) := by rw [xs.cell, ← Hcs.out, u32s_get (by rw [Hst.out]; decide)]
  have g7 : w3.cell? ⟨w.heap.size, 7, none⟩ = some (.int .u32 (wv (st.getD 7 0))) := by rw [xs.cell, ← Hcs.out, u32s_get (by rw [Hst.out]; decide)]
  go_quiet (fail)
  go_wp2
  have hBq := Below.drewN hB3 nq
  have xWq := xW2.drewN nq
  have xKq := xK2.drewN nq
  have xsq := xs.drewN nq
  have xrq := xr.drewN nq
  generalize w3.drewN nq = w4 at *
  clear g0 g1 g2 g3 g4 g5 g6 g7 xs xr xW2 xK2 hB3
  go_loopw [39, 7, 8, 9, 10, 11, 12, 13, 14] (fun i va vb vc vd ve vf vg vh wr => ∃ k : Nat, k ≤ 64 ∧ i = .int .i64 k ∧ va = .int .u32 (wv (rndsS W k (S8.of st)).a) ∧ vb = .int .u32 (wv (rndsS W k (S8.of st)).b) ∧ vc = .int .u32 (wv (rndsS W k (S8.of st)).c) ∧ vd = .int .u32 (wv (rndsS W k (S8.of st)).d) ∧ ve = .int .u32 (wv (rndsS W k (S8.of st)).e) ∧ vf = .int .u32 (wv (rndsS W k (S8.of st)).f) ∧ vg = .int .u32 (wv (rndsS W k (S8.of st)).g) ∧ vh = .int .u32 (wv (rndsS W k (S8.of st)).h) ∧
    Bx wr n2 cW 103 ∧ Bx wr (n2 + 1) cK 103 ∧ Bx wr w.heap.size cs 89 ∧ Bx wr (w.heap.size + 1) y 89 ∧ Below w.heap.size w wr) (fun i _ _ _ _ _ _ _ _ _ => 64 - (intOf i).toNat)
  case atStart => exact ⟨0, by omega, rfl, rfl, rfl, rfl, rfl, rfl, rfl, rfl, rfl, xWq, xKq, xsq, xrq, hBq⟩
  case round =>
    clear xWq xKq xsq xrq hBq
    obtain ⟨k, hk, rfl, rfl, rfl, rfl, rfl, rfl, rfl, rfl, rfl, xW, xK, xs, xr, hB⟩ := hrel
    by_cases hlt : k < 64
    · have hlt' : (k : Int) < 64 := by omega
      go_wp2_with fail
      have hstep : rndsS W (k + 1) (S8.of st) = rndS (rndsS W k (S8.of st)) (shaK.getD k 0) (W.getD k 0) := rfl
      have gW : wr.cell? ⟨n2, k, none⟩ = some (.int .u32 (wv (W.getD k 0))) := by rw [xW.cell, ← HcW.out, u32s_get (by rw [HWl.out]; exact hlt)]
      have gK : wr.cell? ⟨n2 + 1, k, none⟩ = some (.int .u32 (wv (shaK.getD k 0))) := by rw [xK.cell, ← HcK.out, u32s_get (by rw [shaK_len]; exact hlt)]
      generalize W.getD k 0 = ww at *
      generalize shaK.getD k 0 = kk at *
      have Hstep := Lib.hid hstep
      clear hstep
      generalize rndsS W k (S8.of st) = s at *
      have lW := xW.lt
      have lK := xK.lt
      have h6 : ∀ V, Calls Try.prog 82 #[.int .u32 (wv s.e), .int .i64 6] V fun e w' => e = .returned (.int .u32 (wv (rotR s.e 6))) ∧ V = w' := fun V => sha_rot s.e 6 6 6 rfl rfl (by decide) (by decide) V
      have h11 : ∀ V, Calls Try.prog 82 #[.int .u32 (wv s.e), .int .i64 11] V fun e w' => e = .returned (.int .u32 (wv (rotR s.e 11))) ∧ V = w' := fun V => sha_rot s.e 11 11 11 rfl rfl (by decide) (by decide) V
      have h25 : ∀ V, Calls Try.prog 82 #[.int .u32 (wv s.e), .int .i64 25] V fun e w' => e = .returned (.int .u32 (wv (rotR s.e 25))) ∧ V = w' := fun V => sha_rot s.e 25 25 25 rfl rfl (by decide) (by decide) V
      have h2 : ∀ V, Calls Try.prog 82 #[.int .u32 (wv s.a), .int .i64 2] V fun e w' => e = .returned (.int .u32 (wv (rotR s.a 2))) ∧ V = w' := fun V => sha_rot s.a 2 2 2 rfl rfl (by decide) (by decide) V
      have h13 : ∀ V, Calls Try.prog 82 #[.int .u32 (wv s.a), .int .i64 13] V fun e w' => e = .returned (.int .u32 (wv (rotR s.a 13))) ∧ V = w' := fun V => sha_rot s.a 13 13 13 rfl rfl (by decide) (by decide) V
      have h22 : ∀ V, Calls Try.prog 82 #[.int .u32 (wv s.a), .int .i64 22] V fun e w' => e = .returned (.int .u32 (wv (rotR s.a 22))) ∧ V = w' := fun V => sha_rot s.a 22 22 22 rfl rfl (by decide) (by decide) V
      have H6 := Lib.hid h6
      have H11 := Lib.hid h11
      have H25 := Lib.hid h25
      have H2 := Lib.hid h2
      have H13 := Lib.hid h13
      have H22 := Lib.hid h22
      clear h6 h11 h25 h2 h13 h22
      have hxor := wv_xor
      have hand := wv_and
      have hnot := wv_not
      have hadd := wv_add'
      have cQ := Lat.cells wr
      refine wp_region_lat (by kernel_rfl) (by kernel_rfl) ?_
      repeat (any_goals (first | go_big_quiet_skip | (go_big_quiet_want; go_big_quiet_op; first | go_big_quiet_on | go_big_quiet_call ((first | (with_reducible exact Calls.lat_same (H6.out _)) | (with_reducible exact Calls.lat_same (H11.out _)) | (with_reducible exact Calls.lat_same (H25.out _))))) | quiet_step ((first | (with_reducible exact Calls.lat_same (H6.out _)) | (with_reducible exact Calls.lat_same (H11.out _)) | (with_reducible exact Calls.lat_same (H25.out _))))))
      refine wpQuiet_nil ?_
      rintro W9 ⟨⟨_, hb9⟩, rfl⟩
      go_wp2_with (first
        | ((with_reducible refine (H2.out _).mono ?_); rintro e w' ⟨rfl, rfl⟩)
        | ((with_reducible refine (H13.out _).mono ?_); rintro e w' ⟨rfl, rfl⟩)
        | ((with_reducible refine (H22.out _).mono ?_); rintro e w' ⟨rfl, rfl⟩))
      have xW := xW.belowAll hb9
      have xK := xK.belowAll hb9
      have xs := xs.belowAll hb9
      have xr := xr.belowAll hb9
      have hB := Below.then hB hb9 hB.size
      rw [t1_raw s kk ww, wv_add', wv_add']
      clear H6 H11 H25 H2 H13 H22 cQ gW gK
      go_roundw
      case rel =>
        refine ⟨k + 1, by omega, by go_num, ?_, ?_, ?_, ?_, ?_, ?_, ?_, ?_, xW, xK, xs, xr, hB⟩ <;> rw [Hstep.out] <;> rfl
      case measure => simp [intOf]; omega
    · obtain rfl : k = 64 := by omega
      have hlt' : ¬ ((64 : Nat) : Int) < 64 := by omega
      obtain ⟨s, hs⟩ : ∃ s, rndsS W 64 (S8.of st) = s := ⟨_, rfl⟩
      rw [hs]
      have Hs := Lib.hid hs
      clear hs xW xK
      obtain ⟨cv, hcv⟩ : ∃ c, (u32s s.list).toArray = c := ⟨_, rfl⟩
      have R := Lib.hid (run_buildS s)
      rw [hcv] at R
      have Hcv := Lib.hid hcv
      clear hcv
      go_wp2_with (refine wpList_build_run rfl 89 _ rfl (partsOf s.list) (by kernel_rfl) cv R.out ?_)
      go_loopw [111] (fun i wr => ∃ k : Nat, k ≤ 8 ∧ i = .int .i64 k ∧ Bx wr w.heap.size (u32s (addP st s.list k)).toArray 89 ∧ Bx wr (w.heap.size + 1) y 89 ∧ Below w.heap.size w wr) (fun i _ => 8 - (intOf i).toNat)
      case atStart => exact ⟨0, by omega, rfl, by rw [addP_zero, Hcs.out]; exact xs, xr, hB⟩
      case round =>
        clear xs xr hB
        obtain ⟨k, hk, rfl, xs, xr, hB⟩ := hrel
        by_cases hlt : k < 8
        · have hlt' : (k : Int) < 8 := by omega
          have hst := Hst.out
          have gv : cv[k]? = some (.int .u32 (wv (s.list.getD k 0))) := by rw [← Hcv.out, u32s_get (by rw [S8.len]; exact hlt)]
          have gs : wr.cell? ⟨w.heap.size, k, none⟩ = some (.int .u32 (wv (st.getD k 0))) := by rw [xs.cell, u32s_get (by rw [addP_len hst (S8.len s) (by omega)]; exact hlt), addP_get hst (S8.len s) hlt]
          have hset := addP_set hst (S8.len s) hlt
          generalize st.getD k 0 = p at *
          generalize s.list.getD k 0 = q at *
          have Hset := Lib.hid hset
          clear hset hst
          have fs := xs.free k
          have ls := xs.lt
          have hadd := wv_add'
          have gi := Lib.hid gv
          clear gv
          go_wp2_with (refine wpList_index_cell rfl 89 (.tmp 110) (.tmp 111) rfl cv rfl k rfl 8 86 Try.underlying89 .u32 Try.underlying86 rfl hlt _ gi.out ?_)
          go_roundw
          case rel =>
            refine ⟨k + 1, by omega, by go_num, ?_, xr.setO (a := ⟨w.heap.size, k, none⟩) (by simp) _, below_set1 hB (Nat.le_refl _)⟩
            have := xs.set k (.int .u32 (wv (p + q)))
            rw [u32s_set, Hset.out] at this
            exact this
          case measure => simp [intOf]; omega
        · obtain rfl : k = 8 := by omega
          have hlt' : ¬ ((8 : Nat) : Int) < 8 := by omega
          have hall := addP_all Hst.out (S8.len s)
          have hfin : List.zipWith (· + ·) st s.list = compressL st b.data.toList := by unfold compressL; rw [HW.out, Hs.out]
          rw [hall, hfin] at xs
          have hl8 : (compressL st b.data.toList).length = 8 := by rw [← hfin]; simp [Hst.out, S8.len]
          clear hall hfin
          obtain ⟨cx, hcx⟩ : ∃ cx, (u32s (compressL st b.data.toList)).toArray = cx := ⟨_, rfl⟩
          have hsz : cx.size = 8 := by rw [← hcx]; simp [u32s, hl8]
          have h1 : cx.all (·.oneCell') = true := by rw [← hcx]; exact u32s_one _
          rw [hcx] at xs
          have Hcx := Lib.hid hcx
          have H1 := Lib.hid h1
          have Hsz := Lib.hid hsz
          clear h1 hsz hcx hl8
          go_wp2_with (first
            | (refine wpList_load_mid rfl 89 (.tmp 2) rfl w.heap.size 0 rfl cx.toList _ xs.range Try.underlying89 rfl (by rw [sizeH]; simp [Hsz.out]) ?_)
            | (refine wpList_store_mid rfl 89 (.tmp 4) (.tmp 122) rfl (w.heap.size + 1) 0 cx rfl rfl (there_bx xr (by rw [Hsz.out, Ys.out]; exact Nat.le_refl _)) (by rw [sizeH, Hsz.out]) H1.out ?_))
          have xr2 := xr.setAll (cx := cx) (by rw [Hsz.out, Ys.out])
          refine bodyPost_ret (v := .agg cx) (results_cell_row (d := .array 8 86) Try.results71 _ _ (w.heap.size + 1) _ _ _ rfl xr2 Try.underlying89 rfl (by rw [sizeH, Hsz.out])) rfl ?_
          rw [Hcx.out]
          exact ⟨rfl, below_setCells (by omega) _ _ _ hB⟩
end Go.Proofs.Ytfligkncdlocaaa
