/- The reference's padded message. One block: the reference's step. quiltref02.Sum: the digest of a message. -/
import Derived.Test.YtebgopdmeghmhaaGreatShB
import Derived.Test.YtebgopdmeghmhaaGreatShA
namespace Go.Proofs.YtebgopdmeghmhaaGreat
open Go.RowKit

/-- a string of bytes, kept closed -/
def sB (l : List UInt8) : ByteArray := ⟨l.toArray⟩
theorem sB_app (a b : List UInt8) : sB a ++ sB b = sB (a ++ b) := by
  apply ByteArray.ext
  apply Array.toList_inj.1
  simp [sB]
theorem sB_size (l : List UInt8) : (sB l).size = l.length := by
  show l.toArray.size = _
  simp
theorem sB_list (l : List UInt8) : (sB l).data.toList = l := by simp [sB]
theorem sB_of (s : ByteArray) : sB s.data.toList = s := rfl
theorem sB_app0 (l : List UInt8) (x : UInt8) : sB l ++ ⟨#[x]⟩ = sB (l ++ [x]) := sB_app l [x]

set_option maxHeartbeats 1200000 in
theorem ref02_zeros (n : Nat) (hn : n ≤ 64) (w : World) :
    Calls Tryz.prog 107 #[.int .i64 n] w fun e w' => e = .returned (.string (sB (List.replicate n 0))) ∧ w = w' := by
  go_enter Tryz.func107, Tryz.ntmps107
  go_wp2
  go_loopw [3, 4] (fun s i wr => ∃ k : Nat, k ≤ n ∧ i = .int .i64 k ∧ s = .string (sB (List.replicate k 0)) ∧ wr = w) (fun _ i _ => n - (intOf i).toNat)
  case atStart => exact ⟨0, by omega, rfl, rfl, rfl⟩
  case round =>
    obtain ⟨k, hk, rfl, rfl, rfl⟩ := hrel
    by_cases hlt : k < n
    · have hlt' : (k : Int) < (n : Int) := by omega
      have hz := sB_size (List.replicate k 0)
      rw [List.length_replicate] at hz
      have ha := sB_app0 (List.replicate k 0) 0
      have hm : (sB (List.replicate k 0)).size + 1 ≤ maxLen := by rw [hz]; unfold maxLen; omega
      go_wp2
      go_roundw
      case rel => exact ⟨k + 1, by omega, by go_num, by rw [List.replicate_succ'], trivial⟩
      case measure => simp [intOf]; omega
    · obtain rfl : k = n := by omega
      have hlt' : ¬ (k : Int) < (k : Int) := by omega
      go_wp2
      go_ret
      exact ⟨rfl, rfl⟩
theorem lenB_val7 (n i : Nat) (h : i < 8) : (n : Int) * 8 / 2 ^ (8 * i) % 256 = ((lenB n (7 - i)).toNat : Int) := by
  have e : (lenB n (7 - i)).toNat = 8 * n / 2 ^ (8 * i) % 256 := by unfold lenB; rw [show 56 - 8 * (7 - i) = 8 * i by omega]; simp
  rw [e, pow_cast, Int.mul_comm]
  generalize 2 ^ (8 * i) = q
  rw [show (8 : Int) * (n : Int) = ((8 * n : Nat) : Int) by simp, ← Int.natCast_ediv, show (256 : Int) = ((256 : Nat) : Int) from rfl, ← Int.natCast_emod]
set_option maxHeartbeats 1200000 in
theorem ref02_padded (s : ByteArray) (hs : s.size ≤ 1000000000) (w : World) :
    Calls Tryz.prog 95 #[.string s] w fun e w' => e = .returned (.string (sB (padL s.data.toList))) ∧ Below w.heap.size w w' := by
  have hl : s.data.toList.length = s.size := by simp
  have e0 : s ++ ⟨#[128]⟩ = sB (s.data.toList ++ [128]) := sB_app0 _ _
  have e1 := sB_size (s.data.toList ++ [128])
  rw [List.length_append, hl, List.length_singleton] at e1
  have hm : s.size + 1 ≤ maxLen := by unfold maxLen; omega
  have hzn : (120 - ((s.size : Int) + 1) % 64) % 64 = ((zN s.size : Nat) : Int) := by unfold zN; omega
  have ez := sB_app (s.data.toList ++ [128]) (List.replicate (zN s.size) 0)
  have e2 := sB_size (List.replicate (zN s.size) 0)
  rw [List.length_replicate] at e2
  have hzl := zN_lt s.size
  have hm2 : s.size + 1 + zN s.size ≤ maxLen := by unfold maxLen; omega
  have hp : padL s.data.toList = s.data.toList ++ [128] ++ List.replicate (zN s.size) 0 ++ be8 s.size := by simp only [padL, hl]
  have Hp := Lib.hid hp
  have hLl : (s.data.toList ++ [128] ++ List.replicate (zN s.size) 0).length = s.size + 1 + zN s.size := by simp; omega
  generalize s.data.toList ++ [128] ++ List.replicate (zN s.size) 0 = L at *
  have hz : ∀ V, Calls Tryz.prog 107 #[.int .i64 ((zN s.size : Nat) : Int)] V fun e w' => e = .returned (.string (sB (List.replicate (zN s.size) 0))) ∧ V = w' := fun V => ref02_zeros (zN s.size) (by omega) V
  generalize sB (s.data.toList ++ [128]) = s1 at *
  generalize sB (List.replicate (zN s.size) 0) = s2 at *
  have Hz := Lib.hid hz
  clear hz hp
  go_enter Tryz.func95, Tryz.ntmps95
  go_wp2_with ((with_reducible refine (Hz.out _).mono ?_); rintro e w' ⟨rfl, rfl⟩)
  clear e0 e1 ez e2 hzn hm hm2 Hz
  go_loopw [3, 5] (fun s' i wr => ∃ j : Nat, j ≤ 8 ∧ i = .int .i64 (7 - (j : Int)) ∧ s' = .string (sB (L ++ (be8 s.size).take j)) ∧ Below w.heap.size w wr) (fun _ i _ => (intOf i + 1).toNat)
  case atStart => exact ⟨0, by omega, rfl, by rw [List.take_zero, List.append_nil], Below.refl _ _⟩
  case round =>
    obtain ⟨j, hj, rfl, rfl, hB⟩ := hrel
    by_cases hlt : j < 8
    · have hi : (7 : Int) - (j : Int) = ((7 - j : Nat) : Int) := by omega
      rw [hi]
      have hi8 : 7 - j < 8 := by omega
      have hlv := lenB_val7 s.size (7 - j) hi8
      rw [show 7 - (7 - j) = j by omega] at hlv
      have i0 : (0 : Int) ≤ ((7 - j : Nat) : Int) := by omega
      have Hi := Lib.hid hi
      have hz1 := sB_size (L ++ (be8 s.size).take j)
      rw [List.length_append, List.length_take, be8_len, hLl, Nat.min_eq_left (by omega)] at hz1
      have hzz : ¬ 9223372036854775807 < (sB (L ++ (be8 s.size).take j)).size + 1 := by rw [hz1]; omega
      have Hst := Lib.hid (by rw [be8_take_succ _ _ hlt, ← List.append_assoc] : L ++ (be8 s.size).take (j + 1) = L ++ (be8 s.size).take j ++ [lenB s.size j])
      generalize L ++ (be8 s.size).take j = M at *
      generalize 7 - j = i at *
      have t0 : (8 * (i : Int)).toNat = 8 * i := by omega
      have i1 : (8 * (i : Int)) < 64 := by omega
      clear hz1 hi
      have ha := sB_app0 M (lenB s.size j)
      have hrow : RowAt (· = wr.heap.size) (wr.alloc (.cells #[.int .u8 ((lenB s.size j).toNat : Int)] 5)) (some ⟨wr.heap.size, 0, none⟩) (bytesV [lenB s.size j]) := RowAt.bx (Bx.new wr #[.int .u8 ((lenB s.size j).toNat : Int)] 5)
      have Hrow := Lib.hid hrow
      clear hrow
      go_wp2_with (refine wpList_str rfl (.tmp 31) 79 9 5 rfl Tryz.underlying79 Tryz.underlying5 Tryz.underlying9 (some ⟨wr.heap.size, 0, none⟩) 1 1 [lenB s.size j] rfl rfl Hrow.out ?_)
      go_roundw
      case rel => exact ⟨j + 1, by omega, by have := Hi.out; go_num, by rw [Hst.out], hB.alloc hB.size _⟩
      case measure => have := Hi.out; simp [intOf]
    · obtain rfl : j = 8 := by omega
      rw [List.take_of_length_le (by simp [be8_len]), ← Hp.out]
      go_wp2
      go_ret
      exact ⟨rfl, hB⟩
end Go.Proofs.YtebgopdmeghmhaaGreat
namespace Go.Proofs.YtebgopdmeghmhaaGreat
open Go.RowKit

theorem S8.of_list (l : List UInt32) (h : l.length = 8) : (S8.of l).list = l := by
  match l, h with
  | [a, b, c, d, e, f, g, i], _ => rfl
theorem cells8 {W : World} {n : Nat} {s : S8} {t : TypeId} (x : Bx W n (u32s s.list).toArray t) :
    W.cell? ⟨n, 0, none⟩ = some (.int .u32 (wv s.a)) ∧ W.cell? ⟨n, 1, none⟩ = some (.int .u32 (wv s.b)) ∧ W.cell? ⟨n, 2, none⟩ = some (.int .u32 (wv s.c)) ∧ W.cell? ⟨n, 3, none⟩ = some (.int .u32 (wv s.d)) ∧
    W.cell? ⟨n, 4, none⟩ = some (.int .u32 (wv s.e)) ∧ W.cell? ⟨n, 5, none⟩ = some (.int .u32 (wv s.f)) ∧ W.cell? ⟨n, 6, none⟩ = some (.int .u32 (wv s.g)) ∧ W.cell? ⟨n, 7, none⟩ = some (.int .u32 (wv s.h)) := by
  refine ⟨?_, ?_, ?_, ?_, ?_, ?_, ?_, ?_⟩ <;> rw [x.cell] <;> rfl
set_option maxRecDepth 100000 in
set_option maxHeartbeats 1200000 in
theorem ref02_step (st : List UInt32) (hst : st.length = 8) (b : ByteArray) (hb : b.size = 64) (w : World) :
    Calls Tryz.prog 96 #[.agg (u32s st).toArray, .string b] w fun e w' => e = .returned (.agg (u32s (compressL st b.data.toList)).toArray) ∧ Below w.heap.size w w' := by
  obtain ⟨cs, hcs⟩ : ∃ cs, (u32s st).toArray = cs := ⟨_, rfl⟩
  obtain ⟨z, hz⟩ : ∃ z : Array Value, Array.replicate 64 (Value.int .u32 0) = z := ⟨_, rfl⟩
  have hz0 := zeroW
  rw [hz] at hz0
  have hzs : z.size = 64 := by rw [← hz]; simp
  obtain ⟨y, hy⟩ : ∃ y : Array Value, Array.replicate 8 (Value.int .u32 0) = y := ⟨_, rfl⟩
  have hy0 := zeroH
  rw [hy] at hy0
  have hys : y.size = 8 := by rw [← hy]; simp
  obtain ⟨W, hW⟩ : ∃ W, schedK b.data.toList 64 = W := ⟨_, rfl⟩
  have hWl : W.length = 64 := by rw [← hW]; exact schedK_len _ _
  have hsch : ∀ w, Calls Tryz.prog 108 #[.string b] w fun e w' => e = .returned (.agg (u32s W).toArray) ∧ Below w.heap.size w w' := fun w => hW ▸ ref02_schedule b hb w
  obtain ⟨cW, hcW⟩ : ∃ c, (u32s W).toArray = c := ⟨_, rfl⟩
  obtain ⟨cK, hcK⟩ : ∃ c, (u32s shaK).toArray = c := ⟨_, rfl⟩
  have hcon := ref02_constants
  rw [hcK] at hcon
  rw [hcW] at hsch
  have hWs : cW.size = 64 := by rw [← hcW]; simp [u32s, hWl]
  have hKs : cK.size = 64 := by rw [← hcK]; rfl
  have hW1 : cW.all (·.oneCell') = true := by rw [← hcW]; exact u32s_one _
  have hK1 : cK.all (·.oneCell') = true := by rw [← hcK]; exact u32s_one _
  rw [hcs]
  have Z0 := Lib.hid hz0
  have Zs := Lib.hid hzs
  have Y0 := Lib.hid hy0
  have Ys := Lib.hid hys
  have HW := Lib.hid hW
  have HWl := Lib.hid hWl
  have Hsch := Lib.hid hsch
  have Hcon := Lib.hid hcon
  have HcW := Lib.hid hcW
  have HcK := Lib.hid hcK
  have HWs := Lib.hid hWs
  have HKs := Lib.hid hKs
  have HW1 := Lib.hid hW1
  have HK1 := Lib.hid hK1
  have Hcs := Lib.hid hcs
  have Hst := Lib.hid hst
  clear hz hz0 hzs hy hy0 hys hW hWl hsch hcW hcK hcon hWs hKs hW1 hK1 hcs hst hb
  have hcl : cs.size = 8 := by rw [← Hcs.out]; simp [u32s, Hst.out]
  have Hcl := Lib.hid hcl
  have hc1 : cs.all (·.oneCell') = true := by rw [← Hcs.out]; exact u32s_one _
  have Hc1 := Lib.hid hc1
  clear hcl hc1
  go_enter Tryz.func96, Tryz.ntmps96
  go_wp2_with (refine wpList_alloc_row rfl 114 rfl y Y0.out ?_)
  refine (Hsch.out _).mono ?_
  rintro e w1 ⟨rfl, hb1⟩
  have xs := (Bx.new w cs 114 |>.alloc (.cells y 114)).belowAll hb1
  have xr := (Bx.new (w.alloc (.cells cs 114)) y 114).belowAll hb1
  have hB1 := Below.then ((Below.one w (.cells cs 114)).alloc (by simp) (.cells y 114)) hb1 (by simp; omega)
  simp only [World.size_alloc] at xr
  go_wp2_with fail
  refine (Hcon.out _).mono ?_
  rintro e w2 ⟨rfl, hb2⟩
  have xs := xs.belowAll hb2
  have xr := xr.belowAll hb2
  have hB2 := Below.then hB1 hb2 hB1.size
  have xW := (Bx.new w2 z 129).alloc (.cells z 129)
  have xK := Bx.new (w2.alloc (.cells z 129)) z 129
  have hz1 : w.heap.size + 1 < w2.heap.size := xr.lt
  go_wp2_with (first
    | (refine wpList_alloc_row rfl 129 rfl z Z0.out ?_)
    | (refine wpList_store_mid rfl 129 (.tmp 5) (.tmp 15) rfl w2.heap.size 0 cW rfl rfl (there_bx xW (by rw [HWs.out, Zs.out]; exact Nat.le_refl _)) (by rw [sizeW, HWs.out]) HW1.out ?_)
    | (refine wpList_store_mid rfl 129 (.tmp 6) (.tmp 16) rfl (w2.alloc (.cells z 129)).heap.size 0 cK rfl rfl (there_bx (xK.setCellsO (b' := w2.heap.size) (by simp) cW.toList 0) (by rw [HKs.out, Zs.out]; exact Nat.le_refl _)) (by rw [sizeW, HKs.out]) HK1.out ?_
       have xW2 := (xW.setAll (cx := cW) (by rw [HWs.out, Zs.out])).setCellsO (b' := (w2.alloc (.cells z 129)).heap.size) (by simp) cK.toList 0
       have xK2 := (xK.setCellsO (b' := w2.heap.size) (by simp) cW.toList 0).setAll (cx := cK) (by rw [HKs.out, Zs.out])
       have xs2 := (((xs.alloc (.cells z 129)).alloc (.cells z 129)).setCellsO (b' := w2.heap.size) (by omega) cW.toList 0).setCellsO (b' := (w2.alloc (.cells z 129)).heap.size) (by simp; omega) cK.toList 0
       have xr2 := (((xr.alloc (.cells z 129)).alloc (.cells z 129)).setCellsO (b' := w2.heap.size) (by omega) cW.toList 0).setCellsO (b' := (w2.alloc (.cells z 129)).heap.size) (by simp; omega) cK.toList 0
       have hB3 := below_setCells (b := (w2.alloc (.cells z 129)).heap.size) (by simp; omega) cK.toList 0 _ (below_setCells (b := w2.heap.size) (by omega) cW.toList 0 _ ((hB2.alloc (by omega) (.cells z 129)).alloc (by simp; omega) (.cells z 129)))
       simp only [Act.put, List.setIfInBounds_toArray, List.set_cons_zero, List.set_cons_succ]
       generalize (((w2.alloc (.cells z 129)).alloc (.cells z 129)).setCells w2.heap.size 0 cW.toList).setCells (w2.alloc (.cells z 129)).heap.size 0 cK.toList = w3 at *
       simp only [World.size_alloc] at xK2 ⊢
       clear hB2 hb2 xW xK xs xr)
    | (refine wpList_load_mid rfl 114 (.tmp 2) rfl w.heap.size 0 rfl cs.toList _ xs2.range Tryz.underlying114 rfl (by rw [sizeH]; simp [Hcl.out]) ?_)
    | (refine wpList_alloc_row rfl 114 rfl y Y0.out ?_)
    | (refine wpList_store_mid rfl 114 (.tmp 7) (.tmp 17) rfl w3.heap.size 0 cs rfl rfl (there_bx (Bx.new w3 y 114) (by rw [Hcl.out, Ys.out]; exact Nat.le_refl _)) (by rw [sizeH, Hcl.out]) Hc1.out ?_))
  generalize w2.heap.size = n2 at *
  have hn3 : n2 + 1 < w3.heap.size := xK2.lt
  have xv := (Bx.new w3 y 114).setAll (cx := cs) (by rw [Hcl.out, Ys.out])
  have xW := (xW2.alloc (.cells y 114)).setCellsO (b' := w3.heap.size) (by omega) cs.toList 0
  have xK := (xK2.alloc (.cells y 114)).setCellsO (b' := w3.heap.size) (by omega) cs.toList 0
  have xs := (xs2.alloc (.cells y 114)).setCellsO (b' := w3.heap.size) (by omega) cs.toList 0
  have xr := (xr2.alloc (.cells y 114)).setCellsO (b' := w3.heap.size) (by omega) cs.toList 0
  have hB := below_setCells (b := w3.heap.size) (by omega) cs.toList 0 _ (hB3.alloc hB3.size (.cells y 114))
  generalize (w3.alloc (.cells y 114)).setCells w3.heap.size 0 cs.toList = w4 at *
  generalize w3.heap.size = n3 at *
  clear xW2 xK2 xs2 xr2 hB3 w3
  go_loopw [8] (fun i wr => ∃ k : Nat, k ≤ 64 ∧ i = .int .i64 k ∧ Bx wr n3 (u32s (rndsS W k (S8.of st)).list).toArray 114 ∧
    Bx wr n2 cW 129 ∧ Bx wr (n2 + 1) cK 129 ∧ Bx wr w.heap.size cs 114 ∧ Bx wr (w.heap.size + 1) y 114 ∧ Below w.heap.size w wr) (fun i _ => 64 - (intOf i).toNat)
  case atStart => exact ⟨0, by omega, rfl, by rw [show rndsS W 0 (S8.of st) = S8.of st from rfl, S8.of_list _ Hst.out, Hcs.out]; exact xv, xW, xK, xs, xr, hB⟩
  case round =>
    clear xv xW xK xs xr hB
    obtain ⟨k, hk, rfl, xv, xW, xK, xs, xr, hB⟩ := hrel
    by_cases hlt : k < 64
    · have hlt' : (k : Int) < 64 := by omega
      have hstep : rndsS W (k + 1) (S8.of st) = rndS (rndsS W k (S8.of st)) (shaK.getD k 0) (W.getD k 0) := rfl
      have eW : cW[k]? = some (.int .u32 (wv (W.getD k 0))) := by rw [← HcW.out, u32s_get (by rw [HWl.out]; exact hlt)]
      have eK : cK[k]? = some (.int .u32 (wv (shaK.getD k 0))) := by rw [← HcK.out, u32s_get (by rw [shaK_len]; exact hlt)]
      generalize W.getD k 0 = ww at *
      generalize shaK.getD k 0 = kk at *
      have Hstep := Lib.hid hstep
      have EW := Lib.hid eW
      have EK := Lib.hid eK
      clear hstep eW eK
      generalize rndsS W k (S8.of st) = s at *
      have hxor := wv_xor
      have hand := wv_and
      have hnot := wv_not'
      have hadd := wv_add'
      obtain ⟨g0, g1, g2, g3, g4, g5, g6, g7⟩ := cells8 xv
      have lv := xv.lt
      have cQ := Lat.cells wr
      go_wp2_with fail
      refine wp_region_lat (by kernel_rfl) (by kernel_rfl) ?_
      repeat (any_goals (first | go_big_quiet_skip | (go_big_quiet_want; go_big_quiet_op; first | go_big_quiet_on | go_big_quiet_call ((fail))) | quiet_step ((fail))))
      refine wpQuiet_nil ?_
      rintro W6 ⟨⟨_, hb6⟩, rfl⟩
      have xv := xv.belowAll hb6
      have xW := xW.belowAll hb6
      have xK := xK.belowAll hb6
      have xs := xs.belowAll hb6
      have xr := xr.belowAll hb6
      have hB := Below.then hB hb6 hB.size
      clear hb6
      clear g0 g1 g2 g3 g4 g5 g6 g7 lv cQ
      obtain ⟨g0, g1, g2, g3, g4, g5, g6, g7⟩ := cells8 xv
      have lv := xv.lt
      have h6 : ∀ V, Calls Tryz.prog 110 #[.int .u32 (wv s.e), .int .u64 6] V fun e w' => e = .returned (.int .u32 (wv (rotR s.e 6))) ∧ V = w' := fun V => ref02_rot s.e 6 6 6 rfl rfl (by decide) (by decide) V
      have H6 := Lib.hid h6
      clear h6
      have h11 : ∀ V, Calls Tryz.prog 110 #[.int .u32 (wv s.e), .int .u64 11] V fun e w' => e = .returned (.int .u32 (wv (rotR s.e 11))) ∧ V = w' := fun V => ref02_rot s.e 11 11 11 rfl rfl (by decide) (by decide) V
      have H11 := Lib.hid h11
      clear h11
      have h25 : ∀ V, Calls Tryz.prog 110 #[.int .u32 (wv s.e), .int .u64 25] V fun e w' => e = .returned (.int .u32 (wv (rotR s.e 25))) ∧ V = w' := fun V => ref02_rot s.e 25 25 25 rfl rfl (by decide) (by decide) V
      have H25 := Lib.hid h25
      clear h25
      have gW : W6.cell? ⟨n2, k, none⟩ = some (.int .u32 (wv ww)) := by rw [xW.cell]; exact EW.out
      have gK : W6.cell? ⟨n2 + 1, k, none⟩ = some (.int .u32 (wv kk)) := by rw [xK.cell]; exact EK.out
      have lW := xW.lt
      have lK := xK.lt
      have cQ := Lat.cells W6
      go_wp2_with fail
      refine wp_region_lat (by kernel_rfl) (by kernel_rfl) ?_
      repeat (any_goals (first | go_big_quiet_skip | (go_big_quiet_want; go_big_quiet_op; first | go_big_quiet_on | go_big_quiet_call ((first | (with_reducible exact Calls.lat_same (H6.out _)) | (with_reducible exact Calls.lat_same (H11.out _)) | (with_reducible exact Calls.lat_same (H25.out _))))) | quiet_step ((first | (with_reducible exact Calls.lat_same (H6.out _)) | (with_reducible exact Calls.lat_same (H11.out _)) | (with_reducible exact Calls.lat_same (H25.out _))))))
      refine wpQuiet_nil ?_
      rintro W7 ⟨⟨_, hb7⟩, rfl⟩
      have xv := xv.belowAll hb7
      have xW := xW.belowAll hb7
      have xK := xK.belowAll hb7
      have xs := xs.belowAll hb7
      have xr := xr.belowAll hb7
      have hB := Below.then hB hb7 hB.size
      clear hb7
      clear g0 g1 g2 g3 g4 g5 g6 g7 lv cQ gW gK lW lK H6 H11 H25
      obtain ⟨g0, g1, g2, g3, g4, g5, g6, g7⟩ := cells8 xv
      have lv := xv.lt
      have h2 : ∀ V, Calls Tryz.prog 110 #[.int .u32 (wv s.a), .int .u64 2] V fun e w' => e = .returned (.int .u32 (wv (rotR s.a 2))) ∧ V = w' := fun V => ref02_rot s.a 2 2 2 rfl rfl (by decide) (by decide) V
      have H2 := Lib.hid h2
      clear h2
      have h13 : ∀ V, Calls Tryz.prog 110 #[.int .u32 (wv s.a), .int .u64 13] V fun e w' => e = .returned (.int .u32 (wv (rotR s.a 13))) ∧ V = w' := fun V => ref02_rot s.a 13 13 13 rfl rfl (by decide) (by decide) V
      have H13 := Lib.hid h13
      clear h13
      have h22 : ∀ V, Calls Tryz.prog 110 #[.int .u32 (wv s.a), .int .u64 22] V fun e w' => e = .returned (.int .u32 (wv (rotR s.a 22))) ∧ V = w' := fun V => ref02_rot s.a 22 22 22 rfl rfl (by decide) (by decide) V
      have H22 := Lib.hid h22
      clear h22
      have cQ := Lat.cells W7
      go_wp2_with fail
      refine wp_region_lat (by kernel_rfl) (by kernel_rfl) ?_
      repeat (any_goals (first | go_big_quiet_skip | (go_big_quiet_want; go_big_quiet_op; first | go_big_quiet_on | go_big_quiet_call ((first | (with_reducible exact Calls.lat_same (H2.out _)) | (with_reducible exact Calls.lat_same (H13.out _)) | (with_reducible exact Calls.lat_same (H22.out _))))) | quiet_step ((first | (with_reducible exact Calls.lat_same (H2.out _)) | (with_reducible exact Calls.lat_same (H13.out _)) | (with_reducible exact Calls.lat_same (H22.out _))))))
      refine wpQuiet_nil ?_
      rintro W8 ⟨⟨_, hb8⟩, rfl⟩
      have xv := xv.belowAll hb8
      have xW := xW.belowAll hb8
      have xK := xK.belowAll hb8
      have xs := xs.belowAll hb8
      have xr := xr.belowAll hb8
      have hB := Below.then hB hb8 hB.size
      clear hb8 g0 g1 g2 g3 g4 g5 g6 g7 lv cQ H2 H13 H22
      obtain ⟨g0, g1, g2, g3, g4, g5, g6, g7⟩ := cells8 xv
      have lv := xv.lt
      obtain ⟨cv, hcv⟩ : ∃ c, (u32s (rndS s kk ww).list).toArray = c := ⟨_, rfl⟩
      have R := Lib.hid (run_buildS (rndS s kk ww))
      rw [hcv] at R
      have Hcv := Lib.hid hcv
      have hvl : cv.size = 8 := by rw [← hcv]; rfl
      have hv1 : cv.all (·.oneCell') = true := by rw [← hcv]; exact u32s_one _
      have hol : ((u32s s.list).toArray).size = 8 := rfl
      have Hvl := Lib.hid hvl
      have Hv1 := Lib.hid hv1
      have Hol := Lib.hid hol
      clear hcv hvl hv1 hol
      go_wp2_with (first
        | (refine wpList_build_run rfl 114 _ rfl (partsOf (rndS s kk ww).list) (by kernel_rfl) cv R.out ?_)
        | (refine wpList_store_mid rfl 114 (.tmp 7) (.tmp 99) rfl n3 0 cv rfl rfl (there_bx xv (by rw [Hvl.out, Hol.out]; exact Nat.le_refl _)) (by rw [sizeH, Hvl.out]) Hv1.out ?_))
      have xv2 := xv.setAll (cx := cv) (by rw [Hvl.out, Hol.out])
      go_roundw
      case rel =>
        refine ⟨k + 1, by omega, by go_num, ?_, xW.setCellsO (b' := n3) (by omega) cv.toList 0, xK.setCellsO (b' := n3) (by omega) cv.toList 0, xs.setCellsO (b' := n3) (by omega) cv.toList 0, xr.setCellsO (b' := n3) (by omega) cv.toList 0, below_setCells (b := n3) (by omega) cv.toList 0 _ hB⟩
        rw [Hstep.out, Hcv.out]; exact xv2
      case measure => simp [intOf]; omega
    · obtain rfl : k = 64 := by omega
      have hlt' : ¬ ((64 : Nat) : Int) < 64 := by omega
      obtain ⟨s, hs⟩ : ∃ s, rndsS W 64 (S8.of st) = s := ⟨_, rfl⟩
      rw [hs] at xv
      have Hs := Lib.hid hs
      clear hs xW xK
      go_wp2_with fail
      go_loopw [13] (fun i wr => ∃ k : Nat, k ≤ 8 ∧ i = .int .i64 k ∧ Bx wr n3 (u32s s.list).toArray 114 ∧ Bx wr w.heap.size (u32s (addP st s.list k)).toArray 114 ∧ Bx wr (w.heap.size + 1) y 114 ∧ Below w.heap.size w wr) (fun i _ => 8 - (intOf i).toNat)
      case atStart => exact ⟨0, by omega, rfl, xv, by rw [addP_zero, Hcs.out]; exact xs, xr, hB⟩
      case round =>
        clear xv xs xr hB
        obtain ⟨k, hk, rfl, xv, xs, xr, hB⟩ := hrel
        by_cases hlt : k < 8
        · have hlt' : (k : Int) < 8 := by omega
          have hst := Hst.out
          have gv : wr.cell? ⟨n3, k, none⟩ = some (.int .u32 (wv (s.list.getD k 0))) := by rw [xv.cell, u32s_get (by rw [S8.len]; exact hlt)]
          have gs : wr.cell? ⟨w.heap.size, k, none⟩ = some (.int .u32 (wv (st.getD k 0))) := by rw [xs.cell, u32s_get (by rw [addP_len hst (S8.len s) (by omega)]; exact hlt), addP_get hst (S8.len s) hlt]
          have hset := addP_set hst (S8.len s) hlt
          generalize st.getD k 0 = p at *
          generalize s.list.getD k 0 = q at *
          have Hset := Lib.hid hset
          clear hset hst
          have ls := xs.lt
          have lv := xv.lt
          have hadd := wv_add'
          have cQ := Lat.cells wr
          go_wp2
          refine wp_region_lz 9 1 #[true, true, true, true, true, true, true, true, true, false] (fun _ => none) (by kernel_rfl) (by rfl) (by rfl) (by kernel_rfl) ?_
          simp only [List.take_succ_cons, List.take_zero]
          refine LW.block 9 9 (by rfl) (by kernel_rfl) (by kernel_rfl) ?_
          simp only [List.take_succ_cons, List.take_zero, List.drop_succ_cons, List.drop_zero]
          repeat (first | go_big_quiet_skip | (go_big_quiet_want; go_big_quiet_op; go_big_quiet_on))
          refine wpQuiet_nil ?_
          refine LW.done ?_
          intro W' hG
          have xv2 := xv.belowAll hG.below
          have xs2 := xs.belowAll hG.below
          have xr2 := xr.belowAll hG.below
          have hB2 := Below.then hB hG.below hB.size
          have gs1 : W'.cell? ⟨w.heap.size, k, none⟩ = some (.int .u32 (wv p)) := by rw [hG.below.cell (p := ⟨w.heap.size, k, none⟩) ls]; exact gs
          have fs1 := xs2.free k
          have ls1 := xs2.lt
          clear cQ gs gv ls lv
          refine wpAny_ready (rs := [9]) (by kernel_rfl) (by simp) ?_
          refine AllReady.cons rfl (fun K hK => ?_) AllReady.nil
          go_simp
          refine hK _ _ ?_
          clear hK K
          refine wpAny_done (by kernel_rfl) ?_ _
          go_wp2
          go_roundw
          case rel =>
            refine ⟨k + 1, by omega, by go_num, xv2.setO (a := ⟨w.heap.size, k, none⟩) (by simp; omega) _, ?_, xr2.setO (a := ⟨w.heap.size, k, none⟩) (by simp) _, below_set1 hB2 (Nat.le_refl _)⟩
            have := xs2.set k (.int .u32 (wv (p + q)))
            rw [u32s_set, Hset.out] at this
            exact this
          case measure => simp [intOf]; omega
        · obtain rfl : k = 8 := by omega
          have hlt' : ¬ ((8 : Nat) : Int) < 8 := by omega
          have hall := addP_all Hst.out (S8.len s)
          have hfin : List.zipWith (· + ·) st s.list = compressL st b.data.toList := by unfold compressL; rw [HW.out, Hs.out]
          rw [hall, hfin] at xs
          have hl8 : (compressL st b.data.toList).length = 8 := by rw [← hfin]; simp [Hst.out, S8.len]
          clear hall hfin
          obtain ⟨cx, hcx⟩ : ∃ cx, (u32s (compressL st b.data.toList)).toArray = cx := ⟨_, rfl⟩
          have hsz : cx.size = 8 := by rw [← hcx]; simp [u32s, hl8]
          have h1 : cx.all (·.oneCell') = true := by rw [← hcx]; exact u32s_one _
          rw [hcx] at xs
          have Hcx := Lib.hid hcx
          have H1 := Lib.hid h1
          have Hsz := Lib.hid hsz
          clear h1 hsz hcx hl8
          go_wp2_with (first
            | (refine wpList_load_mid rfl 114 (.tmp 2) rfl w.heap.size 0 rfl cx.toList _ xs.range Tryz.underlying114 rfl (by rw [sizeH]; simp [Hsz.out]) ?_)
            | (refine wpList_store_mid rfl 114 (.tmp 4) (.tmp 113) rfl (w.heap.size + 1) 0 cx rfl rfl (there_bx xr (by rw [Hsz.out, Ys.out]; exact Nat.le_refl _)) (by rw [sizeH, Hsz.out]) H1.out ?_))
          have xr2 := xr.setAll (cx := cx) (by rw [Hsz.out, Ys.out])
          refine bodyPost_ret (v := .agg cx) (results_cell_row (d := .array 8 111) Tryz.results96 _ _ (w.heap.size + 1) _ _ _ rfl xr2 Tryz.underlying114 rfl (by rw [sizeH, Hsz.out])) rfl ?_
          rw [Hcx.out]
          exact ⟨rfl, below_setCells (by omega) _ _ _ hB⟩
end Go.Proofs.YtebgopdmeghmhaaGreat
namespace Go.Proofs.YtebgopdmeghmhaaGreat
open Go.RowKit

theorem blk_ext (l : List UInt8) (q : Nat) : (sB (padL l)).extract (64 * q) (64 * q + 64) = blk l q := by
  apply ByteArray.ext
  apply Array.toList_inj.1
  rw [ByteArray.data_extract, Array.toList_extract]
  unfold blk sB
  simp only [List.extract_eq_take_drop, Nat.add_sub_cancel_left]
set_option maxRecDepth 100000 in
set_option maxHeartbeats 1200000 in
theorem ref02_sum (s : ByteArray) (hs : s.size ≤ 1000000000) (w : World) :
    Calls Tryz.prog 70 #[.string s] w fun e w' => e = .returned (dgV (sumL s.data.toList)) ∧ Below w.heap.size w w' := by
  obtain ⟨z, hz⟩ : ∃ z : Array Value, Array.replicate 32 (Value.int .u8 0) = z := ⟨_, rfl⟩
  have hz0 := zeroDg
  rw [hz] at hz0
  have hzs : z.size = 32 := by rw [← hz]; simp
  obtain ⟨y, hy⟩ : ∃ y : Array Value, Array.replicate 8 (Value.int .u32 0) = y := ⟨_, rfl⟩
  have hy0 := zeroH
  rw [hy] at hy0
  have hys : y.size = 8 := by rw [← hy]; simp
  obtain ⟨cI, hcI⟩ : ∃ c, (u32s shaI).toArray = c := ⟨_, rfl⟩
  have hr := run_buildI
  rw [hcI] at hr
  have hIs : cI.size = 8 := by rw [← hcI]; rfl
  have hI1 : cI.all (·.oneCell') = true := by rw [← hcI]; exact u32s_one _
  have hpad : ∀ V, Calls Tryz.prog 95 #[.string s] V fun e w' => e = .returned (.string (sB (padL s.data.toList))) ∧ Below V.heap.size V w' := fun V => ref02_padded s hs V
  have hml := sB_size (padL s.data.toList)
  rw [padL_nBlk] at hml
  have hnb := nBlk_at s.data.toList
  have hzl := zN_lt s.data.toList.length
  have hl : s.data.toList.length = s.size := by simp
  rw [hl] at hnb hzl
  have hn1 : nBlk s.data.toList ≤ 100000000 := by omega
  have HZ := Lib.hid hz
  have Z0 := Lib.hid hz0
  have Zs := Lib.hid hzs
  have Y0 := Lib.hid hy0
  have Ys := Lib.hid hys
  have R := Lib.hid hr
  have HcI := Lib.hid hcI
  have HIs := Lib.hid hIs
  have HI1 := Lib.hid hI1
  have Hpad := Lib.hid hpad
  have Hn1 := Lib.hid hn1
  clear hz hz0 hzs hy hy0 hys hr hcI hIs hI1 hpad hnb hzl hl hs hn1
  have xd := Bx.new w z 39
  have hB1 := Below.one w (.cells z 39)
  go_enter Tryz.func70, Tryz.ntmps70
  go_wp2_with (first
    | (refine wpList_alloc_row rfl 39 rfl z Z0.out ?_; generalize w.alloc (.cells z 39) = w1 at *)
    | (refine wpList_build_run rfl 114 _ rfl (partsOf shaI) (by kernel_rfl) cI R.out ?_)
    | (refine wpList_alloc_row rfl 114 rfl y Y0.out ?_)
    | (refine wpList_store_mid rfl 114 (.tmp 3) (.tmp 8) rfl w1.heap.size 0 cI rfl rfl (there_bx (Bx.new w1 y 114) (by rw [HIs.out, Ys.out]; exact Nat.le_refl _)) (by rw [sizeH, HIs.out]) HI1.out ?_))
  refine (Hpad.out _).mono ?_
  rintro e w2 ⟨rfl, hb2⟩
  have l1 := xd.lt
  have xs := ((Bx.new w1 y 114).setAll (cx := cI) (by rw [HIs.out, Ys.out])).belowAll hb2
  have xd2 := ((xd.alloc (.cells y 114)).setCellsO (b' := w1.heap.size) (by omega) cI.toList 0).belowAll hb2
  have hB2 := Below.then (below_setCells (b := w1.heap.size) (by omega) cI.toList 0 _ (hB1.alloc hB1.size (.cells y 114))) hb2 (by rw [size_setCells]; simp; omega)
  clear xd hB1 hb2
  obtain ⟨n3, hn3⟩ : ∃ n3, w1.heap.size = n3 := ⟨_, rfl⟩
  rw [hn3] at xs l1 ⊢
  clear hn3
  rw [← HcI.out, show (u32s shaI).toArray = (u32s (stL ((blks s.data.toList).take 0))).toArray from rfl] at xs
  obtain ⟨nb, hnb⟩ : ∃ nb, nBlk s.data.toList = nb := ⟨_, rfl⟩
  rw [hnb] at hml Hn1
  have Hnb := Lib.hid hnb
  have Hex := Lib.hid (blk_ext s.data.toList)
  obtain ⟨M, hM⟩ : ∃ M, sB (padL s.data.toList) = M := ⟨_, rfl⟩
  rw [hM] at hml Hex ⊢
  have Hml := Lib.hid hml
  clear hM hnb hml w1
  go_wp2
  go_loopw [5] (fun i wr => ∃ q : Nat, q ≤ nb ∧ i = .int .i64 (64 * (q : Int)) ∧ Bx wr n3 (u32s (stL ((blks s.data.toList).take q))).toArray 114 ∧ Bx wr w.heap.size z 39 ∧ Below w.heap.size w wr) (fun i _ => 64 * nb - (intOf i).toNat)
  case atStart => exact ⟨0, by omega, rfl, xs, xd2, hB2⟩
  case round =>
    clear xs xd2 hB2
    obtain ⟨q, hq, rfl, xs, xd, hB⟩ := hrel
    have hml := Hml.out
    have hn1 := Hn1.out
    by_cases hlt : q < nb
    · have i0 : 64 * (q : Int) + 64 ≤ 64 * (nb : Int) := by omega
      have i1 : (0 : Int) ≤ 64 * (q : Int) := by omega
      have i2 : 64 * (q : Int) ≤ 64 * (q : Int) + 64 := by omega
      have t0 : (64 * (q : Int)).toNat = 64 * q := by omega
      have t1 : (64 * (q : Int) + 64).toNat = 64 * q + 64 := by omega
      have i3 : 64 * (q : Int) + 64 ≤ 9223372036854775807 := by omega
      have hex := Hex.out q
      have hqn : q < nBlk s.data.toList := by rw [Hnb.out]; exact hlt
      have hbz := blk_size hqn
      have hnext : stL ((blks s.data.toList).take (q + 1)) = compressL (stL ((blks s.data.toList).take q)) (blk s.data.toList q).data.toList := by rw [blks_take_succ hqn, stL_snoc]
      have hsl := stL_len ((blks s.data.toList).take q)
      have hs8 := S8.of_list _ hsl
      generalize S8.of (stL ((blks s.data.toList).take q)) = s8 at *
      rw [← hs8] at hnext xs
      have hbm : (blk s.data.toList q).size ≤ maxLen := by rw [hbz]; decide
      obtain ⟨cx, hcx⟩ : ∃ c, (u32s (stL ((blks s.data.toList).take (q + 1)))).toArray = c := ⟨_, rfl⟩
      have hxz : cx.size = 8 := by rw [← hcx]; simp only [u32s, List.size_toArray, List.length_map]; exact stL_len _
      have hx1 : cx.all (·.oneCell') = true := by rw [← hcx]; exact u32s_one _
      have hst : ∀ V, Calls Tryz.prog 96 #[.agg (u32s s8.list).toArray, .string (blk s.data.toList q)] V fun e w' => e = .returned (.agg cx) ∧ Below V.heap.size V w' := fun V => by
        have := ref02_step s8.list rfl (blk s.data.toList q) hbz V
        rw [← hnext, hcx] at this
        exact this
      generalize blk s.data.toList q = x at *
      have Hst := Lib.hid hst
      have Hcx := Lib.hid hcx
      have Hxz := Lib.hid hxz
      have Hx1 := Lib.hid hx1
      clear hst hcx hxz hx1 hnext hs8 hsl hbz
      obtain ⟨g0, g1, g2, g3, g4, g5, g6, g7⟩ := cells8 xs
      have ls := xs.lt
      have cQ := Lat.cells wr
      go_wp2
      refine wp_region_lz 7 1 #[true, true, true, true, true, true, true, false] (fun i => if i = 6 then some (annK (.agg cx)) else none) (by kernel_rfl) (by rfl) (by rfl) (by kernel_rfl) ?_
      simp only [List.take_succ_cons, List.take_zero]
      refine LW.block 6 6 (by rfl) (by kernel_rfl) (by kernel_rfl) ?_
      simp only [List.take_succ_cons, List.take_zero, List.drop_succ_cons, List.drop_zero]
      repeat (first | go_big_quiet_skip | (go_big_quiet_want; go_big_quiet_op; go_big_quiet_on))
      refine wpQuiet_nil ?_
      refine LW.lzy _ (by rfl) (by rfl) ?_ ?_
      · intro yL _
        unfold lzAt
        go_simp
        exact lz_constB (Hst.out _)
      intro _
      simp only [Act.put, List.setIfInBounds_toArray, List.set_cons_zero, List.set_cons_succ]
      (try simp only [annK])
      refine LW.done ?_
      intro W' hG
      have xs' := xs.belowAll hG.below
      have xd' := xd.belowAll hG.below
      have hB' := Below.then hB hG.below hB.size
      have hol : ((u32s s8.list).toArray).size = 8 := rfl
      refine wpAny_ready (rs := [7]) (by kernel_rfl) (by simp) ?_
      refine AllReady.cons rfl (fun K hK => ?_) AllReady.nil
      refine wp_store_mid 114 (.tmp 3) (.tmp 24) rfl n3 0 cx rfl rfl (there_bx xs' (by rw [Hxz.out, hol]; exact Nat.le_refl _)) (by rw [sizeH, Hxz.out]) Hx1.out ?_
      refine hK _ _ ?_
      clear hK K
      refine wpAny_done (by kernel_rfl) ?_ _
      clear g0 g1 g2 g3 g4 g5 g6 g7 ls cQ hex hbm
      go_wp2
      go_roundw
      case rel =>
        refine ⟨q + 1, by omega, by go_num, ?_, xd'.setCellsO (by omega) _ _, below_setCells (by omega) _ _ _ hB'⟩
        rw [Hcx.out]
        exact xs'.setAll (cx := cx) (by rw [Hxz.out, hol])
      case measure => simp [intOf]; omega
    · obtain rfl : q = nb := by omega
      have i0 : ¬ 64 * (q : Int) + 64 ≤ 64 * (q : Int) := by omega
      have i3 : 64 * (q : Int) + 64 ≤ 9223372036854775807 := by omega
      have hsum : sumL s.data.toList = outD (stL ((blks s.data.toList).take q)) := by rw [List.take_of_length_le (by rw [blks_len, Hnb.out]; exact Nat.le_refl _)]; rfl
      have hsl := stL_len ((blks s.data.toList).take q)
      generalize stL ((blks s.data.toList).take q) = st at *
      have Hsum := Lib.hid hsum
      have Hsl := Lib.hid hsl
      have lnn := xs.lt
      have hBz := xd.lt
      have xD := Bx.new wr z 39
      have xs := xs.alloc (.cells z 39)
      have xd := xd.alloc (.cells z 39)
      have hB := hB.alloc hB.size (.cells z 39)
      have hz1 : z.all (·.oneCell') = true := by rw [← HZ.out]; kernel_rfl
      have Hz1 := Lib.hid hz1
      clear hsum hsl hz1
      go_wp2_with (first
        | (refine wpList_build_zero rfl 39 rfl 32 5 Tryz.underlying39 z Z0.out rfl ?_)
        | (refine wpList_alloc_row rfl 39 rfl z Z0.out ?_)
        | (refine wpList_store_mid rfl 39 (.tmp 6) (.tmp 25) rfl wr.heap.size 0 z rfl rfl (there_bx xD (by exact Nat.le_refl _)) (by rw [sizeDg, Zs.out]) Hz1.out ?_))
      have xD := xD.setAll (cx := z) rfl
      have xs := xs.setCellsO (b' := wr.heap.size) (by omega) z.toList 0
      have xd := xd.setCellsO (b' := wr.heap.size) (by omega) z.toList 0
      have hB := below_setCells (b := wr.heap.size) (by omega) z.toList 0 _ hB
      generalize (wr.alloc (.cells z 39)).setCells wr.heap.size 0 z.toList = w5 at *
      generalize wr.heap.size = nD at *
      rw [← HZ.out, show Array.replicate 32 (Value.int .u8 0) = (bytesV (dP st 0)).toArray from rfl] at xD
      go_loopw [7] (fun i wr => ∃ k : Nat, k ≤ 32 ∧ i = .int .i64 k ∧ Bx wr nD (bytesV (dP st k)).toArray 39 ∧ Bx wr n3 (u32s st).toArray 114 ∧ Bx wr w.heap.size z 39 ∧ Below w.heap.size w wr) (fun i _ => 32 - (intOf i).toNat)
      case atStart => exact ⟨0, by omega, rfl, xD, xs, xd, hB⟩
      case round =>
        clear xD xs xd hB
        obtain ⟨k, hk, rfl, xD, xs, xd, hB⟩ := hrel
        by_cases hlt : k < 32
        · have hlt' : (k : Int) < 32 := by omega
          have j0 : (0 : Int) ≤ (k : Int) / 4 := by omega
          have j1 : (k : Int) / 4 < 8 := by omega
          have u0 : ((k : Int) / 4).toNat = k / 4 := by omega
          have j2 : 8 * ((k : Int) % 4) ≤ 24 := by omega
          have u1 : (24 - 8 * ((k : Int) % 4)).toNat = 24 - 8 * (k % 4) := by omega
          have j3 : (0 : Int) ≤ 24 - 8 * ((k : Int) % 4) := by omega
          have cS : wr.cell? ⟨n3, k / 4, none⟩ = some (.int .u32 (wv (st.getD (k / 4) 0))) := by rw [xs.cell, u32s_get (by rw [Hsl.out]; omega)]
          have lS := xs.lt
          obtain ⟨x0, cD⟩ : ∃ x0, wr.cell? ⟨nD, k, none⟩ = some (.int .u8 x0) := by
            have hDl := dP_len (st := st) (m := k) hk
            exact ⟨_, by rw [xD.cell, bytesV_get (by omega)]⟩
          have fD := xD.free k
          have lD := xD.lt
          go_wp2
          rw [show wv (st[k / 4]?.getD 0) / 2 ^ (24 - 8 * (k % 4)) % 256 = ((outB st k).toNat : Int) from out_val32 st k]
          go_roundw
          case rel =>
            refine ⟨k + 1, by omega, by go_num, ?_, xs.setO (a := ⟨nD, k, none⟩) (by simp; omega) _, xd.setO (a := ⟨nD, k, none⟩) (by simp; omega) _, below_set1 hB (by omega)⟩
            have := xD.set k (.int .u8 ((outB st k).toNat : Int))
            rw [bytesV_set, dP_set hlt] at this
            exact this
          case measure => simp [intOf]; omega
        · obtain rfl : k = 32 := by omega
          have hlt' : ¬ ((32 : Nat) : Int) < 32 := by omega
          rw [dP_all] at xD
          obtain ⟨cx, hcx⟩ : ∃ cx, (bytesV (outD st)).toArray = cx := ⟨_, rfl⟩
          have hxz : cx.size = 32 := by rw [← hcx]; simp [bytesV, outD_len]
          have hx1 : cx.all (·.oneCell') = true := by rw [← hcx]; exact all_oneCell_toArray (bytesV_one _)
          rw [hcx] at xD
          have Hcx := Lib.hid hcx
          have Hxz := Lib.hid hxz
          have Hx1 := Lib.hid hx1
          clear hcx hxz hx1
          go_wp2_with (first
            | (refine wpList_load_mid rfl 39 (.tmp 6) rfl nD 0 rfl cx.toList _ xD.range Tryz.underlying39 rfl (by rw [sizeDg]; simp [Hxz.out]) ?_)
            | (refine wpList_store_mid rfl 39 (.tmp 2) (.tmp 43) rfl w.heap.size 0 cx rfl rfl (there_bx xd (by rw [Hxz.out, Zs.out]; exact Nat.le_refl _)) (by rw [sizeDg, Hxz.out]) Hx1.out ?_))
          have xd2 := xd.setAll (cx := cx) (by rw [Hxz.out, Zs.out])
          refine bodyPost_ret (v := .agg cx) (results_cell_row (d := .array 32 5) Tryz.results70 _ _ w.heap.size _ _ _ rfl xd2 Tryz.underlying39 rfl (by rw [sizeDg, Hxz.out])) rfl ?_
          exact ⟨by rw [Hsum.out, ← Hcx.out]; rfl, below_setCells (Nat.le_refl _) _ _ _ hB⟩
end Go.Proofs.YtebgopdmeghmhaaGreat
