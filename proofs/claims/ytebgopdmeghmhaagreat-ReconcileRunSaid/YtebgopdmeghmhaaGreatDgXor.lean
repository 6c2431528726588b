/- Xor of two digests, of the program and of the reference. -/
import Derived.Test.YtebgopdmeghmhaaGreatDig
namespace Go.Proofs.YtebgopdmeghmhaaGreat
open Go.RowKit

theorem sizeDg : (Tryz.prog.info? 39).map (·.size) = some 32 := by kernel_rfl
set_option maxHeartbeats 1000000 in
theorem ref02_xor (a b : List UInt8) (ha : a.length = 32) (hb : b.length = 32) (w : World) :
    Calls Tryz.prog 54 #[dgV a, dgV b] w fun e w' => e = .returned (dgV (xorD a b)) ∧ Below w.heap.size w w' := by
  obtain ⟨ca, hca⟩ : ∃ c, (bytesV a).toArray = c := ⟨_, rfl⟩
  obtain ⟨cb, hcb⟩ : ∃ c, (bytesV b).toArray = c := ⟨_, rfl⟩
  unfold dgV
  rw [hca, hcb]
  have xa := Bx.new w ca 39 |>.alloc (.cells cb 39) |>.alloc (.cells (Array.replicate 32 (.int .u8 0)) 39)
  have xb := Bx.new (w.alloc (.cells ca 39)) cb 39 |>.alloc (.cells (Array.replicate 32 (.int .u8 0)) 39)
  have xr := Bx.new ((w.alloc (.cells ca 39)).alloc (.cells cb 39)) (Array.replicate 32 (.int .u8 0)) 39
  simp only [World.size_alloc] at xb xr
  have hB := ((Below.one w (.cells ca 39)).alloc (by simp) (.cells cb 39)).alloc (by simp; omega) (.cells (Array.replicate 32 (.int .u8 0)) 39)
  have hca' := Lib.hid hca
  have hcb' := Lib.hid hcb
  clear hca hcb
  go_enter Tryz.func54, Tryz.ntmps54
  go_wp2
  rw [show (#[.int .u8 0, .int .u8 0, .int .u8 0, .int .u8 0, .int .u8 0, .int .u8 0, .int .u8 0, .int .u8 0, .int .u8 0, .int .u8 0, .int .u8 0, .int .u8 0, .int .u8 0, .int .u8 0, .int .u8 0, .int .u8 0, .int .u8 0, .int .u8 0, .int .u8 0, .int .u8 0, .int .u8 0, .int .u8 0, .int .u8 0, .int .u8 0, .int .u8 0, .int .u8 0, .int .u8 0, .int .u8 0, .int .u8 0, .int .u8 0, .int .u8 0, .int .u8 0] : Array Value) = Array.replicate 32 (.int .u8 0) from rfl]
  generalize ((w.alloc (.cells ca 39)).alloc (.cells cb 39)).alloc (.cells (Array.replicate 32 (.int .u8 0)) 39) = w1 at *
  go_loopw [5] (fun i wr => ∃ (k : Nat) (c : List UInt8), k ≤ 32 ∧ i = .int .i64 k ∧ Hid (c.length = 32 ∧ c.take k = (xorD a b).take k ∧ c.drop k = a.drop k) ∧ Bx wr w.heap.size (bytesV c).toArray 39 ∧ Bx wr (w.heap.size + 1) cb 39 ∧ Bx wr (w.heap.size + 1 + 1) (Array.replicate 32 (.int .u8 0)) 39 ∧ Below w.heap.size w wr) (fun i _ => 32 - (intOf i).toNat)
  case atStart => exact ⟨0, a, by omega, rfl, Lib.hid ⟨ha, rfl, rfl⟩, by rw [hca'.out]; exact xa, xb, xr, hB⟩
  case round =>
    clear xa xb xr hB
    obtain ⟨k, c, hk, rfl, hc, xa, xb, xr, hB⟩ := hrel
    by_cases hlt : k < 32
    · have hl1 := hc.out.1
      have hka : k < a.length := by omega
      have hkb : k < b.length := by omega
      have hkc : k < c.length := by omega
      have e := same_get hc.out.2.2 hka hkc
      have ca0 : wr.cell? ⟨w.heap.size, k, none⟩ = some (.int .u8 (a[k].toNat : Int)) := by rw [xa.cell, bytesV_get hkc, e]
      have cb0 : wr.cell? ⟨w.heap.size + 1, k, none⟩ = some (.int .u8 (b[k].toNat : Int)) := by rw [xb.cell, ← hcb'.out, bytesV_get hkb]
      have fa0 := xa.free k
      have la := xa.lt
      have lb := xb.lt
      have hx := bits_xor8 a[k] b[k]
      have cQ := Lat.cells wr
      have hst := Lib.hid (xor_step hlt hc.out hka hkb)
      clear hl1 e ha hb
      go_wp2
      refine wp_region_lz 9 1 #[true, true, true, true, true, true, true, true, true, false] (fun _ => none) (by kernel_rfl) (by rfl) (by rfl) (by kernel_rfl) ?_
      simp only [List.take_succ_cons, List.take_zero]
      refine LW.block 9 9 (by rfl) (by kernel_rfl) (by kernel_rfl) ?_
      simp only [List.take_succ_cons, List.take_zero, List.drop_succ_cons, List.drop_zero]
      repeat (first | go_big_quiet_skip | (go_big_quiet_want; go_big_quiet_op; go_big_quiet_on))
      refine wpQuiet_nil ?_
      refine LW.done ?_
      intro W' hG
      have xa2 := xa.belowAll hG.below
      have xb2 := xb.belowAll hG.below
      have xr2 := xr.belowAll hG.below
      have hB2 := Below.then hB hG.below hB.size
      have ca1 : W'.cell? ⟨w.heap.size, k, none⟩ = some (.int .u8 (a[k].toNat : Int)) := by rw [hG.below.cell (p := ⟨w.heap.size, k, none⟩) la]; exact ca0
      have fa1 := xa2.free k
      have la1 := xa2.lt
      clear cQ ca0 cb0 fa0 la lb
      refine wpAny_ready (rs := [9]) (by kernel_rfl) (by simp) ?_
      refine AllReady.cons rfl (fun K hK => ?_) AllReady.nil
      go_simp
      refine hK _ _ ?_
      clear hK K
      refine wpAny_done (by kernel_rfl) ?_ _
      go_wp2
      go_roundw
      case rel =>
        refine ⟨k + 1, c.set k (a[k] ^^^ b[k]), by omega, by go_num, hst, ?_, xb2.setO (a := ⟨w.heap.size, k, none⟩) (by simp) _, xr2.setO (a := ⟨w.heap.size, k, none⟩) (by simp; omega) _, below_set1 hB2 (Nat.le_refl _)⟩
        have := xa2.set k (.int .u8 ((a[k] ^^^ b[k]).toNat : Int))
        rw [bytesV_set] at this
        exact this
      case measure => simp [intOf]; omega
    · obtain rfl : k = 32 := by omega
      obtain rfl : c = xorD a b := by
        obtain ⟨h1, h2, _⟩ := hc.out
        rw [List.take_of_length_le (by omega), List.take_of_length_le (by simp [xorD]; omega)] at h2
        exact h2
      have hx32 := xorD_len ha hb
      obtain ⟨cx, hcx⟩ : ∃ cx, (bytesV (xorD a b)).toArray = cx := ⟨_, rfl⟩
      have hsz : cx.size = 32 := by rw [← hcx]; simp [bytesV, hx32]
      have h1 : cx.all (·.oneCell') = true := by rw [← hcx]; exact all_oneCell_toArray (bytesV_one _)
      rw [hcx] at xa
      have Hcx := Lib.hid hcx
      have H1 := Lib.hid h1
      have Hs := Lib.hid hsz
      clear h1 hsz hcx hx32 hc
      go_wp2_with (first
        | (refine wpList_load_mid rfl 39 (.tmp 2) rfl w.heap.size 0 rfl cx.toList _ xa.range Tryz.underlying39 rfl (by rw [sizeDg]; simp [Hs.out]) ?_)
        | (refine wpList_store_mid rfl 39 (.tmp 4) (.tmp 19) rfl (w.heap.size + 1 + 1) 0 cx rfl rfl (there_bx xr (by simp [Hs.out])) (by rw [sizeDg, Hs.out]) H1.out ?_))
      have xr2 := xr.setAll (cx := cx) (by rw [Hs.out]; simp)
      refine bodyPost_ret (v := .agg cx) (results_cell_row (d := .array 32 5) Tryz.results54 _ _ (w.heap.size + 1 + 1) _ _ _ rfl xr2 Tryz.underlying39 rfl (by rw [sizeDg, Hs.out])) rfl ?_
      exact ⟨by rw [Hcx.out], below_setCells (by omega) _ _ _ hB⟩
set_option maxHeartbeats 1000000 in
theorem sha_xor (a b : List UInt8) (ha : a.length = 32) (hb : b.length = 32) (w : World) :
    Calls Tryz.prog 46 #[dgV a, dgV b] w fun e w' => e = .returned (dgV (xorD a b)) ∧ Below w.heap.size w w' := by
  obtain ⟨ca, hca⟩ : ∃ c, (bytesV a).toArray = c := ⟨_, rfl⟩
  obtain ⟨cb, hcb⟩ : ∃ c, (bytesV b).toArray = c := ⟨_, rfl⟩
  unfold dgV
  rw [hca, hcb]
  have xa := Bx.new w ca 39 |>.alloc (.cells cb 39) |>.alloc (.cells (Array.replicate 32 (.int .u8 0)) 39)
  have xb := Bx.new (w.alloc (.cells ca 39)) cb 39 |>.alloc (.cells (Array.replicate 32 (.int .u8 0)) 39)
  have xr := Bx.new ((w.alloc (.cells ca 39)).alloc (.cells cb 39)) (Array.replicate 32 (.int .u8 0)) 39
  simp only [World.size_alloc] at xb xr
  have hB := ((Below.one w (.cells ca 39)).alloc (by simp) (.cells cb 39)).alloc (by simp; omega) (.cells (Array.replicate 32 (.int .u8 0)) 39)
  have hca' := Lib.hid hca
  have hcb' := Lib.hid hcb
  clear hca hcb
  go_enter Tryz.func46, Tryz.ntmps46
  go_wp2
  rw [show (#[.int .u8 0, .int .u8 0, .int .u8 0, .int .u8 0, .int .u8 0, .int .u8 0, .int .u8 0, .int .u8 0, .int .u8 0, .int .u8 0, .int .u8 0, .int .u8 0, .int .u8 0, .int .u8 0, .int .u8 0, .int .u8 0, .int .u8 0, .int .u8 0, .int .u8 0, .int .u8 0, .int .u8 0, .int .u8 0, .int .u8 0, .int .u8 0, .int .u8 0, .int .u8 0, .int .u8 0, .int .u8 0, .int .u8 0, .int .u8 0, .int .u8 0, .int .u8 0] : Array Value) = Array.replicate 32 (.int .u8 0) from rfl]
  generalize ((w.alloc (.cells ca 39)).alloc (.cells cb 39)).alloc (.cells (Array.replicate 32 (.int .u8 0)) 39) = w1 at *
  go_loopw [6] (fun i wr => ∃ (k : Nat) (c : List UInt8), k ≤ 32 ∧ i = .int .i64 k ∧ Hid (c.length = 32 ∧ c.take k = (xorD a b).take k ∧ c.drop k = a.drop k) ∧ Bx wr w.heap.size (bytesV c).toArray 39 ∧ Bx wr (w.heap.size + 1) cb 39 ∧ Bx wr (w.heap.size + 1 + 1) (Array.replicate 32 (.int .u8 0)) 39 ∧ Below w.heap.size w wr) (fun i _ => 32 - (intOf i).toNat)
  case atStart => exact ⟨0, a, by omega, rfl, Lib.hid ⟨ha, rfl, rfl⟩, by rw [hca'.out]; exact xa, xb, xr, hB⟩
  case round =>
    clear xa xb xr hB
    obtain ⟨k, c, hk, rfl, hc, xa, xb, xr, hB⟩ := hrel
    by_cases hlt : k < 32
    · have hl1 := hc.out.1
      have hka : k < a.length := by omega
      have hkb : k < b.length := by omega
      have hkc : k < c.length := by omega
      have e := same_get hc.out.2.2 hka hkc
      have ca0 : wr.cell? ⟨w.heap.size, k, none⟩ = some (.int .u8 (a[k].toNat : Int)) := by rw [xa.cell, bytesV_get hkc, e]
      have cb0 : wr.cell? ⟨w.heap.size + 1, k, none⟩ = some (.int .u8 (b[k].toNat : Int)) := by rw [xb.cell, ← hcb'.out, bytesV_get hkb]
      have fa0 := xa.free k
      have la := xa.lt
      have lb := xb.lt
      have hx := bits_xor8 a[k] b[k]
      have cQ := Lat.cells wr
      have hst := Lib.hid (xor_step hlt hc.out hka hkb)
      clear hl1 e ha hb
      go_wp2
      refine wp_region_lz 8 1 #[true, true, true, true, true, true, true, true, false] (fun _ => none) (by kernel_rfl) (by rfl) (by rfl) (by kernel_rfl) ?_
      simp only [List.take_succ_cons, List.take_zero]
      refine LW.block 8 8 (by rfl) (by kernel_rfl) (by kernel_rfl) ?_
      simp only [List.take_succ_cons, List.take_zero, List.drop_succ_cons, List.drop_zero]
      repeat (first | go_big_quiet_skip | (go_big_quiet_want; go_big_quiet_op; go_big_quiet_on))
      refine wpQuiet_nil ?_
      refine LW.done ?_
      intro W' hG
      have xa2 := xa.belowAll hG.below
      have xb2 := xb.belowAll hG.below
      have xr2 := xr.belowAll hG.below
      have hB2 := Below.then hB hG.below hB.size
      have ca1 : W'.cell? ⟨w.heap.size, k, none⟩ = some (.int .u8 (a[k].toNat : Int)) := by rw [hG.below.cell (p := ⟨w.heap.size, k, none⟩) la]; exact ca0
      have fa1 := xa2.free k
      have la1 := xa2.lt
      clear cQ ca0 cb0 fa0 la lb
      refine wpAny_ready (rs := [8]) (by kernel_rfl) (by simp) ?_
      refine AllReady.cons rfl (fun K hK => ?_) AllReady.nil
      go_simp
      refine hK _ _ ?_
      clear hK K
      refine wpAny_done (by kernel_rfl) ?_ _
      go_wp2
      go_roundw
      case rel =>
        refine ⟨k + 1, c.set k (a[k] ^^^ b[k]), by omega, by go_num, hst, ?_, xb2.setO (a := ⟨w.heap.size, k, none⟩) (by simp) _, xr2.setO (a := ⟨w.heap.size, k, none⟩) (by simp; omega) _, below_set1 hB2 (Nat.le_refl _)⟩
        have := xa2.set k (.int .u8 ((a[k] ^^^ b[k]).toNat : Int))
        rw [bytesV_set] at this
        exact this
      case measure => simp [intOf]; omega
    · obtain rfl : k = 32 := by omega
      obtain rfl : c = xorD a b := by
        obtain ⟨h1, h2, _⟩ := hc.out
        rw [List.take_of_length_le (by omega), List.take_of_length_le (by simp [xorD]; omega)] at h2
        exact h2
      have hx32 := xorD_len ha hb
      obtain ⟨cx, hcx⟩ : ∃ cx, (bytesV (xorD a b)).toArray = cx := ⟨_, rfl⟩
      have hsz : cx.size = 32 := by rw [← hcx]; simp [bytesV, hx32]
      have h1 : cx.all (·.oneCell') = true := by rw [← hcx]; exact all_oneCell_toArray (bytesV_one _)
      rw [hcx] at xa
      have Hcx := Lib.hid hcx
      have H1 := Lib.hid h1
      have Hs := Lib.hid hsz
      clear h1 hsz hcx hx32 hc
      go_wp2_with (first
        | (refine wpList_load_mid rfl 39 (.tmp 2) rfl w.heap.size 0 rfl cx.toList _ xa.range Tryz.underlying39 rfl (by rw [sizeDg]; simp [Hs.out]) ?_)
        | (refine wpList_store_mid rfl 39 (.tmp 4) (.tmp 18) rfl (w.heap.size + 1 + 1) 0 cx rfl rfl (there_bx xr (by simp [Hs.out])) (by rw [sizeDg, Hs.out]) H1.out ?_))
      have xr2 := xr.setAll (cx := cx) (by rw [Hs.out]; simp)
      refine bodyPost_ret (v := .agg cx) (results_cell_row (d := .array 32 5) Tryz.results46 _ _ (w.heap.size + 1 + 1) _ _ _ rfl xr2 Tryz.underlying39 rfl (by rw [sizeDg, Hs.out])) rfl ?_
      exact ⟨by rw [Hcx.out], below_setCells (by omega) _ _ _ hB⟩
end Go.Proofs.YtebgopdmeghmhaaGreat
