/- The check value of a digest: of the program and of the reference. -/
import Derived.Test.YtebgopdmeghmhaaGreatShB
import Derived.Test.YtebgopdmeghmhaaGreatRfSum
namespace Go.Proofs.YtebgopdmeghmhaaGreat
open Go.RowKit

set_option maxHeartbeats 1000000 in
theorem iblt_check (d : List UInt8) (hd : d.length = 32) (w : World) :
    Calls Tryz.prog 73 #[dgV d] w fun e w' => e = .returned (dgV (sumL d)) ∧ Below w.heap.size w w' := by
  obtain ⟨z, hz⟩ : ∃ z : Array Value, Array.replicate 32 (Value.int .u8 0) = z := ⟨_, rfl⟩
  have hz0 := zeroDg
  rw [hz] at hz0
  have hzs : z.size = 32 := by rw [← hz]; simp
  obtain ⟨cd, hcd⟩ : ∃ c, (bytesV d).toArray = c := ⟨_, rfl⟩
  unfold dgV
  rw [hcd]
  have hsum := sha_sum (sB d) (by rw [sB_size, hd]; decide)
  rw [sB_list] at hsum
  unfold dgV at hsum
  obtain ⟨cx, hcx⟩ : ∃ c, (bytesV (sumL d)).toArray = c := ⟨_, rfl⟩
  rw [hcx] at hsum ⊢
  have hxz : cx.size = 32 := by rw [← hcx]; simp [bytesV, sumL_len]
  have hx1 : cx.all (·.oneCell') = true := by rw [← hcx]; exact all_oneCell_toArray (bytesV_one _)
  have xc := (Bx.new w cd 39).alloc (.cells z 39)
  have xr := Bx.new (w.alloc (.cells cd 39)) z 39
  have hrow : RowAt (· = w.heap.size) ((w.alloc (.cells cd 39)).alloc (.cells z 39)) (some ⟨w.heap.size, 0, none⟩) (bytesV d) := by
    have := RowAt.bx xc
    have e : cd.toList = bytesV d := by rw [← hcd]
    rw [e] at this
    exact this
  have hB := (Below.one w (.cells cd 39)).alloc (by simp) (.cells z 39)
  simp only [World.size_alloc] at xr
  have Z0 := Lib.hid hz0
  have Zs := Lib.hid hzs
  have Hrow := Lib.hid hrow
  have Hsum := Lib.hid hsum
  have Hxz := Lib.hid hxz
  have Hx1 := Lib.hid hx1
  clear hz hz0 hzs hcd hcx hxz hx1 hrow hsum
  go_enter Tryz.func73, Tryz.ntmps73
  go_wp2_with (first
    | (refine wpList_alloc_row rfl 39 rfl z Z0.out ?_)
    | (refine wpList_str rfl (.tmp 3) 79 9 5 rfl Tryz.underlying79 Tryz.underlying5 Tryz.underlying9 (some ⟨w.heap.size, 0, none⟩) 32 32 d rfl hd Hrow.out ?_))
  refine (Hsum.out _).mono ?_
  rintro e w1 ⟨rfl, hb1⟩
  have xr := xr.belowAll hb1
  have hB := Below.then hB hb1 hB.size
  go_wp2_with (refine wpList_store_mid rfl 39 (.tmp 2) (.tmp 5) rfl (w.heap.size + 1) 0 cx rfl rfl (there_bx xr (by rw [Hxz.out, Zs.out]; exact Nat.le_refl _)) (by rw [sizeDg, Hxz.out]) Hx1.out ?_)
  have xr2 := xr.setAll (cx := cx) (by rw [Hxz.out, Zs.out])
  refine bodyPost_ret (v := .agg cx) (results_cell_row (d := .array 32 5) Tryz.results73 _ _ (w.heap.size + 1) _ _ _ rfl xr2 Tryz.underlying39 rfl (by rw [sizeDg, Hxz.out])) rfl ?_
  exact ⟨rfl, below_setCells (by omega) _ _ _ hB⟩
set_option maxHeartbeats 1000000 in
theorem ref02_bytes (d : List UInt8) (hd : d.length = 32) (w : World) :
    Calls Tryz.prog 69 #[dgV d] w fun e w' => e = .returned (.string (sB d)) ∧ Below w.heap.size w w' := by
  obtain ⟨cd, hcd⟩ : ∃ c, (bytesV d).toArray = c := ⟨_, rfl⟩
  unfold dgV
  rw [hcd]
  have xc := Bx.new w cd 39
  have hrow : RowAt (· = w.heap.size) (w.alloc (.cells cd 39)) (some ⟨w.heap.size, 0, none⟩) (bytesV d) := by
    have := RowAt.bx xc
    have e : cd.toList = bytesV d := by rw [← hcd]
    rw [e] at this
    exact this
  have hB := Below.one w (.cells cd 39)
  have Hrow := Lib.hid hrow
  clear hcd hrow
  go_enter Tryz.func69, Tryz.ntmps69
  go_wp2_with (refine wpList_str rfl (.tmp 3) 79 9 5 rfl Tryz.underlying79 Tryz.underlying5 Tryz.underlying9 (some ⟨w.heap.size, 0, none⟩) 32 32 d rfl hd Hrow.out ?_)
  go_ret
  exact ⟨rfl, hB⟩
set_option maxHeartbeats 1000000 in
theorem ref47_value (d : List UInt8) (hd : d.length = 32) (w : World) :
    Calls Tryz.prog 78 #[dgV d] w fun e w' => e = .returned (dgV (sumL d)) ∧ Below w.heap.size w w' := by
  obtain ⟨z, hz⟩ : ∃ z : Array Value, Array.replicate 32 (Value.int .u8 0) = z := ⟨_, rfl⟩
  have hz0 := zeroDg
  rw [hz] at hz0
  have hzs : z.size = 32 := by rw [← hz]; simp
  have hbytes := ref02_bytes d hd
  obtain ⟨cd, hcd⟩ : ∃ c, (bytesV d).toArray = c := ⟨_, rfl⟩
  have hcl : cd.size = 32 := by rw [← hcd]; simp [bytesV, hd]
  unfold dgV at hbytes ⊢
  rw [hcd] at hbytes ⊢
  have hsum := ref02_sum (sB d) (by rw [sB_size, hd]; decide)
  rw [sB_list] at hsum
  unfold dgV at hsum
  obtain ⟨cx, hcx⟩ : ∃ c, (bytesV (sumL d)).toArray = c := ⟨_, rfl⟩
  rw [hcx] at hsum ⊢
  have hxz : cx.size = 32 := by rw [← hcx]; simp [bytesV, sumL_len]
  have hx1 : cx.all (·.oneCell') = true := by rw [← hcx]; exact all_oneCell_toArray (bytesV_one _)
  have xc := (Bx.new w cd 39).alloc (.cells z 39)
  have xr := Bx.new (w.alloc (.cells cd 39)) z 39
  have hB := (Below.one w (.cells cd 39)).alloc (by simp) (.cells z 39)
  simp only [World.size_alloc] at xr
  have Z0 := Lib.hid hz0
  have Zs := Lib.hid hzs
  have Hcl := Lib.hid hcl
  have Hbytes := Lib.hid hbytes
  have Hsum := Lib.hid hsum
  have Hxz := Lib.hid hxz
  have Hx1 := Lib.hid hx1
  clear hz hz0 hzs hcd hcx hxz hx1 hsum hbytes hcl
  go_enter Tryz.func78, Tryz.ntmps78
  go_wp2_with (first
    | (refine wpList_alloc_row rfl 39 rfl z Z0.out ?_)
    | (refine wpList_load_mid rfl 39 (.tmp 1) rfl w.heap.size 0 rfl cd.toList _ xc.range Tryz.underlying39 rfl (by rw [sizeDg]; simp [Hcl.out]) ?_))
  refine (Hbytes.out _).mono ?_
  rintro e w1 ⟨rfl, hb1⟩
  have xr := xr.belowAll hb1
  have hB := Below.then hB hb1 hB.size
  go_wp2_with fail
  refine (Hsum.out _).mono ?_
  rintro e w2 ⟨rfl, hb2⟩
  have xr := xr.belowAll hb2
  have hB := Below.then hB hb2 hB.size
  go_wp2_with (refine wpList_store_mid rfl 39 (.tmp 2) (.tmp 5) rfl (w.heap.size + 1) 0 cx rfl rfl (there_bx xr (by rw [Hxz.out, Zs.out]; exact Nat.le_refl _)) (by rw [sizeDg, Hxz.out]) Hx1.out ?_)
  have xr2 := xr.setAll (cx := cx) (by rw [Hxz.out, Zs.out])
  refine bodyPost_ret (v := .agg cx) (results_cell_row (d := .array 32 5) Tryz.results78 _ _ (w.heap.size + 1) _ _ _ rfl xr2 Tryz.underlying39 rfl (by rw [sizeDg, Hxz.out])) rfl ?_
  exact ⟨rfl, below_setCells (by omega) _ _ _ hB⟩
end Go.Proofs.YtebgopdmeghmhaaGreat
