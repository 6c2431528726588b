/- Lists of digests as rows of cells. No function of the program is named here. Ranges of layer 48 as values; open, inside, zero, within. Lists of ranges in memory: rows of 99 cells, the last of each a slice of digests. What an answer collects: a list of ranges and two lists of digests, of one's own. Appending to them. -/
import Derived.Test.YtebgopdmeghmhaaGreatTab
import Derived.Test.YtebgopdmeghmhaaGreatRcAsc
import Derived.Test.YtebgopdmeghmhaaGreatLAw
import Derived.Test.YtebgopdmeghmhaaGreatLazyIn
namespace Go.Proofs.YtebgopdmeghmhaaGreat
open Go.RowKit

theorem DigR.row {S : Nat → Prop} {w : World} {o : Option Addr} {c : Nat} {l : List (List UInt8)} (h : DigR S w (.slice o l.length c) l) : RowAt S w o (digC l).flatten ∧ (o = none → l.length = 0 ∧ c = 0) := by
  obtain ⟨⟨o', c', e, hs, hr⟩, _⟩ := h
  rw [digC_size] at e hs
  obtain ⟨rfl, rfl⟩ : o = o' ∧ c = c' := by simpa using e
  exact ⟨hr, hs.nil⟩
theorem digC_flat {l : List (List UInt8)} (h : Dok l) : (digC l).flatten.length = l.length * 32 := by rw [flat_len (digC_len h), digC_size]
theorem digC_one (l : List (List UInt8)) : ∀ u ∈ (digC l).flatten, u.oneCell' = true := by
  intro u hu
  obtain ⟨x, hx, hu⟩ := List.mem_flatten.1 hu
  obtain ⟨y, _, rfl⟩ := List.mem_map.1 hx
  exact bytesV_one y u hu
theorem digC_app (a b : List (List UInt8)) : (digC (a ++ b)).flatten = (digC a).flatten ++ (digC b).flatten := by unfold digC; rw [List.map_append, List.flatten_append]
theorem ownsRow_slice {w : World} {base : Nat} {e : TypeId} {size : Nat} {v : Value} {n : Nat} {xs : List Value} (h : w.ownsRow base e size v n xs) : ∃ o m c, v = .slice o m c := by
  rcases h.2 with ⟨hv, _⟩ | ⟨g, cap, cur, hv, _⟩
  · exact ⟨_, _, _, hv⟩
  · exact ⟨_, _, _, hv⟩
end Go.Proofs.YtebgopdmeghmhaaGreat
namespace Go.Proofs.YtebgopdmeghmhaaGreat
open Go.RowKit

def Rg.cells (r : Rg) (vi : Value) : List Value := bytesV r.low ++ (bytesV r.high ++ (.bool r.listed :: .int .i64 r.count :: (bytesV r.print ++ [vi])))
def Rg.V (r : Rg) (vi : Value) : Value := .agg (r.cells vi).toArray
theorem Rg.len {r : Rg} (h : r.ok) (vi : Value) : (r.cells vi).length = 99 := by
  simp only [Rg.cells, List.length_append, List.length_cons, bytesV_len, h.1, h.2.1, h.2.2.1, List.length_nil]
theorem Rg.one (r : Rg) (vi : Value) (hv : vi.oneCell' = true) : ∀ u ∈ r.cells vi, u.oneCell' = true := by
  intro u hu
  unfold Rg.cells at hu
  rcases List.mem_append.1 hu with h | h
  · exact bytesV_one _ u h
  · rcases List.mem_append.1 h with h | h
    · exact bytesV_one _ u h
    · rcases List.mem_cons.1 h with rfl | h
      · rfl
      · rcases List.mem_cons.1 h with rfl | h
        · rfl
        · rcases List.mem_append.1 h with h | h
          · exact bytesV_one _ u h
          · rw [List.mem_singleton.1 h]; exact hv
section
variable {w : World} {b o : Nat} {r : Rg} {vi : Value}
theorem Rg.low_at (hr : r.ok) (h : w.rangeAt b o (r.cells vi)) : w.rangeAt b o (bytesV r.low) := by
  have := rangeAt_sub h 0 32
  have e : ((r.cells vi).drop 0).take 32 = bytesV r.low := by
    rw [List.drop_zero]
    unfold Rg.cells
    rw [List.take_append_of_le_length (by rw [bytesV_len, hr.1]; exact Nat.le_refl _), List.take_of_length_le (by rw [bytesV_len, hr.1]; exact Nat.le_refl _)]
  rwa [e, Nat.add_zero] at this
theorem Rg.high_at (hr : r.ok) (h : w.rangeAt b o (r.cells vi)) : w.rangeAt b (o + 32) (bytesV r.high) := by
  have := rangeAt_sub h 32 32
  have e : ((r.cells vi).drop 32).take 32 = bytesV r.high := by
    unfold Rg.cells
    rw [show (32 : Nat) = (bytesV r.low).length from by rw [bytesV_len, hr.1], List.drop_left, List.take_append_of_le_length (by rw [bytesV_len, bytesV_len, hr.1, hr.2.1]; exact Nat.le_refl _), List.take_of_length_le (by rw [bytesV_len, bytesV_len, hr.1, hr.2.1]; exact Nat.le_refl _)]
  rwa [e] at this
theorem Rg.drop64 (hr : r.ok) : (r.cells vi).drop 64 = .bool r.listed :: .int .i64 r.count :: (bytesV r.print ++ [vi]) := by
  unfold Rg.cells
  rw [show (64 : Nat) = (bytesV r.low).length + 32 from by rw [bytesV_len, hr.1], ← List.drop_drop, List.drop_left, show (32 : Nat) = (bytesV r.high).length from by rw [bytesV_len, hr.2.1], List.drop_left]
theorem Rg.get64 (hr : r.ok) (k : Nat) : (r.cells vi)[64 + k]? = (Value.bool r.listed :: .int .i64 r.count :: (bytesV r.print ++ [vi]))[k]? := by
  rw [← Rg.drop64 hr (vi := vi), List.getElem?_drop]
theorem Rg.listed_at (hr : r.ok) (h : w.rangeAt b o (r.cells vi)) : w.cell? ⟨b, o + 64, none⟩ = some (.bool r.listed) := h 64 _ (Rg.get64 hr 0)
theorem Rg.count_at (hr : r.ok) (h : w.rangeAt b o (r.cells vi)) : w.cell? ⟨b, o + 65, none⟩ = some (.int .i64 r.count) := h 65 _ (Rg.get64 hr 1)
theorem Rg.ids_at (hr : r.ok) (h : w.rangeAt b o (r.cells vi)) : w.cell? ⟨b, o + 98, none⟩ = some vi := by
  refine h 98 _ ?_
  rw [show 98 = 64 + 34 from rfl, Rg.get64 hr 34]
  rw [List.getElem?_cons_succ, List.getElem?_cons_succ, List.getElem?_append_right (by rw [bytesV_len, hr.2.2.1]; exact Nat.le_refl _), bytesV_len, hr.2.2.1]
  rfl
theorem Rg.print_at (hr : r.ok) (h : w.rangeAt b o (r.cells vi)) : w.rangeAt b (o + 66) (bytesV r.print) := by
  have := rangeAt_sub h 66 32
  have e : ((r.cells vi).drop 66).take 32 = bytesV r.print := by
    rw [show (66 : Nat) = 64 + 2 from rfl, ← List.drop_drop, Rg.drop64 hr]
    show (bytesV r.print ++ [vi]).take 32 = _
    rw [List.take_append_of_le_length (by rw [bytesV_len, hr.2.2.1]; exact Nat.le_refl _), List.take_of_length_le (by rw [bytesV_len, hr.2.2.1]; exact Nat.le_refl _)]
  rwa [e] at this
end
theorem sizeRg : (Tryz.prog.info? 41).map (·.size) = some 99 := by kernel_rfl
set_option maxRecDepth 100000 in
set_option maxHeartbeats 1000000 in
theorem rc_open (r : Rg) (vi : Value) (hr : r.ok) (w : World) : Calls Tryz.prog 58 #[r.V vi] w fun e w' => e = .returned (.bool (openB r.high)) ∧ Below w.heap.size w w' := by
  have xb := Bx.new w (r.cells vi).toArray 41
  have hB := Below.one w (.cells (r.cells vi).toArray 41)
  have hx : (w.alloc (.cells (r.cells vi).toArray 41)).rangeAt w.heap.size 0 (r.cells vi) := by simpa using xb.range
  have Hh := Lib.hid (Rg.high_at hr hx)
  have Hl : Hid ((bytesV r.high).length = 32) := Lib.hid (by rw [bytesV_len, hr.2.1])
  have Hhl := Lib.hid hr.2.1
  obtain ⟨cs, hcs⟩ : ∃ cs, (r.cells vi).toArray = cs := ⟨_, rfl⟩
  unfold Rg.V
  rw [hcs] at Hh hB ⊢
  clear xb hx hcs
  go_enter Tryz.func58, Tryz.ntmps58
  go_wp2_with (first
    | (refine wpList_load_mid rfl 39 (.tmp 3) rfl w.heap.size 32 (by first | rfl | (simp)) (bytesV r.high) _ (by simpa using Hh.out) Tryz.underlying39 rfl (by rw [sizeDg, Hl.out]) ?_)
    | (refine wpList_value rfl (.bool (decide (r.high = zeroD))) (run_eql_dg _ (.tmp 4) (.tmp 5) rfl r.high zeroD Hhl.out rfl rfl rfl) ?_))
  go_ret
  exact ⟨rfl, hB⟩
set_option maxRecDepth 100000 in
set_option maxHeartbeats 1000000 in
theorem rf_zero (d : List UInt8) (hd : d.length = 32) (w : World) : Calls Tryz.prog 66 #[dgV d] w fun e w' => e = .returned (.bool (openB d)) ∧ Below w.heap.size w w' := by
  have xb := Bx.new w (bytesV d).toArray 39
  have hB := Below.one w (.cells (bytesV d).toArray 39)
  have Hh : Hid ((w.alloc (.cells (bytesV d).toArray 39)).rangeAt w.heap.size 0 (bytesV d)) := Lib.hid (by simpa using xb.range)
  have Hl : Hid ((bytesV d).length = 32) := Lib.hid (by rw [bytesV_len, hd])
  have Hd := Lib.hid hd
  obtain ⟨cs, hcs⟩ : ∃ cs, (bytesV d).toArray = cs := ⟨_, rfl⟩
  unfold dgV
  rw [hcs] at Hh hB ⊢
  clear xb hcs hd
  go_enter Tryz.func66, Tryz.ntmps66
  go_wp2_with (first
    | (refine wpList_load_mid rfl 39 (.tmp 1) rfl w.heap.size 0 rfl (bytesV d) _ Hh.out Tryz.underlying39 rfl (by rw [sizeDg, Hl.out]) ?_)
    | (refine wpList_value rfl (.bool (decide (d = zeroD))) (run_eql_dg _ (.tmp 3) (.tmp 4) rfl d zeroD Hd.out rfl rfl rfl) ?_))
  go_ret
  exact ⟨rfl, hB⟩
set_option maxRecDepth 100000 in
set_option maxHeartbeats 2000000 in
theorem rc_inside (r : Rg) (vi : Value) (hr : r.ok) (d : List UInt8) (hd : d.length = 32) (w : World) : Calls Tryz.prog 31 #[r.V vi, dgV d] w fun e w' => e = .returned (.bool (insB r.low r.high d)) ∧ Below w.heap.size w w' := by
  have xr := (Bx.new w (r.cells vi).toArray 41).alloc (.cells (bytesV d).toArray 39)
  have xd := Bx.newAt (w.alloc (.cells (r.cells vi).toArray 41)) (bytesV d).toArray 39 (w.heap.size + 1) (by simp)
  have hB1 : Below w.heap.size w ((w.alloc (.cells (r.cells vi).toArray 41)).alloc (.cells (bytesV d).toArray 39)) := (Below.one w _).alloc (by simp) _
  have hx : ((w.alloc (.cells (r.cells vi).toArray 41)).alloc (.cells (bytesV d).toArray 39)).rangeAt w.heap.size 0 (r.cells vi) := by simpa using xr.range
  have HR := Lib.hid hx
  have Hlow := Lib.hid (Rg.low_at hr hx)
  have Hhigh := Lib.hid (Rg.high_at hr hx)
  have HD : Hid (((w.alloc (.cells (r.cells vi).toArray 41)).alloc (.cells (bytesV d).toArray 39)).rangeAt (w.heap.size + 1) 0 (bytesV d)) := Lib.hid (by simpa using xd.range)
  have Hll : Hid ((bytesV r.low).length = 32) := Lib.hid (by rw [bytesV_len, hr.1])
  have Hhl : Hid ((bytesV r.high).length = 32) := Lib.hid (by rw [bytesV_len, hr.2.1])
  have Hdl : Hid ((bytesV d).length = 32) := Lib.hid (by rw [bytesV_len, hd])
  have Hrl := Lib.hid (Rg.len hr vi)
  have Hc1 := Lib.hid (fun W => sha_compare d r.low hd hr.1 W)
  have Hc2 := Lib.hid (fun W => sha_compare d r.high hd hr.2.1 W)
  have Hop := Lib.hid (fun W => rc_open r vi hr W)
  have lr := xr.lt
  have ld := xd.lt
  obtain ⟨cs, hcs⟩ : ∃ cs, (r.cells vi).toArray = cs := ⟨_, rfl⟩
  obtain ⟨cd, hcd⟩ : ∃ cs, (bytesV d).toArray = cs := ⟨_, rfl⟩
  have Hcs := Lib.hid hcs
  have Hcd := Lib.hid hcd
  unfold Rg.V dgV
  rw [hcs, hcd] at HR Hlow Hhigh HD hB1 lr ld ⊢
  clear xr xd hx hcs hcd hr hd
  go_enter Tryz.func31, Tryz.ntmps31
  cases hq : decide (0 ≤ cmpD d r.low)
  · have Hres : Hid (insB r.low r.high d = false) := Lib.hid (by unfold insB; rw [hq]; rfl)
    go_wp2_with (first
      | (refine wpList_load_mid rfl 39 (.tmp 3) rfl (w.heap.size + 1) 0 rfl (bytesV d) _ HD.out Tryz.underlying39 rfl (by rw [sizeDg, Hdl.out]) ?_)
      | (refine wpList_load_mid rfl 39 (.tmp 6) rfl w.heap.size 0 (by first | rfl | (simp)) (bytesV r.low) _ Hlow.out Tryz.underlying39 rfl (by rw [sizeDg, Hll.out]) ?_))
    refine (Hc1.out _).mono ?_
    rintro e w2 ⟨rfl, hb2⟩
    have hB2 := Below.then hB1 hb2 hB1.size
    go_wp2
    go_ret
    exact ⟨by rw [Hres.out]; rfl, hB2⟩
  · go_wp2_with (first
      | (refine wpList_load_mid rfl 39 (.tmp 3) rfl (w.heap.size + 1) 0 rfl (bytesV d) _ HD.out Tryz.underlying39 rfl (by rw [sizeDg, Hdl.out]) ?_)
      | (refine wpList_load_mid rfl 39 (.tmp 6) rfl w.heap.size 0 (by first | rfl | (simp)) (bytesV r.low) _ Hlow.out Tryz.underlying39 rfl (by rw [sizeDg, Hll.out]) ?_))
    refine (Hc1.out _).mono ?_
    rintro e w2 ⟨rfl, hb2⟩
    have hB2 := Below.then hB1 hb2 hB1.size
    have HR2 := Lib.hid (rangeAt_below HR.out hb2 lr)
    have Hh2 := Lib.hid (rangeAt_below Hhigh.out hb2 lr)
    have HD2 := Lib.hid (rangeAt_below HD.out hb2 ld)
    have lr2 : w.heap.size < w2.heap.size := Nat.lt_of_lt_of_le lr hb2.size
    have ld2 : w.heap.size + 1 < w2.heap.size := Nat.lt_of_lt_of_le ld hb2.size
    clear HR Hlow Hhigh HD lr ld hb2
    cases ho : openB r.high
    · cases hh : decide (cmpD d r.high < 0)
      · have Hres : Hid (insB r.low r.high d = false) := Lib.hid (by unfold insB; rw [hq, ho, hh]; rfl)
        go_wp2_with (refine wpList_load_want (by rfl) 41 (.tmp 2) rfl w.heap.size 0 rfl (r.cells vi) _ HR2.out Tryz.underlying41 rfl (by rw [sizeRg, Hrl.out]) ?_)
        refine (Hop.out _).mono ?_
        rintro e w3 ⟨rfl, hb3⟩
        rw [ho]
        have hB3 := Below.then hB2 hb3 hB2.size
        have Hh3 := Lib.hid (rangeAt_below Hh2.out hb3 lr2)
        have HD3 := Lib.hid (rangeAt_below HD2.out hb3 ld2)
        clear hb3
        go_wp2_with (first
          | (refine wpList_load_want (by rfl) 39 (.tmp 3) rfl (w.heap.size + 1) 0 rfl (bytesV d) _ HD3.out Tryz.underlying39 rfl (by rw [sizeDg, Hdl.out]) ?_)
          | (refine wpList_load_want (by rfl) 39 (.tmp 15) rfl w.heap.size 32 (by first | rfl | (simp)) (bytesV r.high) _ (by simpa using Hh3.out) Tryz.underlying39 rfl (by rw [sizeDg, Hhl.out]) ?_))
        refine (Hc2.out _).mono ?_
        rintro e w4 ⟨rfl, hb4⟩
        have hB4 := Below.then hB3 hb4 hB3.size
        go_wp2
        go_ret
        exact ⟨by rw [Hres.out]; rfl, hB4⟩
      · have Hres : Hid (insB r.low r.high d = true) := Lib.hid (by unfold insB; rw [hq, ho, hh]; rfl)
        go_wp2_with (refine wpList_load_want (by rfl) 41 (.tmp 2) rfl w.heap.size 0 rfl (r.cells vi) _ HR2.out Tryz.underlying41 rfl (by rw [sizeRg, Hrl.out]) ?_)
        refine (Hop.out _).mono ?_
        rintro e w3 ⟨rfl, hb3⟩
        rw [ho]
        have hB3 := Below.then hB2 hb3 hB2.size
        have Hh3 := Lib.hid (rangeAt_below Hh2.out hb3 lr2)
        have HD3 := Lib.hid (rangeAt_below HD2.out hb3 ld2)
        clear hb3
        go_wp2_with (first
          | (refine wpList_load_want (by rfl) 39 (.tmp 3) rfl (w.heap.size + 1) 0 rfl (bytesV d) _ HD3.out Tryz.underlying39 rfl (by rw [sizeDg, Hdl.out]) ?_)
          | (refine wpList_load_want (by rfl) 39 (.tmp 15) rfl w.heap.size 32 (by first | rfl | (simp)) (bytesV r.high) _ (by simpa using Hh3.out) Tryz.underlying39 rfl (by rw [sizeDg, Hhl.out]) ?_))
        refine (Hc2.out _).mono ?_
        rintro e w4 ⟨rfl, hb4⟩
        have hB4 := Below.then hB3 hb4 hB3.size
        go_wp2
        go_ret
        exact ⟨by rw [Hres.out]; rfl, hB4⟩
    · have Hres : Hid (insB r.low r.high d = true) := Lib.hid (by unfold insB; rw [hq, ho]; rfl)
      go_wp2_with (refine wpList_load_want (by rfl) 41 (.tmp 2) rfl w.heap.size 0 rfl (r.cells vi) _ HR2.out Tryz.underlying41 rfl (by rw [sizeRg, Hrl.out]) ?_)
      refine (Hop.out _).mono ?_
      rintro e w3 ⟨rfl, hb3⟩
      rw [ho]
      have hB3 := Below.then hB2 hb3 hB2.size
      go_wp2
      go_ret
      exact ⟨by rw [Hres.out]; rfl, hB3⟩
set_option maxRecDepth 100000 in
set_option maxHeartbeats 2000000 in
theorem rf_within (r : Rg) (vi : Value) (hr : r.ok) (d : List UInt8) (hd : d.length = 32) (w : World) : Calls Tryz.prog 67 #[r.V vi, dgV d] w fun e w' => e = .returned (.bool (insB r.low r.high d)) ∧ Below w.heap.size w w' := by
  have xr := (Bx.new w (r.cells vi).toArray 41).alloc (.cells (bytesV d).toArray 39)
  have xd := Bx.newAt (w.alloc (.cells (r.cells vi).toArray 41)) (bytesV d).toArray 39 (w.heap.size + 1) (by simp)
  have hB1 : Below w.heap.size w ((w.alloc (.cells (r.cells vi).toArray 41)).alloc (.cells (bytesV d).toArray 39)) := (Below.one w _).alloc (by simp) _
  have hx : ((w.alloc (.cells (r.cells vi).toArray 41)).alloc (.cells (bytesV d).toArray 39)).rangeAt w.heap.size 0 (r.cells vi) := by simpa using xr.range
  have HR := Lib.hid hx
  have Hlow := Lib.hid (Rg.low_at hr hx)
  have Hhigh := Lib.hid (Rg.high_at hr hx)
  have HD : Hid (((w.alloc (.cells (r.cells vi).toArray 41)).alloc (.cells (bytesV d).toArray 39)).rangeAt (w.heap.size + 1) 0 (bytesV d)) := Lib.hid (by simpa using xd.range)
  have Hll : Hid ((bytesV r.low).length = 32) := Lib.hid (by rw [bytesV_len, hr.1])
  have Hhl : Hid ((bytesV r.high).length = 32) := Lib.hid (by rw [bytesV_len, hr.2.1])
  have Hdl : Hid ((bytesV d).length = 32) := Lib.hid (by rw [bytesV_len, hd])
  have Hrl := Lib.hid (Rg.len hr vi)
  have Hc1 := Lib.hid (fun W => ref02_compare d r.low hd hr.1 W)
  have Hc2 := Lib.hid (fun W => ref02_compare d r.high hd hr.2.1 W)
  have Hop := Lib.hid (fun W => rf_zero r.high hr.2.1 W)
  have lr := xr.lt
  have ld := xd.lt
  obtain ⟨cs, hcs⟩ : ∃ cs, (r.cells vi).toArray = cs := ⟨_, rfl⟩
  obtain ⟨cd, hcd⟩ : ∃ cs, (bytesV d).toArray = cs := ⟨_, rfl⟩
  have Hcs := Lib.hid hcs
  have Hcd := Lib.hid hcd
  unfold Rg.V dgV
  rw [hcs, hcd] at HR Hlow Hhigh HD hB1 lr ld ⊢
  clear xr xd hx hcs hcd hr hd
  go_enter Tryz.func67, Tryz.ntmps67
  cases hq : decide (0 ≤ cmpD d r.low)
  · have Hres : Hid (insB r.low r.high d = false) := Lib.hid (by unfold insB; rw [hq]; rfl)
    go_wp2_with (first
      | (refine wpList_load_mid rfl 39 (.tmp 3) rfl (w.heap.size + 1) 0 rfl (bytesV d) _ HD.out Tryz.underlying39 rfl (by rw [sizeDg, Hdl.out]) ?_)
      | (refine wpList_load_mid rfl 39 (.tmp 6) rfl w.heap.size 0 (by first | rfl | (simp)) (bytesV r.low) _ Hlow.out Tryz.underlying39 rfl (by rw [sizeDg, Hll.out]) ?_))
    refine (Hc1.out _).mono ?_
    rintro e w2 ⟨rfl, hb2⟩
    have hB2 := Below.then hB1 hb2 hB1.size
    go_wp2
    go_ret
    exact ⟨by rw [Hres.out]; rfl, hB2⟩
  · go_wp2_with (first
      | (refine wpList_load_mid rfl 39 (.tmp 3) rfl (w.heap.size + 1) 0 rfl (bytesV d) _ HD.out Tryz.underlying39 rfl (by rw [sizeDg, Hdl.out]) ?_)
      | (refine wpList_load_mid rfl 39 (.tmp 6) rfl w.heap.size 0 (by first | rfl | (simp)) (bytesV r.low) _ Hlow.out Tryz.underlying39 rfl (by rw [sizeDg, Hll.out]) ?_))
    refine (Hc1.out _).mono ?_
    rintro e w2 ⟨rfl, hb2⟩
    have hB2 := Below.then hB1 hb2 hB1.size
    have HR2 := Lib.hid (rangeAt_below HR.out hb2 lr)
    have Hh2 := Lib.hid (rangeAt_below Hhigh.out hb2 lr)
    have HD2 := Lib.hid (rangeAt_below HD.out hb2 ld)
    have lr2 : w.heap.size < w2.heap.size := Nat.lt_of_lt_of_le lr hb2.size
    have ld2 : w.heap.size + 1 < w2.heap.size := Nat.lt_of_lt_of_le ld hb2.size
    clear HR Hlow Hhigh HD lr ld hb2
    cases ho : openB r.high
    · cases hh : decide (cmpD d r.high < 0)
      · have Hres : Hid (insB r.low r.high d = false) := Lib.hid (by unfold insB; rw [hq, ho, hh]; rfl)
        go_wp2_with (refine wpList_load_want (by rfl) 39 (.tmp 11) rfl w.heap.size 32 (by first | rfl | (simp)) (bytesV r.high) _ (by simpa using Hh2.out) Tryz.underlying39 rfl (by rw [sizeDg, Hhl.out]) ?_)
        refine (Hop.out _).mono ?_
        rintro e w3 ⟨rfl, hb3⟩
        rw [ho]
        have hB3 := Below.then hB2 hb3 hB2.size
        have Hh3 := Lib.hid (rangeAt_below Hh2.out hb3 lr2)
        have HD3 := Lib.hid (rangeAt_below HD2.out hb3 ld2)
        clear hb3
        go_wp2_with (first
          | (refine wpList_load_want (by rfl) 39 (.tmp 3) rfl (w.heap.size + 1) 0 rfl (bytesV d) _ HD3.out Tryz.underlying39 rfl (by rw [sizeDg, Hdl.out]) ?_)
          | (refine wpList_load_want (by rfl) 39 (.tmp 16) rfl w.heap.size 32 (by first | rfl | (simp)) (bytesV r.high) _ (by simpa using Hh3.out) Tryz.underlying39 rfl (by rw [sizeDg, Hhl.out]) ?_))
        refine (Hc2.out _).mono ?_
        rintro e w4 ⟨rfl, hb4⟩
        have hB4 := Below.then hB3 hb4 hB3.size
        go_wp2
        go_ret
        exact ⟨by rw [Hres.out]; rfl, hB4⟩
      · have Hres : Hid (insB r.low r.high d = true) := Lib.hid (by unfold insB; rw [hq, ho, hh]; rfl)
        go_wp2_with (refine wpList_load_want (by rfl) 39 (.tmp 11) rfl w.heap.size 32 (by first | rfl | (simp)) (bytesV r.high) _ (by simpa using Hh2.out) Tryz.underlying39 rfl (by rw [sizeDg, Hhl.out]) ?_)
        refine (Hop.out _).mono ?_
        rintro e w3 ⟨rfl, hb3⟩
        rw [ho]
        have hB3 := Below.then hB2 hb3 hB2.size
        have Hh3 := Lib.hid (rangeAt_below Hh2.out hb3 lr2)
        have HD3 := Lib.hid (rangeAt_below HD2.out hb3 ld2)
        clear hb3
        go_wp2_with (first
          | (refine wpList_load_want (by rfl) 39 (.tmp 3) rfl (w.heap.size + 1) 0 rfl (bytesV d) _ HD3.out Tryz.underlying39 rfl (by rw [sizeDg, Hdl.out]) ?_)
          | (refine wpList_load_want (by rfl) 39 (.tmp 16) rfl w.heap.size 32 (by first | rfl | (simp)) (bytesV r.high) _ (by simpa using Hh3.out) Tryz.underlying39 rfl (by rw [sizeDg, Hhl.out]) ?_))
        refine (Hc2.out _).mono ?_
        rintro e w4 ⟨rfl, hb4⟩
        have hB4 := Below.then hB3 hb4 hB3.size
        go_wp2
        go_ret
        exact ⟨by rw [Hres.out]; rfl, hB4⟩
    · have Hres : Hid (insB r.low r.high d = true) := Lib.hid (by unfold insB; rw [hq, ho]; rfl)
      go_wp2_with (refine wpList_load_want (by rfl) 39 (.tmp 11) rfl w.heap.size 32 (by first | rfl | (simp)) (bytesV r.high) _ (by simpa using Hh2.out) Tryz.underlying39 rfl (by rw [sizeDg, Hhl.out]) ?_)
      refine (Hop.out _).mono ?_
      rintro e w3 ⟨rfl, hb3⟩
      rw [ho]
      have hB3 := Below.then hB2 hb3 hB2.size
      go_wp2
      go_ret
      exact ⟨by rw [Hres.out]; rfl, hB3⟩
end Go.Proofs.YtebgopdmeghmhaaGreat
namespace Go.Proofs.YtebgopdmeghmhaaGreat
open Go.RowKit

def rgsC (l : List Rg) (vs : List Value) : List (List Value) := List.zipWith (fun r v => r.cells v) l vs
def RgsR (S : Nat → Prop) (w : World) (v : Value) (l : List Rg) : Prop :=
  ∃ (o : Option Addr) (c : Nat) (vs : List Value), v = .slice o l.length c ∧ SlW o l.length c ∧ vs.length = l.length ∧ RowAt S w o (rgsC l vs).flatten ∧ (∀ i (h : i < l.length), DigR S w (vs.getD i (.slice none 0 0)) l[i].ids) ∧ (∀ r ∈ l, r.ok)
theorem rgsC_size {l : List Rg} {vs : List Value} (h : vs.length = l.length) : (rgsC l vs).length = l.length := by
  unfold rgsC
  rw [List.length_zipWith, h, Nat.min_self]
theorem rgsC_get {l : List Rg} {vs : List Value} {i : Nat} (hi : i < l.length) (h : vs.length = l.length) : (rgsC l vs)[i]? = some (l[i].cells (vs.getD i (.slice none 0 0))) := by
  unfold rgsC
  have hv : i < vs.length := by omega
  rw [List.getElem?_zipWith, List.getElem?_eq_getElem hi, List.getElem?_eq_getElem hv, List.getD_eq_getElem?_getD, List.getElem?_eq_getElem hv]
  rfl
theorem rgsC_len {l : List Rg} {vs : List Value} (hok : ∀ r ∈ l, r.ok) : ∀ x ∈ rgsC l vs, x.length = 99 := by
  intro x hx
  obtain ⟨i, hi, rfl⟩ := List.mem_iff_getElem.1 hx
  simp only [rgsC, List.length_zipWith] at hi
  simp only [rgsC, List.getElem_zipWith]
  exact Rg.len (hok _ (List.getElem_mem _)) _
section
variable {S T : Nat → Prop} {w w' : World} {v : Value} {l : List Rg}
theorem RgsR.below (h : RgsR S w v l) (hb : Below w.heap.size w w') : RgsR S w' v l := by
  obtain ⟨o, c, vs, e, hs, hv, hr, hd, hok⟩ := h
  exact ⟨o, c, vs, e, hs, hv, hr.below hb, fun i hi => (hd i hi).below hb, hok⟩
theorem RgsR.mono (h : RgsR S w v l) (hT : ∀ b, S b → T b) : RgsR T w v l := by
  obtain ⟨o, c, vs, e, hs, hv, hr, hd, hok⟩ := h
  exact ⟨o, c, vs, e, hs, hv, hr.mono hT, fun i hi => (hd i hi).mono hT, hok⟩
theorem RgsR.ok (h : RgsR S w v l) : ∀ r ∈ l, r.ok := by
  obtain ⟨_, _, _, _, _, _, _, _, hok⟩ := h
  exact hok
theorem RgsR.slice (h : RgsR S w v l) : ∃ o c, v = .slice o l.length c := by
  obtain ⟨o, c, _, e, _⟩ := h
  exact ⟨o, c, e⟩
/-- what an index into a list of ranges meets -/
theorem RgsR.at (h : RgsR S w v l) {i : Nat} (hi : i < l.length) :
    ∃ b off c vi, v = .slice (some ⟨b, off, none⟩) l.length c ∧ l.length ≤ c ∧ c ≤ maxLen ∧ S b ∧ b < w.heap.size ∧ w.rangeAt b (off + i * 99) (l[i].cells vi) ∧ DigR S w vi l[i].ids ∧ l[i].ok := by
  obtain ⟨o, c, vs, e, hs, hv, hr, hd, hok⟩ := h
  have hL := rgsC_len (vs := vs) hok
  have hsz := rgsC_size hv
  have hl : 0 < (rgsC l vs).flatten.length := by rw [flat_len hL, hsz]; omega
  obtain ⟨b, off, rfl, hS, hb⟩ := hr.blk hl
  have hseg := hr.seg hL (i := i) (by rw [hsz]; exact hi)
  have hg := rgsC_get hi hv
  rw [List.getElem?_eq_getElem (by rw [hsz]; exact hi)] at hg
  rw [Option.some.inj hg] at hseg
  refine ⟨b, off, c, _, e, ?_, ?_, hS, hb, hseg, hd i hi, hok _ (List.getElem_mem hi)⟩
  · rcases hs with ⟨h, _⟩ | ⟨_, _, h1, _⟩
    · cases h
    · exact h1
  · rcases hs with ⟨h, _⟩ | ⟨_, _, _, h2⟩
    · cases h
    · exact h2
theorem RgsR.nil (S : Nat → Prop) (w : World) : RgsR S w (.slice none 0 0) [] := ⟨none, 0, [], rfl, .inl ⟨rfl, rfl, rfl⟩, rfl, RowAt.nil _ _ _, fun i h => absurd h (Nat.not_lt_zero _), fun _ h => by cases h⟩
end
end Go.Proofs.YtebgopdmeghmhaaGreat
namespace Go.Proofs.YtebgopdmeghmhaaGreat
open Go.RowKit

section
variable {P : Program}
theorem run_append_ownK (w : World) (base : Nat) (t ty e : TypeId) (i : TypeInfo) (z : Value) (size bytes : Nat) (ht : P.underlying t = some (.slice e)) (hi : P.info? e = some i) (hz : i.zero = some z)
    (hsize : i.size = size) (hby : i.bytes = bytes) (hzs : z.cells.size = size) (hsz : 0 < size)
    (v : Value) (n : Nat) (xs : List Value) (hown : w.ownsRow base e size v n xs)
    (a : Addr) (m c : Nat) (news : List Value) (hl : news.length = m * size) (hnews : ∀ j u, news[j]? = some u → w.cell? (a.add j) = some u) (h1 : ∀ u ∈ news, u.oneCell' = true)
    (h63 : n + m ≤ maxLen) (hbytes : (n + m) * bytes ≤ 140737488355328) (hbase : base ≤ w.heap.size) :
    ∃ v' w', (Builtin.append_ #[t, t] ty #[v, .slice (some a) m c]).run P w = .ok v' w' ∧ w'.ownsRow base e size v' (n + m) (xs ++ news) ∧ w.grownBy w' v.ownBlock ∧
      (∀ k, v'.ownBlock = some k → v.ownBlock = some k ∨ k = w.heap.size) := by
  by_cases hm : 0 < m
  · exact run_append_ownB w base t ty e i z size bytes ht hi hz hsize hby hzs hsz v n xs hown a m c hm news hl hnews h1 h63 hbytes hbase
  · obtain rfl : m = 0 := by omega
    obtain ⟨v', w', hr, h2, h3, h4⟩ := run_append_own (P := P) w base t ty e i z size bytes ht hi hz hsize hby hzs hsz v n xs hown a 0 c news hl hnews h1 h63 hbytes hbase
    refine ⟨v', w', hr, h2, h3, ?_⟩
    subst hsize
    rcases hown.2 with ⟨rfl, rfl⟩ | ⟨g, cap, cur, rfl, hbg, hg, hnc, hcm, hcs, htake⟩
    · rw [h4.2 ⟨rfl, rfl⟩]
      intro k hk
      cases hk
    · have hfit : n * i.size + news.length ≤ cur.size := by
        rw [hl, hcs, ← Nat.add_mul]
        exact Nat.mul_le_mul_right _ (by omega)
      have hr2 := run_append_room (P := P) w t ty e i ht hi g n cap cur hg a 0 c news hl hnews h1 (by omega) hfit
      rw [hr2] at hr
      injection hr with e1 e2
      subst e1
      exact fun k hk => .inl hk
variable {S : Nat → Prop} {ops : Array Oper} {rest : List Oper} {o : Oper} {a : Act} {Q : Exit → Act → World → Prop} {w : World}
/-- 'append(s, x...)': s of the call's own, x whatever: the block told -/
theorem wp_appK {K : Act → World → Prop} (s x : Operand) (t : TypeId)
    (hop : o.op = Op.call { callee := Callee.builtin Builtin.append, args := #[s, x], argTypes := #[t, t] })
    (base : Nat) (e : TypeId) (i : TypeInfo) (z : Value) (size bytes : Nat) (ht : P.underlying t = some (.slice e)) (hi : P.info? e = some i) (hz : i.zero = some z)
    (hsize : i.size = size) (hby : i.bytes = bytes) (hzs : z.cells.size = size) (hsz : 0 < size)
    (v : Value) (n : Nat) (xs : List Value) (hs : a.eval s = v) (hown : w.ownsRow base e size v n xs)
    (ao : Option Addr) (m c : Nat) (news : List Value) (hx : a.eval x = .slice ao m c) (hnone : ao = none → m = 0 ∧ c = 0) (hl : news.length = m * size) (hnews : RowAt S w ao news) (h1 : ∀ u ∈ news, u.oneCell' = true)
    (h63 : n + m ≤ maxLen) (hbytes : (n + m) * bytes ≤ 140737488355328) (hbase : base ≤ w.heap.size)
    (hK : ∀ v' w', w'.ownsRow base e size v' (n + m) (xs ++ news) → w.grownBy w' v.ownBlock → (∀ k, v'.ownBlock = some k → v.ownBlock = some k ∨ k = w.heap.size) → K (a.put o.dst v') w') :
    o.wp P a w K Q := by
  cases ao with
  | some ad =>
    obtain ⟨v', w', hr, h2, h3, h4⟩ := run_append_ownK (P := P) w base t o.type e i z size bytes ht hi hz hsize hby hzs hsz v n xs hown ad m c news hl (hnews.src ad rfl) h1 h63 hbytes hbase
    unfold Oper.wp execOp
    simp only [hop, resolve, invoke, builtin, Sem.run_bind, Sem.run_pure, Result.andThen_ok, List.map_toArray, List.map_cons, List.map_nil, hs, hx, hr]
    exact hK v' w' h2 h3 h4
  | none =>
    obtain ⟨rfl, rfl⟩ := hnone rfl
    have hnews : news = [] := List.eq_nil_of_length_eq_zero (by simpa using hl)
    subst hnews
    have hrun := run_append_owned_none (P := P) w base t o.type e i size ht hi v n xs hown
    unfold Oper.wp
    simp [execOp, hop, resolve, invoke, builtin, hs, hx, hrun, Result.andThen]
    exact hK _ _ (by simpa using hown) (World.grownBy.refl _ _) fun k hk => .inl hk
theorem wpList_appK (hgd : o.guard = none) (s x : Operand) (t : TypeId)
    (hop : o.op = Op.call { callee := Callee.builtin Builtin.append, args := #[s, x], argTypes := #[t, t] })
    (base : Nat) (e : TypeId) (i : TypeInfo) (z : Value) (size bytes : Nat) (ht : P.underlying t = some (.slice e)) (hi : P.info? e = some i) (hz : i.zero = some z)
    (hsize : i.size = size) (hby : i.bytes = bytes) (hzs : z.cells.size = size) (hsz : 0 < size)
    (v : Value) (n : Nat) (xs : List Value) (hs : a.eval s = v) (hown : w.ownsRow base e size v n xs)
    (ao : Option Addr) (m c : Nat) (news : List Value) (hx : a.eval x = .slice ao m c) (hnone : ao = none → m = 0 ∧ c = 0) (hl : news.length = m * size) (hnews : RowAt S w ao news) (h1 : ∀ u ∈ news, u.oneCell' = true)
    (h63 : n + m ≤ maxLen) (hbytes : (n + m) * bytes ≤ 140737488355328) (hbase : base ≤ w.heap.size)
    (hK : ∀ v' w', w'.ownsRow base e size v' (n + m) (xs ++ news) → w.grownBy w' v.ownBlock → (∀ k, v'.ownBlock = some k → v.ownBlock = some k ∨ k = w.heap.size) → wpList P ops Q rest (a.put o.dst v') w') :
    wpList P ops Q (o :: rest) a w :=
  wpList_plain hgd fun _ hK' => wp_appK s x t hop base e i z size bytes ht hi hz hsize hby hzs hsz v n xs hs hown ao m c news hx hnone hl hnews h1 h63 hbytes hbase fun v' w' h2 h3 h4 => hK' _ _ (hK v' w' h2 h3 h4)
end

/-- made since -/
def New (w w' : World) (b : Nat) : Prop := w.heap.size ≤ b ∧ b < w'.heap.size
/-- blocks from base on, none of them a row that is written -/
def Far (base : Nat) (vr vw vg : Value) (b : Nat) : Prop := base ≤ b ∧ vr.ownBlock ≠ some b ∧ vw.ownBlock ≠ some b ∧ vg.ownBlock ≠ some b
/-- the ranges -/
def RgO (w : World) (base : Nat) (F : Nat → Prop) (vr : Value) (R : List Rg) : Prop :=
  ∃ vs, vs.length = R.length ∧ w.ownsRow base 41 99 vr R.length (rgsC R vs).flatten ∧ (∀ i (h : i < R.length), DigR F w (vs.getD i (.slice none 0 0)) R[i].ids) ∧ ∀ r ∈ R, r.ok
def DgO (w : World) (base : Nat) (v : Value) (l : List (List UInt8)) : Prop := w.ownsRow base 39 32 v l.length (digC l).flatten ∧ Dok l
structure Acc (w : World) (base : Nat) (vr vw vg : Value) (R : List Rg) (W G : List (List UInt8)) : Prop where
  rs : RgO w base (Far base vr vw vg) vr R
  ws : DgO w base vw W
  gs : DgO w base vg G
  ne : ∀ b, vw.ownBlock = some b → vg.ownBlock ≠ some b
section
variable {w w' : World} {base : Nat} {vr vw vg v : Value} {R : List Rg} {W G l : List (List UInt8)}
theorem DgO.below (h : DgO w base v l) (hb : Below w.heap.size w w') : DgO w' base v l := ⟨ownsRow_belowAll h.1 hb, h.2⟩
theorem DgO.lt (h : DgO w base v l) {b : Nat} (hb : v.ownBlock = some b) : base ≤ b ∧ b < w.heap.size := h.1.lt b hb
theorem DgO.kept {row : Option Nat} (h : DgO w base v l) (hg : w.grownBy w' row) (hne : ∀ b, row = some b → v.ownBlock ≠ some b) : DgO w' base v l := by
  refine ⟨h.1.kept hg ?_, h.2⟩
  cases hv : v.ownBlock with
  | none => exact .inl rfl
  | some b => exact .inr fun e => hne b e.symm hv
theorem DgO.lower (h : DgO w base v l) {b : Nat} (hb : b ≤ base) : DgO w b v l := ⟨ownsRow_lower h.1 hb, h.2⟩
theorem DgO.dig (h : DgO w base v l) : DigR (fun b => base ≤ b ∧ b < w.heap.size) w v l := DigR.owns h.1 h.2
theorem DgO.nil (w : World) (base : Nat) : DgO w base (.slice none 0 0) [] := ⟨World.ownsRow_nil _ _ _ _, fun _ h => by cases h⟩
theorem RgO.below {F : Nat → Prop} (h : RgO w base F v R) (hb : Below w.heap.size w w') : RgO w' base F v R := by
  obtain ⟨vs, h1, h2, h3, h4⟩ := h
  exact ⟨vs, h1, ownsRow_belowAll h2 hb, fun i hi => (h3 i hi).below hb, h4⟩
theorem RgO.lt {F : Nat → Prop} (h : RgO w base F v R) {b : Nat} (hb : v.ownBlock = some b) : base ≤ b ∧ b < w.heap.size := by
  obtain ⟨vs, _, h2, _⟩ := h
  exact h2.lt b hb
theorem RgO.rgs {F : Nat → Prop} (h : RgO w base F v R) : RgsR (fun b => (base ≤ b ∧ b < w.heap.size) ∨ F b) w v R := by
  obtain ⟨vs, h1, h2, h3, h4⟩ := h
  obtain ⟨o, c, e, hs, hr, _⟩ := ownsRow_at h2
  exact ⟨o, c, vs, e, hs, h1, hr.mono fun b hb => .inl hb, fun i hi => (h3 i hi).mono fun b hb => .inr hb, h4⟩
theorem Acc.below (h : Acc w base vr vw vg R W G) (hb : Below w.heap.size w w') : Acc w' base vr vw vg R W G := ⟨h.rs.below hb, h.ws.below hb, h.gs.below hb, h.ne⟩
/-- rows of ranges and of digests are different rows -/
theorem Acc.ne_r (h : Acc w base vr vw vg R W G) {b : Nat} (hb : vr.ownBlock = some b) : vw.ownBlock ≠ some b ∧ vg.ownBlock ≠ some b := by
  obtain ⟨vs, _, h2, _⟩ := h.rs
  have key : ∀ {v : Value} {l : List (List UInt8)}, DgO w base v l → v.ownBlock ≠ some b := by
    intro v l hv e
    rcases h2.2 with ⟨rfl, _⟩ | ⟨g, cap, cur, rfl, _, hg, _⟩
    · cases hb
    · rcases hv.1.2 with ⟨rfl, _⟩ | ⟨g', cap', cur', rfl, _, hg', _⟩
      · cases e
      · obtain rfl : g = b := Option.some.inj hb
        obtain rfl : g' = g := Option.some.inj e
        rw [hg] at hg'
        injection hg' with e1
        injection e1 with _ e2
        exact absurd e2 (by decide)
  exact ⟨key h.ws, key h.gs⟩
/-- a store into a block that none of them holds -/
theorem Acc.set (h : Acc w base vr vw vg R W G) {g k : Nat} (hg : g < base) (u : Value) : Acc (w.setCell ⟨g, k, none⟩ u) base vr vw vg R W G := by
  have hgr : w.grownBy (w.setCell ⟨g, k, none⟩ u) (some g) := ⟨rfl, rfl, rfl, by simp, fun j _ hj => Below.heap_setCell w ⟨g, k, none⟩ u j fun e => hj (by rw [e])⟩
  obtain ⟨vs, h1, h2, h3, h4⟩ := h.rs
  refine ⟨⟨vs, h1, ownsRow_setB h2 hg u, fun i hi => (h3 i hi).same fun b hb => Below.heap_setCell w ⟨g, k, none⟩ u b fun e => ?_, h4⟩, h.ws.kept hgr fun b e e2 => ?_, h.gs.kept hgr fun b e e2 => ?_, h.ne⟩
  · have := hb.1; simp only at e; omega
  · have := (h.ws.lt e2).1; obtain rfl := Option.some.inj e; omega
  · have := (h.gs.lt e2).1; obtain rfl := Option.some.inj e; omega
/-- rows elsewhere stay while a row of one's own grows -/
theorem DigR.far {w w' : World} {F : Nat → Prop} {row : Option Nat} {v : Value} {l : List (List UInt8)} (h : DigR F w v l) (hg : w.grownBy w' row) (hF : ∀ b, row = some b → ¬ F b) : DigR F w' v l := by
  obtain ⟨⟨o, c, e, hs, hr⟩, hok⟩ := h
  refine ⟨⟨o, c, e, hs, ?_⟩, hok⟩
  intro j hj
  obtain ⟨b, off, ho, hc, hS⟩ := hr j hj
  exact ⟨b, off, ho, hg.cell hc fun e => hF b e.symm hS, hS⟩
/-- a row of digests stays, told apart from a new block -/
theorem DigR.lt {F : Nat → Prop} (h : DigR F w v l) : DigR (fun b => F b ∧ b < w.heap.size) w v l := by
  obtain ⟨⟨o, c, e, hs, hr⟩, hok⟩ := h
  refine ⟨⟨o, c, e, hs, ?_⟩, hok⟩
  intro j hj
  obtain ⟨b, off, ho, hc, hS⟩ := hr j hj
  exact ⟨b, off, ho, hc, hS, World.block_lt_of_cell? w _ hc⟩
theorem RgO.far {F F' : Nat → Prop} {row : Option Nat} (h : RgO w base F v R) (hg : w.grownBy w' row) (hv : ∀ b, row = some b → v.ownBlock ≠ some b) (hF : ∀ b, row = some b → ¬ F b) (hF' : ∀ b, F b → b < w.heap.size → F' b) : RgO w' base F' v R := by
  obtain ⟨vs, h1, h2, h3, h4⟩ := h
  refine ⟨vs, h1, h2.kept hg ?_, fun i hi => ((h3 i hi).lt.far hg fun b e hb => hF b e hb.1).mono fun b hb => hF' b hb.1 hb.2, h4⟩
  cases hv' : v.ownBlock with
  | none => exact .inl rfl
  | some b => exact .inr fun e => hv b e.symm hv'
theorem Acc.addW {v' : Value} {X : List (List UInt8)} (h : Acc w base vr vw vg R W G) (ho : w'.ownsRow base 39 32 v' (W.length + X.length) ((digC W).flatten ++ (digC X).flatten)) (hX : Dok X)
    (hg : w.grownBy w' vw.ownBlock) (hk : ∀ k, v'.ownBlock = some k → vw.ownBlock = some k ∨ k = w.heap.size) : Acc w' base vr v' vg R (W ++ X) G := by
  refine ⟨h.rs.far hg (fun b e e2 => (h.ne_r e2).1 e) (fun b e hF => hF.2.2.1 e) fun b hF hlt => ⟨hF.1, hF.2.1, fun e => ?_, hF.2.2.2⟩, ⟨by rw [List.length_append, digC_app]; exact ho, fun x hx => (List.mem_append.1 hx).elim (h.ws.2 x) (hX x)⟩, h.gs.kept hg fun b e => h.ne b e, fun b e e2 => ?_⟩
  · rcases hk b e with h1 | h1
    · exact hF.2.2.1 h1
    · omega
  · rcases hk b e with h1 | h1
    · exact h.ne b h1 e2
    · have := (h.gs.lt e2).2; omega
theorem Acc.addG {v' : Value} {X : List (List UInt8)} (h : Acc w base vr vw vg R W G) (ho : w'.ownsRow base 39 32 v' (G.length + X.length) ((digC G).flatten ++ (digC X).flatten)) (hX : Dok X)
    (hg : w.grownBy w' vg.ownBlock) (hk : ∀ k, v'.ownBlock = some k → vg.ownBlock = some k ∨ k = w.heap.size) : Acc w' base vr vw v' R W (G ++ X) := by
  refine ⟨h.rs.far hg (fun b e e2 => (h.ne_r e2).2 e) (fun b e hF => hF.2.2.2 e) fun b hF hlt => ⟨hF.1, hF.2.1, hF.2.2.1, fun e => ?_⟩, h.ws.kept hg fun b e e2 => h.ne b e2 e, ⟨by rw [List.length_append, digC_app]; exact ho, fun x hx => (List.mem_append.1 hx).elim (h.gs.2 x) (hX x)⟩, fun b e e2 => ?_⟩
  · rcases hk b e with h1 | h1
    · exact hF.2.2.2 h1
    · omega
  · rcases hk b e2 with h1 | h1
    · exact h.ne b e h1
    · have := (h.ws.lt e).2; omega
theorem rgsC_app {R X : List Rg} {vs xs : List Value} (h : vs.length = R.length) : (rgsC (R ++ X) (vs ++ xs)).flatten = (rgsC R vs).flatten ++ (rgsC X xs).flatten := by
  unfold rgsC
  rw [List.zipWith_append h.symm, List.flatten_append]
theorem Acc.addR {v' : Value} {X : List Rg} {xs vs : List Value} (h : Acc w base vr vw vg R W G) (hvs : vs.length = R.length) (hd : ∀ i (h : i < R.length), DigR (Far base vr vw vg) w (vs.getD i (.slice none 0 0)) R[i].ids)
    (ho : w'.ownsRow base 41 99 v' (R.length + X.length) ((rgsC R vs).flatten ++ (rgsC X xs).flatten)) (hX : ∀ r ∈ X, r.ok) (hxs : xs.length = X.length)
    (hdx : ∀ i (h : i < X.length), DigR (Far base vr vw vg) w (xs.getD i (.slice none 0 0)) X[i].ids)
    (hg : w.grownBy w' vr.ownBlock) (hk : ∀ k, v'.ownBlock = some k → vr.ownBlock = some k ∨ k = w.heap.size) : Acc w' base v' vw vg (R ++ X) W G := by
  have up : ∀ {v : Value} {l : List (List UInt8)}, DigR (Far base vr vw vg) w v l → DigR (Far base v' vw vg) w' v l := fun hv => (hv.lt.far hg fun b e hb => hb.1.2.1 e).mono fun b hb => ⟨hb.1.1, fun e => by
    rcases hk b e with h1 | h1
    · exact hb.1.2.1 h1
    · have := hb.2; omega, hb.1.2.2⟩
  refine ⟨⟨vs ++ xs, by rw [List.length_append, List.length_append, hvs, hxs], by rw [List.length_append, rgsC_app hvs]; exact ho, fun i hi => ?_, fun r hr => (List.mem_append.1 hr).elim (fun h1 => ?_) (hX r)⟩, h.ws.kept hg fun b e => (h.ne_r e).1, h.gs.kept hg fun b e => (h.ne_r e).2, h.ne⟩
  · rw [List.length_append] at hi
    by_cases hlt : i < R.length
    · rw [List.getElem_append_left hlt, List.getD_eq_getElem?_getD, List.getElem?_append_left (by omega), ← List.getD_eq_getElem?_getD]
      exact up (hd i hlt)
    · rw [List.getElem_append_right (by omega), List.getD_eq_getElem?_getD, List.getElem?_append_right (by omega), ← List.getD_eq_getElem?_getD, hvs]
      exact up (hdx (i - R.length) (by omega))
  · obtain ⟨_, _, _, _, h4⟩ := h.rs
    exact h4 r h1
theorem Acc.start (w : World) (base : Nat) : Acc w base (.slice none 0 0) (.slice none 0 0) (.slice none 0 0) [] [] [] :=
  ⟨⟨[], rfl, World.ownsRow_nil _ _ _ _, (fun i h => absurd h (Nat.not_lt_zero _)), fun _ h => by cases h⟩, DgO.nil w base, DgO.nil w base, fun b h => by cases h⟩
end
end Go.Proofs.YtebgopdmeghmhaaGreat
