/- quiltref48.In and Without. -/
import Derived.Test.YtebgopdmeghmhaaGreatRcAcc
namespace Go.Proofs.YtebgopdmeghmhaaGreat
open Go.RowKit

set_option maxRecDepth 100000 in
set_option maxHeartbeats 2000000 in
theorem rf_In {S : Nat → Prop} (w : World) (v : Value) (l : List (List UInt8)) (d : List UInt8) (h : DigR S w v l) (hd : d.length = 32) (hm : l.length ≤ 1000000) :
    Calls Tryz.prog 68 #[v, dgV d] w fun e w' => e = .returned (.bool (decide (d ∈ l))) ∧ Below w.heap.size w w' := by
  obtain ⟨o, c, rfl⟩ : ∃ o c, v = .slice o l.length c := by obtain ⟨⟨o, c, e, _⟩, _⟩ := h; rw [digC_size] at e; exact ⟨o, c, e⟩
  have xd := Bx.new w (bytesV d).toArray 39
  have hB1 : Below w.heap.size w (w.alloc (.cells (bytesV d).toArray 39)) := Below.one w _
  have HX : Hid ((w.alloc (.cells (bytesV d).toArray 39)).rangeAt w.heap.size 0 (bytesV d)) := Lib.hid (by simpa using xd.range)
  have HD := Lib.hid (h.below hB1)
  have Hdl : Hid ((bytesV d).length = 32) := Lib.hid (by rw [bytesV_len, hd])
  have Hd := Lib.hid hd
  have lX := xd.lt
  obtain ⟨n, hln⟩ : ∃ n, l.length = n := ⟨_, rfl⟩
  have Hn := Lib.hid hln
  obtain ⟨cd, hcd⟩ : ∃ c, (bytesV d).toArray = c := ⟨_, rfl⟩
  unfold dgV
  rw [hcd] at HX HD hB1 lX ⊢
  rw [hln] at HD hm ⊢
  clear xd hcd hd h hln
  go_enter Tryz.func68, Tryz.ntmps68
  go_wp2
  generalize w.alloc (.cells cd 39) = w1 at *
  go_loopw [5] (fun i wr => ∃ k : Nat, k ≤ n ∧ i = .int .i64 k ∧ Hid (d ∉ l.take k) ∧ Below w1.heap.size w1 wr) (fun i _ => n - (intOf i).toNat)
  case atStart => exact ⟨0, by omega, rfl, Lib.hid (by simp), Below.refl _ _⟩
  case round =>
    obtain ⟨k, hk, rfl, Hno, hbr⟩ := hrel
    have hBr := Below.then hB1 hbr hB1.size
    by_cases hlt : k < n
    · have hltl : k < l.length := by rw [Hn.out]; exact hlt
      have hlt' : (k : Int) < (n : Int) := by omega
      obtain ⟨b, off, c', e', _, _, _, hb, hra⟩ := (HD.out.below hbr).at hltl
      rw [Hn.out] at e'
      obtain ⟨rfl, rfl⟩ : o = some ⟨b, off, none⟩ ∧ c = c' := by simpa using e'
      have hxl : l[k].length = 32 := HD.out.2 _ (List.getElem_mem hltl)
      have Hxl := Lib.hid hxl
      have Hxb : Hid ((bytesV l[k]).length = 32) := Lib.hid (by rw [bytesV_len, hxl])
      have Hra := Lib.hid hra
      have HXr := Lib.hid (rangeAt_below HX.out hbr lX)
      have lXr : w.heap.size < wr.heap.size := Nat.lt_of_lt_of_le lX hbr.size
      have Htk := Lib.hid (List.take_succ_eq_append_getElem hltl)
      have Hmem : Hid (l[k] ∈ l) := Lib.hid (List.getElem_mem hltl)
      have cQ := Lat.cells wr
      clear hra hxl e'
      generalize l[k] = x at *
      clear hltl
      cases hq : decide (x = d)
      · go_wp2_with fail
        refine wp_region_lat (by kernel_rfl) (by kernel_rfl) ?_
        repeat (first | go_big_quiet_skip | (go_big_quiet_want; first | ((first | (refine quiet_load_row 39 (.tmp 14) rfl b (off + k * 32) rfl (bytesV x) _ (lat_range Hra.out hb) Tryz.underlying39 rfl (by rw [sizeDg, Hxb.out]) ?_) | (refine quiet_load_row 39 (.tmp 3) rfl w.heap.size 0 rfl (bytesV d) _ (lat_range HXr.out lXr) Tryz.underlying39 rfl (by rw [sizeDg, Hdl.out]) ?_) | (refine quiet_run (.bool false) (fun w => by rw [run_eql_dg _ (.tmp 15) (.tmp 16) rfl x d Hxl.out Hd.out rfl rfl, hq]) ?_)); simp only [Act.put, List.setIfInBounds_toArray, List.set_cons_zero, List.set_cons_succ]; go_big_quiet_on) | (go_big_quiet_op; first | go_big_quiet_on | go_big_quiet_call ((fail)))))
        refine wpQuiet_nil ?_
        rintro W4 ⟨⟨_, hb4⟩, rfl⟩
        have hB4 := Below.trans hbr (hb4.mono hbr.size)
        clear cQ
        go_wp2
        go_roundw
        case rel => exact ⟨k + 1, by omega, by go_num, Lib.hid (by
          rw [Htk.out, List.mem_append, List.mem_singleton]
          rintro (h | rfl)
          · exact Hno.out h
          · exact of_decide_eq_false hq rfl), hB4⟩
        case measure => simp [intOf]; omega
      · have Hres : Hid (decide (d ∈ l) = true) := Lib.hid (decide_eq_true (by rw [← of_decide_eq_true hq]; exact Hmem.out))
        go_wp2_with fail
        refine wp_region_lat (by kernel_rfl) (by kernel_rfl) ?_
        repeat (first | go_big_quiet_skip | (go_big_quiet_want; first | ((first | (refine quiet_load_row 39 (.tmp 14) rfl b (off + k * 32) rfl (bytesV x) _ (lat_range Hra.out hb) Tryz.underlying39 rfl (by rw [sizeDg, Hxb.out]) ?_) | (refine quiet_load_row 39 (.tmp 3) rfl w.heap.size 0 rfl (bytesV d) _ (lat_range HXr.out lXr) Tryz.underlying39 rfl (by rw [sizeDg, Hdl.out]) ?_) | (refine quiet_run (.bool true) (fun w => by rw [run_eql_dg _ (.tmp 15) (.tmp 16) rfl x d Hxl.out Hd.out rfl rfl, hq]) ?_)); simp only [Act.put, List.setIfInBounds_toArray, List.set_cons_zero, List.set_cons_succ]; go_big_quiet_on) | (go_big_quiet_op; first | go_big_quiet_on | go_big_quiet_call ((fail)))))
        refine wpQuiet_nil ?_
        rintro W4 ⟨⟨_, hb4⟩, rfl⟩
        have hB4 := Below.then hBr hb4 hBr.size
        clear cQ
        go_wp2
        go_ret
        exact ⟨by rw [Hres.out]; rfl, hB4⟩
    · obtain rfl : k = n := by omega
      have hlt' : ¬ (k : Int) < (k : Int) := by omega
      have Hres : Hid (decide (d ∈ l) = false) := Lib.hid (decide_eq_false (by have := Hno.out; rwa [List.take_of_length_le (by rw [Hn.out]; exact Nat.le_refl _)] at this))
      go_wp2
      go_ret
      exact ⟨by rw [Hres.out]; rfl, hBr⟩
set_option maxRecDepth 100000 in
set_option maxHeartbeats 2000000 in
theorem rf_Without {S1 S2 : Nat → Prop} (w : World) (v v2 : Value) (l l2 : List (List UInt8)) (h : DigR S1 w v l) (h2 : DigR S2 w v2 l2) (hm : l.length ≤ 1000000) (hm2 : l2.length ≤ 1000000) :
    Calls Tryz.prog 40 #[v, v2] w fun e w' => ∃ u, e = .returned u ∧ w'.ownsRow w.heap.size 39 32 u (withoutD l l2).length (digC (withoutD l l2)).flatten ∧ Below w.heap.size w w' := by
  obtain ⟨o, c, rfl⟩ : ∃ o c, v = .slice o l.length c := by obtain ⟨⟨o, c, e, _⟩, _⟩ := h; rw [digC_size] at e; exact ⟨o, c, e⟩
  obtain ⟨idg, hidg, hzd, hsd, hbyd⟩ := info_parts infoDg
  have Hidg : Hid (Tryz.prog.info? 39 = some idg ∧ idg.zero = some (.agg (List.replicate 32 (Value.int .u8 0)).toArray) ∧ idg.size = 32) := Lib.hid ⟨hidg, by rw [hzd]; rfl, hsd⟩
  have HD := Lib.hid h
  have HD2 := Lib.hid h2
  have Ho0 := Lib.hid (ownsRow_bx0 (base := w.heap.size) (size := 32) (Bx.new w #[] 39) (Nat.le_refl _))
  have hB1 : Below w.heap.size w (w.alloc (.cells #[] 39)) := Below.one w _
  obtain ⟨n, hln⟩ : ∃ n, l.length = n := ⟨_, rfl⟩
  have Hn := Lib.hid hln
  rw [hln] at HD hm ⊢
  clear hidg hzd hsd hbyd h h2 hln
  go_enter Tryz.func40, Tryz.ntmps40
  go_wp2
  go_loopw [5, 6] (fun u i wr => ∃ k : Nat, k ≤ n ∧ i = .int .i64 k ∧ wr.ownsRow w.heap.size 39 32 u (withoutD (l.take k) l2).length (digC (withoutD (l.take k) l2)).flatten ∧ Below w.heap.size w wr) (fun _ i _ => n - (intOf i).toNat)
  case atStart => exact ⟨0, by omega, rfl, Ho0.out, hB1⟩
  case round =>
    clear Ho0 hB1
    obtain ⟨k, hk, rfl, ho, hB⟩ := hrel
    have Ho := Lib.hid ho
    clear ho
    by_cases hlt : k < n
    · have hltl : k < l.length := by rw [Hn.out]; exact hlt
      have hlt' : (k : Int) < (n : Int) := by omega
      obtain ⟨b, off, c', e', _, _, _, hb, hra⟩ := (HD.out.below hB).at hltl
      rw [Hn.out] at e'
      obtain ⟨rfl, rfl⟩ : o = some ⟨b, off, none⟩ ∧ c = c' := by simpa using e'
      have hxl : l[k].length = 32 := HD.out.2 _ (List.getElem_mem hltl)
      have Hxl := Lib.hid hxl
      have Hxb : Hid ((bytesV l[k]).length = 32) := Lib.hid (by rw [bytesV_len, hxl])
      have Hra := Lib.hid hra
      have hsmall : (withoutD (l.take k) l2).length ≤ 1000000 := Nat.le_trans (List.length_filter_le _ _) (by rw [List.length_take]; omega)
      have hstep : withoutD (l.take (k + 1)) l2 = withoutD (l.take k) l2 ++ (if decide (l[k] ∈ l2) then [] else [l[k]]) := by
        rw [List.take_succ_eq_append_getElem hltl]
        unfold withoutD
        rw [List.filter_append]
        congr 1
        by_cases hx : l[k] ∈ l2 <;> simp [hx]
      have Hstep := Lib.hid hstep
      have Hin := Lib.hid (rf_In wr v2 l2 l[k] (HD2.out.below hB) hxl hm2)
      clear hra hxl e' hstep
      generalize l[k] = x at *
      clear hltl
      generalize withoutD (l.take k) l2 = q at *
      cases hx : decide (x ∈ l2)
      · have Hst : Hid (withoutD (l.take (k + 1)) l2 = q ++ [x]) := Lib.hid (by rw [Hstep.out, hx]; rfl)
        go_wp2_with (refine wpList_load_mid rfl 39 (.tmp 17) rfl b (off + k * 32) rfl (bytesV x) _ Hra.out Tryz.underlying39 rfl (by rw [sizeDg, Hxb.out]) ?_)
        refine Hin.out.mono ?_
        rintro e w2 ⟨rfl, hb2⟩
        rw [hx]
        have hB2 := Below.then hB hb2 hB.size
        have Ho2 := Lib.hid (ownsRow_belowAll Ho.out hb2)
        have Hra2 := Lib.hid (rangeAt_below Hra.out hb2 hb)
        have hz2 := hB2.size
        clear hb2 Hra Ho Hin
        go_wp2_with (first
          | (refine wpList_load_mid rfl 39 (.tmp 24) rfl b (off + k * 32) rfl (bytesV x) _ Hra2.out Tryz.underlying39 rfl (by rw [sizeDg, Hxb.out]) ?_)
          | (refine wpList_build1 rfl 22 (.tmp 25) rfl 39 idg (List.replicate 32 (Value.int .u8 0)) 32 Tryz.underlying22 Hidg.out.1 Hidg.out.2.1 Hidg.out.2.2 (by simp) (by decide) (bytesV x) Hxb.out rfl ?_)
          | (refine wpList_appD rfl (.tmp 21) (.tmp 26) rfl w.heap.size _ q rfl (Ho2.out.alloc _) w2.heap.size x Hxl.out rfl (Bx.new _ _ _) hsmall (by simp; omega) ?_; intro v3 w3 ho3 hg3 hk3))
        have hB3 : Below w.heap.size w w3 := (hB2.alloc hB2.size (.cells (bytesV x).toArray 39)).grown hg3 (hB2.alloc hB2.size (.cells (bytesV x).toArray 39)).size (fun k e => (Ho2.out.lt k e).1)
        clear hg3 hk3
        have Ho3 := Lib.hid ho3
        clear ho3
        go_wp2
        go_roundw
        case rel => exact ⟨k + 1, by omega, by go_num, by rw [Hst.out]; exact Ho3.out, hB3⟩
        case measure => simp [intOf]; omega
      · have Hst : Hid (withoutD (l.take (k + 1)) l2 = q) := Lib.hid (by rw [Hstep.out, hx]; simp)
        go_wp2_with (refine wpList_load_mid rfl 39 (.tmp 17) rfl b (off + k * 32) rfl (bytesV x) _ Hra.out Tryz.underlying39 rfl (by rw [sizeDg, Hxb.out]) ?_)
        refine Hin.out.mono ?_
        rintro e w2 ⟨rfl, hb2⟩
        rw [hx]
        have hB2 := Below.then hB hb2 hB.size
        have Ho2 := Lib.hid (ownsRow_belowAll Ho.out hb2)
        clear hb2 Hra Ho Hin
        go_wp2
        go_roundw
        case rel => exact ⟨k + 1, by omega, by go_num, by rw [Hst.out]; exact Ho2.out, hB2⟩
        case measure => simp [intOf]; omega
    · obtain rfl : k = n := by omega
      have hlt' : ¬ (k : Int) < (k : Int) := by omega
      have Hall : Hid (l.take k = l) := Lib.hid (List.take_of_length_le (by rw [Hn.out]; exact Nat.le_refl _))
      rw [Hall.out] at Ho
      go_wp2
      go_ret
      exact ⟨_, rfl, Ho.out, hB⟩
end Go.Proofs.YtebgopdmeghmhaaGreat
