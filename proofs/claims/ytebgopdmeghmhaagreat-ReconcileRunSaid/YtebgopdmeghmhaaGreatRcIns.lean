/- quiltref48.inside. -/
import Derived.Test.YtebgopdmeghmhaaGreatRcIn
namespace Go.Proofs.YtebgopdmeghmhaaGreat
open Go.RowKit

set_option maxRecDepth 100000 in
set_option maxHeartbeats 2000000 in
theorem rf_ins {S1 : Nat → Prop} (w : World) (v : Value) (l : List (List UInt8)) (h : DigR S1 w v l) (r : Rg) (vi : Value) (hr : r.ok) (hm : l.length ≤ 1000000) :
    Calls Tryz.prog 39 #[v, r.V vi] w fun e w' => ∃ u, e = .returned u ∧ w'.ownsRow w.heap.size 39 32 u (ownR l r).length (digC (ownR l r)).flatten ∧ Below w.heap.size w w' := by
  obtain ⟨o, c, rfl⟩ : ∃ o c, v = .slice o l.length c := by obtain ⟨⟨o, c, e, _⟩, _⟩ := h; rw [digC_size] at e; exact ⟨o, c, e⟩
  obtain ⟨idg, hidg, hzd, hsd, hbyd⟩ := info_parts infoDg
  have Hidg : Hid (Tryz.prog.info? 39 = some idg ∧ idg.zero = some (.agg (List.replicate 32 (Value.int .u8 0)).toArray) ∧ idg.size = 32) := Lib.hid ⟨hidg, by rw [hzd]; rfl, hsd⟩
  have xr := (Bx.new w (r.cells vi).toArray 41).alloc (.cells #[] 39)
  have hB1 : Below w.heap.size w ((w.alloc (.cells (r.cells vi).toArray 41)).alloc (.cells #[] 39)) := (Below.one w _).alloc (by simp) _
  have HR : Hid (((w.alloc (.cells (r.cells vi).toArray 41)).alloc (.cells #[] 39)).rangeAt w.heap.size 0 (r.cells vi)) := Lib.hid (by simpa using xr.range)
  have lr := xr.lt
  have Hrl := Lib.hid (Rg.len hr vi)
  have HD := Lib.hid h
  have Ho0 := Lib.hid (ownsRow_bx0 (base := w.heap.size + 1) (size := 32) (Bx.newAt (w.alloc (.cells (r.cells vi).toArray 41)) #[] 39 (w.heap.size + 1) (by simp)) (Nat.le_refl _))
  have Hw := Lib.hid (fun x hx W => rf_within r vi hr x hx W)
  obtain ⟨cs, hcs⟩ : ∃ cs, (r.cells vi).toArray = cs := ⟨_, rfl⟩
  unfold Rg.V
  have Hcs : Hid (cs.toList = r.cells vi) := Lib.hid (by rw [← hcs])
  rw [hcs] at Ho0 xr hB1 ⊢
  have X0 := Lib.hid xr
  clear HR lr xr hcs hr
  obtain ⟨n, hln⟩ : ∃ n, l.length = n := ⟨_, rfl⟩
  have Hn := Lib.hid hln
  rw [hln] at HD hm ⊢
  clear hidg hzd hsd hbyd h hln
  go_enter Tryz.func39, Tryz.ntmps39
  go_wp2
  go_loopw [5, 6] (fun u i wr => ∃ k : Nat, k ≤ n ∧ i = .int .i64 k ∧ wr.ownsRow (w.heap.size + 1) 39 32 u (ownR (l.take k) r).length (digC (ownR (l.take k) r)).flatten ∧ Bx wr w.heap.size cs 41 ∧ Below w.heap.size w wr) (fun _ i _ => n - (intOf i).toNat)
  case atStart => exact ⟨0, by omega, rfl, Ho0.out, X0.out, hB1⟩
  case round =>
    clear Ho0 X0 hB1
    obtain ⟨k, hk, rfl, ho, hX, hB⟩ := hrel
    have HRr : Hid (wr.rangeAt w.heap.size 0 (r.cells vi)) := Lib.hid (by have := hX.range; rwa [Hcs.out] at this)
    have lrr := hX.lt
    have HX := Lib.hid hX
    clear hX
    have Ho := Lib.hid ho
    clear ho
    by_cases hlt : k < n
    · have hltl : k < l.length := by rw [Hn.out]; exact hlt
      have hlt' : (k : Int) < (n : Int) := by omega
      obtain ⟨b, off, c', e', _, _, _, hb, hra⟩ := (HD.out.below hB).at hltl
      rw [Hn.out] at e'
      obtain ⟨rfl, rfl⟩ : o = some ⟨b, off, none⟩ ∧ c = c' := by simpa using e'
      have hxl : l[k].length = 32 := HD.out.2 _ (List.getElem_mem hltl)
      have Hxl := Lib.hid hxl
      have Hxb : Hid ((bytesV l[k]).length = 32) := Lib.hid (by rw [bytesV_len, hxl])
      have Hra := Lib.hid hra
      have hsmall : (ownR (l.take k) r).length ≤ 1000000 := Nat.le_trans (List.length_filter_le _ _) (by rw [List.length_take]; omega)
      have hstep : ownR (l.take (k + 1)) r = ownR (l.take k) r ++ (if insB r.low r.high l[k] then [l[k]] else []) := by
        rw [List.take_succ_eq_append_getElem hltl]
        unfold ownR own
        rw [List.filter_append]
        congr 1
        by_cases hx : insB r.low r.high l[k] = true
        · simp [hx]
        · simp [Bool.eq_false_iff.2 hx]
      have Hstep := Lib.hid hstep
      have Hin := Lib.hid (fun W => Hw.out l[k] hxl W)
      have cQ := Lat.cells wr
      clear hra hxl e' hstep
      generalize l[k] = x at *
      clear hltl
      generalize ownR (l.take k) r = q at *
      cases hx : insB r.low r.high x
      · have Hst : Hid (ownR (l.take (k + 1)) r = q) := Lib.hid (by rw [Hstep.out, hx]; simp)
        go_wp2_with fail
        refine wp_region_lat (by kernel_rfl) (by kernel_rfl) ?_
        repeat (first | go_big_quiet_skip | (go_big_quiet_want; first | ((first | (refine quiet_load_row 41 (.tmp 3) rfl w.heap.size 0 rfl (r.cells vi) _ (lat_range HRr.out lrr) Tryz.underlying41 rfl (by rw [sizeRg, Hrl.out]) ?_) | (refine quiet_load_row 39 (.tmp 17) rfl b (off + k * 32) rfl (bytesV x) _ (lat_range Hra.out hb) Tryz.underlying39 rfl (by rw [sizeDg, Hxb.out]) ?_)); simp only [Act.put, List.setIfInBounds_toArray, List.set_cons_zero, List.set_cons_succ]; go_big_quiet_on) | (go_big_quiet_op; first | go_big_quiet_on | go_big_quiet_call ((exact Calls.lat (Hin.out _))))))
        refine wpQuiet_nil ?_
        rintro W2 ⟨⟨_, hb2⟩, rfl⟩
        simp only [hx]
        have HX2 := Lib.hid (HX.out.belowAll hb2)
        have hB2 := Below.then hB hb2 hB.size
        have Ho2 := Lib.hid (ownsRow_belowAll Ho.out hb2)
        clear Hra Ho Hin cQ
        go_wp2
        go_roundw
        case rel => exact ⟨k + 1, by omega, by go_num, by rw [Hst.out]; exact Ho2.out, HX2.out, hB2⟩
        case measure => simp [intOf]; omega
      · have Hst : Hid (ownR (l.take (k + 1)) r = q ++ [x]) := Lib.hid (by rw [Hstep.out, hx]; rfl)
        go_wp2_with fail
        refine wp_region_lat (by kernel_rfl) (by kernel_rfl) ?_
        repeat (first | go_big_quiet_skip | (go_big_quiet_want; first | ((first | (refine quiet_load_row 41 (.tmp 3) rfl w.heap.size 0 rfl (r.cells vi) _ (lat_range HRr.out lrr) Tryz.underlying41 rfl (by rw [sizeRg, Hrl.out]) ?_) | (refine quiet_load_row 39 (.tmp 17) rfl b (off + k * 32) rfl (bytesV x) _ (lat_range Hra.out hb) Tryz.underlying39 rfl (by rw [sizeDg, Hxb.out]) ?_)); simp only [Act.put, List.setIfInBounds_toArray, List.set_cons_zero, List.set_cons_succ]; go_big_quiet_on) | (go_big_quiet_op; first | go_big_quiet_on | go_big_quiet_call ((exact Calls.lat (Hin.out _))))))
        refine wpQuiet_nil ?_
        rintro W2 ⟨⟨_, hb2⟩, rfl⟩
        simp only [hx]
        have HX2 := Lib.hid (HX.out.belowAll hb2)
        have hB2 := Below.then hB hb2 hB.size
        have Ho2 := Lib.hid (ownsRow_belowAll Ho.out hb2)
        have Hra2 := Lib.hid (rangeAt_below Hra.out hb2 hb)
        have hz2 := hB2.size
        clear Hra Ho Hin cQ
        go_wp2_with (first
          | (refine wpList_load_mid rfl 39 (.tmp 23) rfl b (off + k * 32) rfl (bytesV x) _ Hra2.out Tryz.underlying39 rfl (by rw [sizeDg, Hxb.out]) ?_)
          | (refine wpList_build1 rfl 22 (.tmp 24) rfl 39 idg (List.replicate 32 (Value.int .u8 0)) 32 Tryz.underlying22 Hidg.out.1 Hidg.out.2.1 Hidg.out.2.2 (by simp) (by decide) (bytesV x) Hxb.out rfl ?_)
          | (refine wpList_appD rfl (.tmp 20) (.tmp 25) rfl (w.heap.size + 1) _ q rfl (Ho2.out.alloc _) W2.heap.size x Hxl.out rfl (Bx.new _ _ _) hsmall (by simp; omega) ?_; intro v3 w3 ho3 hg3 hk3))
        have HX3 := Lib.hid ((HX2.out.alloc (.cells (bytesV x).toArray 39)).grown hg3 (fun e => by have := (Ho2.out.lt _ e.symm).1; omega))
        have hB3 : Below w.heap.size w w3 := (hB2.alloc hB2.size (.cells (bytesV x).toArray 39)).grown hg3 (hB2.alloc hB2.size (.cells (bytesV x).toArray 39)).size (fun k e => by have := (Ho2.out.lt k e).1; omega)
        clear hg3 hk3
        have Ho3 := Lib.hid ho3
        clear ho3
        go_wp2
        go_roundw
        case rel => exact ⟨k + 1, by omega, by go_num, by rw [Hst.out]; exact Ho3.out, HX3.out, hB3⟩
        case measure => simp [intOf]; omega
    · obtain rfl : k = n := by omega
      have hlt' : ¬ (k : Int) < (k : Int) := by omega
      have Hall : Hid (l.take k = l) := Lib.hid (List.take_of_length_le (by rw [Hn.out]; exact Nat.le_refl _))
      rw [Hall.out] at Ho
      go_wp2
      go_ret
      exact ⟨_, rfl, ownsRow_lower Ho.out (by omega), hB⟩
end Go.Proofs.YtebgopdmeghmhaaGreat
