/- quiltref48.Great. quiltref48.SameRanges of equal lists. quiltref48.one. quiltref48.Check. quiltref48.Answer. -/
import Derived.Test.YtebgopdmeghmhaaGreatRcAcc
import Derived.Test.YtebgopdmeghmhaaGreatLAw
import Derived.Test.YtebgopdmeghmhaaGreatRcCheck
import Derived.Test.YtebgopdmeghmhaaGreatRcAns
import Derived.Test.YtebgopdmeghmhaaGreatRcIns
namespace Go.Proofs.YtebgopdmeghmhaaGreat
open Go.RowKit

/-- the sum of sizes, as 64 bits hold it -/
def gsum : List Rg → Int → Int
  | [], s => s
  | r :: l, s => gsum l (wrap64 (s + r.ids.length))
def greatR (l : List Rg) : Bool := decide (100 < gsum l l.length)


















































end Go.Proofs.YtebgopdmeghmhaaGreat
namespace Go.Proofs.YtebgopdmeghmhaaGreat
open Go.RowKit






















































































end Go.Proofs.YtebgopdmeghmhaaGreat
namespace Go.Proofs.YtebgopdmeghmhaaGreat
open Go.RowKit

set_option maxRecDepth 100000 in
set_option maxHeartbeats 8000000 in
theorem rf_one {S : Nat → Prop} (r : Rg) (vi : Value) (hr : r.ok) (w : World) (hD : DigR S w vi r.ids) (hm : r.ids.length ≤ 1000000) : Calls Tryz.prog 65 #[r.V vi] w fun e w' => e = .returned (.int .i64 (oneE r)) ∧ Below w.heap.size w w' := by
  obtain ⟨o, c, rfl⟩ : ∃ o c, vi = .slice o r.ids.length c := by obtain ⟨⟨o, c, e, _⟩, _⟩ := hD; rw [digC_size] at e; exact ⟨o, c, e⟩
  obtain ⟨n, hln⟩ : ∃ n, r.ids.length = n := ⟨_, rfl⟩
  have Hn := Lib.hid hln
  rw [hln] at hm hD ⊢
  clear hln
  have Hok := Lib.hid hr
  have xr := Bx.new w (r.cells (.slice o n c)).toArray 41
  have hB1 : Below w.heap.size w (w.alloc (.cells (r.cells (.slice o n c)).toArray 41)) := Below.one w _
  have HR : Hid ((w.alloc (.cells (r.cells (.slice o n c)).toArray 41)).rangeAt w.heap.size 0 (r.cells (.slice o n c))) := Lib.hid (by simpa using xr.range)
  have HD1 := Lib.hid (hD.below hB1)
  have Hrl := Lib.hid (Rg.len hr (.slice o n c))
  have lr := xr.lt
  have Hop := Lib.hid (fun W => rf_zero r.high hr.2.1 W)
  have Hzp := Lib.hid (fun W => rf_zero r.print hr.2.2.1 W)
  have Hcm := Lib.hid (fun W => ref02_compare r.high r.low hr.2.1 hr.1 W)
  have Hlo := Lib.hid (Rg.low_at hr HR.out)
  have Hhi := Lib.hid (Rg.high_at hr HR.out)
  have Hll : Hid ((bytesV r.low).length = 32) := Lib.hid (by rw [bytesV_len, hr.1])
  have Hhl : Hid ((bytesV r.high).length = 32) := Lib.hid (by rw [bytesV_len, hr.2.1])
  obtain ⟨cs, hcs⟩ : ∃ cs, (r.cells (.slice o n c)).toArray = cs := ⟨_, rfl⟩
  unfold Rg.V
  rw [hcs] at HR HD1 hB1 lr Hlo Hhi ⊢
  clear xr hcs hD hr
  go_enter Tryz.func65, Tryz.ntmps65
  go_wp2_with (refine wpList_load_mid rfl 39 (.tmp 4) rfl w.heap.size 32 (by first | rfl | (simp)) (bytesV r.high) _ (by simpa using Hhi.out) Tryz.underlying39 rfl (by rw [sizeDg, Hhl.out]) ?_)
  refine (Hop.out _).mono ?_
  rintro e w2 ⟨rfl, hb2⟩
  have hB2 := Below.then hB1 hb2 hB1.size
  have HR2 := Lib.hid (rangeAt_below HR.out hb2 lr)
  have lr2 : w.heap.size < w2.heap.size := Nat.lt_of_lt_of_le lr hb2.size
  have HD2 := Lib.hid (HD1.out.below hb2)
  clear HR hB1 lr HD1 hb2 Hlo Hhi
  cases ho : openB r.high
  · have Hlo := Lib.hid (Rg.low_at Hok.out HR2.out)
    have Hhi := Lib.hid (Rg.high_at Hok.out HR2.out)
    go_wp2_with (first
      | (refine wpList_load_want (by rfl) 39 (.tmp 9) rfl w.heap.size 32 (by first | rfl | (simp)) (bytesV r.high) _ (by simpa using Hhi.out) Tryz.underlying39 rfl (by rw [sizeDg, Hhl.out]) ?_)
      | (refine wpList_load_want (by rfl) 39 (.tmp 11) rfl w.heap.size 0 (by first | rfl | (simp)) (bytesV r.low) _ Hlo.out Tryz.underlying39 rfl (by rw [sizeDg, Hll.out]) ?_))
    refine (Hcm.out _).mono ?_
    rintro e wa ⟨rfl, hba⟩
    have hBa := Below.then hB2 hba hB2.size
    have Hxa := Lib.hid (rangeAt_below HR2.out hba lr2)
    have lra : w.heap.size < wa.heap.size := Nat.lt_of_lt_of_le lr2 hba.size
    have HDa := Lib.hid (HD2.out.below hba)
    clear HR2 hB2 lr2 HD2 hba Hlo Hhi
    cases hq : decide (cmpD r.high r.low ≤ 0)
    · have E1 : Hid ((!openB r.high && decide (0 ≤ cmpD r.low r.high)) = false) := Lib.hid (by rw [ho, decide_eq_false (by have := cmpD_neg r.low r.high; have := of_decide_eq_false hq; omega)]; rfl)
      have c64 : wa.cell? ⟨w.heap.size, 64, none⟩ = some (.bool r.listed) := by simpa using Rg.listed_at Hok.out Hxa.out
      have c65 : wa.cell? ⟨w.heap.size, 65, none⟩ = some (.int .i64 r.count) := by simpa using Rg.count_at Hok.out Hxa.out
      have c98 : wa.cell? ⟨w.heap.size, 98, none⟩ = some (.slice o n c) := by simpa using Rg.ids_at Hok.out Hxa.out
      have Hpr := Lib.hid (Rg.print_at Hok.out Hxa.out)
      cases hl : r.listed
      · rw [hl] at c64
        cases hnb : decide (0 < n)
        · have E2 : Hid (((r.listed && (r.count != 0 || !decide (r.print = zeroD))) || (!r.listed && decide (0 < r.ids.length))) = false) := Lib.hid (by rw [hl, Hn.out, hnb]; rfl)
          by_cases hc0 : r.count < 0
          · have Hres : Hid (oneE r = 2) := Lib.hid (by unfold oneE; rw [E1.out, E2.out, decide_eq_true hc0]; rfl)
            go_wp2
            go_ret
            exact ⟨by rw [Hres.out]; rfl, hBa⟩
          · by_cases hc1 : 1099511627776 < r.count
            · have Hres : Hid (oneE r = 2) := Lib.hid (by unfold oneE; rw [E1.out, E2.out, decide_eq_false hc0, decide_eq_true hc1]; rfl)
              go_wp2
              go_ret
              exact ⟨by rw [Hres.out]; rfl, hBa⟩
            · have E3 : Hid ((decide (r.count < 0) || decide (1099511627776 < r.count)) = false) := Lib.hid (by rw [decide_eq_false hc0, decide_eq_false hc1]; rfl)
              by_cases h400 : 400 < n
              · have h400' : (400 : Int) < (n : Int) := by omega
                have Hres : Hid (oneE r = 4) := Lib.hid (by unfold oneE; rw [E1.out, E2.out, E3.out, if_neg (by decide), if_neg (by decide), if_neg (by decide), if_pos (by rw [Hn.out]; omega)])
                go_wp2
                go_ret
                exact ⟨by rw [Hres.out]; rfl, hBa⟩
              · have h400' : ¬ (400 : Int) < (n : Int) := by omega
                have Hone : Hid (oneE r = idsE r.low r.high none r.ids) := Lib.hid (by unfold oneE; rw [E1.out, E2.out, E3.out, if_neg (by decide), if_neg (by decide), if_neg (by decide), if_neg (by have := h400; rw [Hn.out]; omega)])
                clear E1 E2 E3
                go_wp2
                go_loopw [3] (fun i wr => ∃ k : Nat, k ≤ n ∧ i = .int .i64 k ∧ Hid (idsE r.low r.high (prevO r.ids k) (r.ids.drop k) = idsE r.low r.high none r.ids) ∧ Below wa.heap.size wa wr) (fun i _ => n - (intOf i).toNat)
                case atStart => exact ⟨0, by omega, rfl, Lib.hid rfl, Below.refl _ _⟩
                case round =>
                  clear c64 c65 c98
                  obtain ⟨k, hk, rfl, Hst, hbr⟩ := hrel
                  have hBr := Below.then hBa hbr hBa.size
                  have HRr := Lib.hid (rangeAt_below Hxa.out hbr lra)
                  have lrr : w.heap.size < wr.heap.size := Nat.lt_of_lt_of_le lra hbr.size
                  have c98 : wr.cell? ⟨w.heap.size, 98, none⟩ = some (.slice o n c) := by simpa using Rg.ids_at Hok.out HRr.out
                  by_cases hltn : k < n
                  · have hlt : k < r.ids.length := by rw [Hn.out]; exact hltn
                    have hlt' : (k : Int) < (n : Int) := by omega
                    have Hnx := Lib.hid (idsE_next (low := r.low) (high := r.high) hlt)
                    have hDr := HDa.out.below hbr
                    obtain ⟨b, off, c', e', _, _, _, hb, hra⟩ := hDr.at hlt
                    rw [Hn.out] at e'
                    obtain ⟨rfl, rfl⟩ : o = some ⟨b, off, none⟩ ∧ c = c' := by simpa using e'
                    have hxl : r.ids[k].length = 32 := HDa.out.2 _ (List.getElem_mem hlt)
                    have Hxl : Hid ((bytesV r.ids[k]).length = 32) := Lib.hid (by rw [bytesV_len, hxl])
                    have Hin := Lib.hid (fun W => rf_within r (.slice (some ⟨b, off, none⟩) n c) Hok.out r.ids[k] hxl W)
                    have Hra := Lib.hid hra
                    have Hxl32 := Lib.hid hxl
                    have HDr := Lib.hid hDr
                    clear hra e' hDr hxl
                    rcases Nat.eq_zero_or_pos k with rfl | hpos
                    · have Hany : Hid ((prevO r.ids 0).any (fun y => decide ((0 : Int) ≤ cmpD y r.ids[0])) = false) := Lib.hid rfl
                      generalize r.ids[0] = x at *
                      go_wp2
                      have cQ := Lat.cells wr
                      refine wp_region_lat (by kernel_rfl) (by kernel_rfl) ?_
                      repeat (first | go_big_quiet_skip | (go_big_quiet_want; first | ((fail); simp only [Act.put, List.setIfInBounds_toArray, List.set_cons_zero, List.set_cons_succ]; go_big_quiet_on) | (go_big_quiet_op; first | go_big_quiet_on | go_big_quiet_call ((fail)))))
                      refine wpQuiet_nil ?_
                      rintro W4 ⟨⟨_, hb4⟩, rfl⟩
                      have hB4 := Below.then hBr hb4 hBr.size
                      have HR4 := Lib.hid (rangeAt_below HRr.out hb4 lrr)
                      have hRa4 := rangeAt_below Hra.out hb4 hb
                      have Hra4 := Lib.hid hRa4
                      have hb4' := Nat.lt_of_lt_of_le hb hb4.size
                      have lr4 : w.heap.size < W4.heap.size := Nat.lt_of_lt_of_le lrr hb4.size
                      have Hb4 := Lib.hid (Below.trans hbr (hb4.mono hbr.size))
                      have d98 : W4.cell? ⟨w.heap.size, 98, none⟩ = some (.slice (some ⟨b, off, none⟩) n c) := by simpa using Rg.ids_at Hok.out HR4.out
                      clear cQ hb4 c98 hRa4
                      go_wp2
                      have cQ := Lat.cells W4
                      cases hi : insB r.low r.high x
                      · rw [hi] at Hin
                        have Hres : Hid (oneE r = 2) := Lib.hid (by rw [Hone.out, ← Hst.out, Hnx.out, Hany.out, hi]; rfl)
                        refine wp_region_lat (by kernel_rfl) (by kernel_rfl) ?_
                        repeat (first | go_big_quiet_skip | (go_big_quiet_want; first | ((first | (refine quiet_load_row 41 (.tmp 1) rfl w.heap.size 0 rfl (r.cells (.slice (some ⟨b, off, none⟩) n c)) _ (lat_range HR4.out lr4) Tryz.underlying41 rfl (by rw [sizeRg, Hrl.out]) ?_) | (refine quiet_load_row 39 (.tmp 80) rfl b (off + 0 * 32) (by first | rfl | (simp)) (bytesV x) _ (lat_range (by simpa using Hra4.out) hb4') Tryz.underlying39 rfl (by rw [sizeDg, Hxl.out]) ?_)); simp only [Act.put, List.setIfInBounds_toArray, List.set_cons_zero, List.set_cons_succ]; go_big_quiet_on) | (go_big_quiet_op; first | go_big_quiet_on | go_big_quiet_call ((exact Calls.lat (Hin.out _))))))
                        refine wpQuiet_nil ?_
                        rintro W5 ⟨⟨_, hb5⟩, rfl⟩
                        have hB5 := Below.then hB4 hb5 hB4.size
                        clear cQ
                        go_wp2
                        go_ret
                        exact ⟨by rw [Hres.out]; rfl, hB5⟩
                      · rw [hi] at Hin
                        refine wp_region_lat (by kernel_rfl) (by kernel_rfl) ?_
                        repeat (first | go_big_quiet_skip | (go_big_quiet_want; first | ((first | (refine quiet_load_row 41 (.tmp 1) rfl w.heap.size 0 rfl (r.cells (.slice (some ⟨b, off, none⟩) n c)) _ (lat_range HR4.out lr4) Tryz.underlying41 rfl (by rw [sizeRg, Hrl.out]) ?_) | (refine quiet_load_row 39 (.tmp 80) rfl b (off + 0 * 32) (by first | rfl | (simp)) (bytesV x) _ (lat_range (by simpa using Hra4.out) hb4') Tryz.underlying39 rfl (by rw [sizeDg, Hxl.out]) ?_)); simp only [Act.put, List.setIfInBounds_toArray, List.set_cons_zero, List.set_cons_succ]; go_big_quiet_on) | (go_big_quiet_op; first | go_big_quiet_on | go_big_quiet_call ((exact Calls.lat (Hin.out _))))))
                        refine wpQuiet_nil ?_
                        rintro W5 ⟨⟨_, hb5⟩, rfl⟩
                        have hB5 := Lib.hid (Below.then Hb4.out hb5 Hb4.out.size)
                        have Hst2 := Hnx.out
                        rw [Hany.out, hi, Hst.out] at Hst2
                        have Hst3 := Lib.hid Hst2
                        clear Hst2 cQ
                        go_wp2
                        go_roundw
                        case rel => exact ⟨0 + 1, by omega, by go_num, Lib.hid Hst3.out.symm, hB5.out⟩
                        case measure => simp [intOf]; omega
                    · obtain ⟨m, rfl⟩ : ∃ m, k = m + 1 := ⟨k - 1, by omega⟩
                      have hltm : m < r.ids.length := by omega
                      obtain ⟨b', off', c', e', _, _, _, _, hry⟩ := HDr.out.at hltm
                      rw [Hn.out] at e'
                      obtain ⟨⟨rfl, rfl⟩, rfl⟩ : (b = b' ∧ off = off') ∧ c = c' := by simpa using e'
                      have hyl : r.ids[m].length = 32 := HDa.out.2 _ (List.getElem_mem hltm)
                      have Hyl : Hid ((bytesV r.ids[m]).length = 32) := Lib.hid (by rw [bytesV_len, hyl])
                      have Hcy := Lib.hid (fun W => ref02_compare r.ids[m] r.ids[m + 1] hyl Hxl32.out W)
                      have Hry := Lib.hid hry
                      have hpv : (prevO r.ids (m + 1)).any (fun y => decide (0 ≤ cmpD y r.ids[m + 1])) = decide (0 ≤ cmpD r.ids[m] r.ids[m + 1]) := by
                        rw [show prevO r.ids (m + 1) = some r.ids[m] from List.getElem?_eq_getElem hltm]; rfl
                      have Hpv := Lib.hid hpv
                      clear hry hpv hyl e' hpos
                      cases hq : decide (0 ≤ cmpD r.ids[m] r.ids[m + 1])
                      · have Hany := Hpv
                        rw [hq] at Hany
                        generalize r.ids[m + 1] = x at *
                        generalize r.ids[m] = y at *
                        go_wp2
                        have cQ := Lat.cells wr
                        refine wp_region_lat (by kernel_rfl) (by kernel_rfl) ?_
                        repeat (first | go_big_quiet_skip | (go_big_quiet_want; first | ((first | (refine quiet_load_row 39 (.tmp 66) rfl b (off + m * 32) rfl (bytesV y) _ (lat_range Hry.out hb) Tryz.underlying39 rfl (by rw [sizeDg, Hyl.out]) ?_) | (refine quiet_load_row 39 (.tmp 71) rfl b (off + (m + 1) * 32) rfl (bytesV x) _ (lat_range Hra.out hb) Tryz.underlying39 rfl (by rw [sizeDg, Hxl.out]) ?_)); simp only [Act.put, List.setIfInBounds_toArray, List.set_cons_zero, List.set_cons_succ]; go_big_quiet_on) | (go_big_quiet_op; first | go_big_quiet_on | go_big_quiet_call ((exact Calls.lat (Hcy.out _))))))
                        refine wpQuiet_nil ?_
                        rintro W4 ⟨⟨_, hb4⟩, rfl⟩
                        have hB4 := Below.then hBr hb4 hBr.size
                        have HR4 := Lib.hid (rangeAt_below HRr.out hb4 lrr)
                        have hRa4 := rangeAt_below Hra.out hb4 hb
                        have Hra4 := Lib.hid hRa4
                        have hb4' := Nat.lt_of_lt_of_le hb hb4.size
                        have lr4 : w.heap.size < W4.heap.size := Nat.lt_of_lt_of_le lrr hb4.size
                        have Hb4 := Lib.hid (Below.trans hbr (hb4.mono hbr.size))
                        have d98 : W4.cell? ⟨w.heap.size, 98, none⟩ = some (.slice (some ⟨b, off, none⟩) n c) := by simpa using Rg.ids_at Hok.out HR4.out
                        clear cQ hb4 c98 hRa4
                        go_wp2
                        have cQ := Lat.cells W4
                        cases hi : insB r.low r.high x
                        · rw [hi] at Hin
                          have Hres : Hid (oneE r = 2) := Lib.hid (by rw [Hone.out, ← Hst.out, Hnx.out, Hany.out, hi]; rfl)
                          refine wp_region_lat (by kernel_rfl) (by kernel_rfl) ?_
                          repeat (first | go_big_quiet_skip | (go_big_quiet_want; first | ((first | (refine quiet_load_row 41 (.tmp 1) rfl w.heap.size 0 rfl (r.cells (.slice (some ⟨b, off, none⟩) n c)) _ (lat_range HR4.out lr4) Tryz.underlying41 rfl (by rw [sizeRg, Hrl.out]) ?_) | (refine quiet_load_row 39 (.tmp 80) rfl b (off + (m + 1) * 32) (by first | rfl | (simp)) (bytesV x) _ (lat_range (by simpa using Hra4.out) hb4') Tryz.underlying39 rfl (by rw [sizeDg, Hxl.out]) ?_)); simp only [Act.put, List.setIfInBounds_toArray, List.set_cons_zero, List.set_cons_succ]; go_big_quiet_on) | (go_big_quiet_op; first | go_big_quiet_on | go_big_quiet_call ((exact Calls.lat (Hin.out _))))))
                          refine wpQuiet_nil ?_
                          rintro W5 ⟨⟨_, hb5⟩, rfl⟩
                          have hB5 := Below.then hB4 hb5 hB4.size
                          clear cQ
                          go_wp2
                          go_ret
                          exact ⟨by rw [Hres.out]; rfl, hB5⟩
                        · rw [hi] at Hin
                          refine wp_region_lat (by kernel_rfl) (by kernel_rfl) ?_
                          repeat (first | go_big_quiet_skip | (go_big_quiet_want; first | ((first | (refine quiet_load_row 41 (.tmp 1) rfl w.heap.size 0 rfl (r.cells (.slice (some ⟨b, off, none⟩) n c)) _ (lat_range HR4.out lr4) Tryz.underlying41 rfl (by rw [sizeRg, Hrl.out]) ?_) | (refine quiet_load_row 39 (.tmp 80) rfl b (off + (m + 1) * 32) (by first | rfl | (simp)) (bytesV x) _ (lat_range (by simpa using Hra4.out) hb4') Tryz.underlying39 rfl (by rw [sizeDg, Hxl.out]) ?_)); simp only [Act.put, List.setIfInBounds_toArray, List.set_cons_zero, List.set_cons_succ]; go_big_quiet_on) | (go_big_quiet_op; first | go_big_quiet_on | go_big_quiet_call ((exact Calls.lat (Hin.out _))))))
                          refine wpQuiet_nil ?_
                          rintro W5 ⟨⟨_, hb5⟩, rfl⟩
                          have hB5 := Lib.hid (Below.then Hb4.out hb5 Hb4.out.size)
                          have Hst2 := Hnx.out
                          rw [Hany.out, hi, Hst.out] at Hst2
                          have Hst3 := Lib.hid Hst2
                          clear Hst2 cQ
                          go_wp2
                          go_roundw
                          case rel => exact ⟨m + 1 + 1, by omega, by go_num, Lib.hid Hst3.out.symm, hB5.out⟩
                          case measure => simp [intOf]; omega
                      · have Hres : Hid (oneE r = 9) := Lib.hid (by rw [Hone.out, ← Hst.out, Hnx.out, Hpv.out, hq]; rfl)
                        generalize r.ids[m + 1] = x at *
                        generalize r.ids[m] = y at *
                        go_wp2
                        have cQ := Lat.cells wr
                        refine wp_region_lat (by kernel_rfl) (by kernel_rfl) ?_
                        repeat (first | go_big_quiet_skip | (go_big_quiet_want; first | ((first | (refine quiet_load_row 39 (.tmp 66) rfl b (off + m * 32) rfl (bytesV y) _ (lat_range Hry.out hb) Tryz.underlying39 rfl (by rw [sizeDg, Hyl.out]) ?_) | (refine quiet_load_row 39 (.tmp 71) rfl b (off + (m + 1) * 32) rfl (bytesV x) _ (lat_range Hra.out hb) Tryz.underlying39 rfl (by rw [sizeDg, Hxl.out]) ?_)); simp only [Act.put, List.setIfInBounds_toArray, List.set_cons_zero, List.set_cons_succ]; go_big_quiet_on) | (go_big_quiet_op; first | go_big_quiet_on | go_big_quiet_call ((exact Calls.lat (Hcy.out _))))))
                        refine wpQuiet_nil ?_
                        rintro W4 ⟨⟨_, hb4⟩, rfl⟩
                        have hB4 := Below.then hBr hb4 hBr.size
                        clear cQ
                        go_wp2
                        go_ret
                        exact ⟨by rw [Hres.out]; rfl, hB4⟩
                  · obtain rfl : k = n := by omega
                    have hlt' : ¬ (k : Int) < (k : Int) := by omega
                    have Hres : Hid (oneE r = 0) := Lib.hid (by rw [Hone.out, ← Hst.out, List.drop_eq_nil_of_le (by rw [Hn.out]; exact Nat.le_refl _)]; cases prevO r.ids k <;> rfl)
                    go_wp2
                    go_ret
                    exact ⟨by rw [Hres.out]; rfl, hBr⟩
        · have Hres : Hid (oneE r = 1) := Lib.hid (by unfold oneE; rw [E1.out, hl, Hn.out, hnb]; rfl)
          go_wp2
          go_ret
          exact ⟨by rw [Hres.out]; rfl, hBa⟩
      · rw [hl] at c64
        cases hcz : (r.count != 0)
        · go_wp2_with (refine wpList_load_want (by rfl) 39 (.tmp 23) rfl w.heap.size 66 (by first | rfl | (simp)) (bytesV r.print) _ (by simpa using Hpr.out) Tryz.underlying39 rfl (by rw [sizeDg, bytesV_len, Hok.out.2.2.1]) ?_)
          refine (Hzp.out _).mono ?_
          rintro e wz ⟨rfl, hbz⟩
          generalize hEq : wa = wo at *
          clear hEq
          have hBz := Below.then hBa hbz hBa.size
          have Hxz := Lib.hid (rangeAt_below Hxa.out hbz lra)
          have HDz := Lib.hid (HDa.out.below hbz)
          have lrz : w.heap.size < wz.heap.size := Nat.lt_of_lt_of_le lra hbz.size
          clear c64 c65 c98 Hpr hBa Hxa HDa lra hbz
          generalize wz = wa at *
          have hBa := hBz
          have Hxa := Hxz
          have HDa := HDz
          have lra := lrz
          clear hBz Hxz HDz lrz
          have c64 : wa.cell? ⟨w.heap.size, 64, none⟩ = some (.bool r.listed) := by simpa using Rg.listed_at Hok.out Hxa.out
          have c65 : wa.cell? ⟨w.heap.size, 65, none⟩ = some (.int .i64 r.count) := by simpa using Rg.count_at Hok.out Hxa.out
          have c98 : wa.cell? ⟨w.heap.size, 98, none⟩ = some (.slice o n c) := by simpa using Rg.ids_at Hok.out Hxa.out
          rw [hl] at c64
          cases hpz : openB r.print
          · have Hres : Hid (oneE r = 1) := Lib.hid (by unfold oneE; rw [E1.out, hl, hcz, show decide (r.print = zeroD) = false from hpz]; rfl)
            go_wp2
            go_ret
            exact ⟨by rw [Hres.out]; rfl, hBa⟩
          · have E2 : Hid (((r.listed && (r.count != 0 || !decide (r.print = zeroD))) || (!r.listed && decide (0 < r.ids.length))) = false) := Lib.hid (by rw [hl, hcz, show decide (r.print = zeroD) = true from hpz]; rfl)
            by_cases hc0 : r.count < 0
            · have Hres : Hid (oneE r = 2) := Lib.hid (by unfold oneE; rw [E1.out, E2.out, decide_eq_true hc0]; rfl)
              go_wp2
              go_ret
              exact ⟨by rw [Hres.out]; rfl, hBa⟩
            · by_cases hc1 : 1099511627776 < r.count
              · have Hres : Hid (oneE r = 2) := Lib.hid (by unfold oneE; rw [E1.out, E2.out, decide_eq_false hc0, decide_eq_true hc1]; rfl)
                go_wp2
                go_ret
                exact ⟨by rw [Hres.out]; rfl, hBa⟩
              · have E3 : Hid ((decide (r.count < 0) || decide (1099511627776 < r.count)) = false) := Lib.hid (by rw [decide_eq_false hc0, decide_eq_false hc1]; rfl)
                by_cases h400 : 400 < n
                · have h400' : (400 : Int) < (n : Int) := by omega
                  have Hres : Hid (oneE r = 4) := Lib.hid (by unfold oneE; rw [E1.out, E2.out, E3.out, if_neg (by decide), if_neg (by decide), if_neg (by decide), if_pos (by rw [Hn.out]; omega)])
                  go_wp2
                  go_ret
                  exact ⟨by rw [Hres.out]; rfl, hBa⟩
                · have h400' : ¬ (400 : Int) < (n : Int) := by omega
                  have Hone : Hid (oneE r = idsE r.low r.high none r.ids) := Lib.hid (by unfold oneE; rw [E1.out, E2.out, E3.out, if_neg (by decide), if_neg (by decide), if_neg (by decide), if_neg (by have := h400; rw [Hn.out]; omega)])
                  clear E1 E2 E3
                  go_wp2
                  go_loopw [3] (fun i wr => ∃ k : Nat, k ≤ n ∧ i = .int .i64 k ∧ Hid (idsE r.low r.high (prevO r.ids k) (r.ids.drop k) = idsE r.low r.high none r.ids) ∧ Below wa.heap.size wa wr) (fun i _ => n - (intOf i).toNat)
                  case atStart => exact ⟨0, by omega, rfl, Lib.hid rfl, Below.refl _ _⟩
                  case round =>
                    clear c64 c65 c98
                    obtain ⟨k, hk, rfl, Hst, hbr⟩ := hrel
                    have hBr := Below.then hBa hbr hBa.size
                    have HRr := Lib.hid (rangeAt_below Hxa.out hbr lra)
                    have lrr : w.heap.size < wr.heap.size := Nat.lt_of_lt_of_le lra hbr.size
                    have c98 : wr.cell? ⟨w.heap.size, 98, none⟩ = some (.slice o n c) := by simpa using Rg.ids_at Hok.out HRr.out
                    by_cases hltn : k < n
                    · have hlt : k < r.ids.length := by rw [Hn.out]; exact hltn
                      have hlt' : (k : Int) < (n : Int) := by omega
                      have Hnx := Lib.hid (idsE_next (low := r.low) (high := r.high) hlt)
                      have hDr := HDa.out.below hbr
                      obtain ⟨b, off, c', e', _, _, _, hb, hra⟩ := hDr.at hlt
                      rw [Hn.out] at e'
                      obtain ⟨rfl, rfl⟩ : o = some ⟨b, off, none⟩ ∧ c = c' := by simpa using e'
                      have hxl : r.ids[k].length = 32 := HDa.out.2 _ (List.getElem_mem hlt)
                      have Hxl : Hid ((bytesV r.ids[k]).length = 32) := Lib.hid (by rw [bytesV_len, hxl])
                      have Hin := Lib.hid (fun W => rf_within r (.slice (some ⟨b, off, none⟩) n c) Hok.out r.ids[k] hxl W)
                      have Hra := Lib.hid hra
                      have Hxl32 := Lib.hid hxl
                      have HDr := Lib.hid hDr
                      clear hra e' hDr hxl
                      rcases Nat.eq_zero_or_pos k with rfl | hpos
                      · have Hany : Hid ((prevO r.ids 0).any (fun y => decide ((0 : Int) ≤ cmpD y r.ids[0])) = false) := Lib.hid rfl
                        generalize r.ids[0] = x at *
                        go_wp2
                        have cQ := Lat.cells wr
                        refine wp_region_lat (by kernel_rfl) (by kernel_rfl) ?_
                        repeat (first | go_big_quiet_skip | (go_big_quiet_want; first | ((fail); simp only [Act.put, List.setIfInBounds_toArray, List.set_cons_zero, List.set_cons_succ]; go_big_quiet_on) | (go_big_quiet_op; first | go_big_quiet_on | go_big_quiet_call ((fail)))))
                        refine wpQuiet_nil ?_
                        rintro W4 ⟨⟨_, hb4⟩, rfl⟩
                        have hB4 := Below.then hBr hb4 hBr.size
                        have HR4 := Lib.hid (rangeAt_below HRr.out hb4 lrr)
                        have hRa4 := rangeAt_below Hra.out hb4 hb
                        have Hra4 := Lib.hid hRa4
                        have hb4' := Nat.lt_of_lt_of_le hb hb4.size
                        have lr4 : w.heap.size < W4.heap.size := Nat.lt_of_lt_of_le lrr hb4.size
                        have Hb4 := Lib.hid (Below.trans hbr (hb4.mono hbr.size))
                        have d98 : W4.cell? ⟨w.heap.size, 98, none⟩ = some (.slice (some ⟨b, off, none⟩) n c) := by simpa using Rg.ids_at Hok.out HR4.out
                        clear cQ hb4 c98 hRa4
                        go_wp2
                        have cQ := Lat.cells W4
                        cases hi : insB r.low r.high x
                        · rw [hi] at Hin
                          have Hres : Hid (oneE r = 2) := Lib.hid (by rw [Hone.out, ← Hst.out, Hnx.out, Hany.out, hi]; rfl)
                          refine wp_region_lat (by kernel_rfl) (by kernel_rfl) ?_
                          repeat (first | go_big_quiet_skip | (go_big_quiet_want; first | ((first | (refine quiet_load_row 41 (.tmp 1) rfl w.heap.size 0 rfl (r.cells (.slice (some ⟨b, off, none⟩) n c)) _ (lat_range HR4.out lr4) Tryz.underlying41 rfl (by rw [sizeRg, Hrl.out]) ?_) | (refine quiet_load_row 39 (.tmp 80) rfl b (off + 0 * 32) (by first | rfl | (simp)) (bytesV x) _ (lat_range (by simpa using Hra4.out) hb4') Tryz.underlying39 rfl (by rw [sizeDg, Hxl.out]) ?_)); simp only [Act.put, List.setIfInBounds_toArray, List.set_cons_zero, List.set_cons_succ]; go_big_quiet_on) | (go_big_quiet_op; first | go_big_quiet_on | go_big_quiet_call ((exact Calls.lat (Hin.out _))))))
                          refine wpQuiet_nil ?_
                          rintro W5 ⟨⟨_, hb5⟩, rfl⟩
                          have hB5 := Below.then hB4 hb5 hB4.size
                          clear cQ
                          go_wp2
                          go_ret
                          exact ⟨by rw [Hres.out]; rfl, hB5⟩
                        · rw [hi] at Hin
                          refine wp_region_lat (by kernel_rfl) (by kernel_rfl) ?_
                          repeat (first | go_big_quiet_skip | (go_big_quiet_want; first | ((first | (refine quiet_load_row 41 (.tmp 1) rfl w.heap.size 0 rfl (r.cells (.slice (some ⟨b, off, none⟩) n c)) _ (lat_range HR4.out lr4) Tryz.underlying41 rfl (by rw [sizeRg, Hrl.out]) ?_) | (refine quiet_load_row 39 (.tmp 80) rfl b (off + 0 * 32) (by first | rfl | (simp)) (bytesV x) _ (lat_range (by simpa using Hra4.out) hb4') Tryz.underlying39 rfl (by rw [sizeDg, Hxl.out]) ?_)); simp only [Act.put, List.setIfInBounds_toArray, List.set_cons_zero, List.set_cons_succ]; go_big_quiet_on) | (go_big_quiet_op; first | go_big_quiet_on | go_big_quiet_call ((exact Calls.lat (Hin.out _))))))
                          refine wpQuiet_nil ?_
                          rintro W5 ⟨⟨_, hb5⟩, rfl⟩
                          have hB5 := Lib.hid (Below.then Hb4.out hb5 Hb4.out.size)
                          have Hst2 := Hnx.out
                          rw [Hany.out, hi, Hst.out] at Hst2
                          have Hst3 := Lib.hid Hst2
                          clear Hst2 cQ
                          go_wp2
                          go_roundw
                          case rel => exact ⟨0 + 1, by omega, by go_num, Lib.hid Hst3.out.symm, hB5.out⟩
                          case measure => simp [intOf]; omega
                      · obtain ⟨m, rfl⟩ : ∃ m, k = m + 1 := ⟨k - 1, by omega⟩
                        have hltm : m < r.ids.length := by omega
                        obtain ⟨b', off', c', e', _, _, _, _, hry⟩ := HDr.out.at hltm
                        rw [Hn.out] at e'
                        obtain ⟨⟨rfl, rfl⟩, rfl⟩ : (b = b' ∧ off = off') ∧ c = c' := by simpa using e'
                        have hyl : r.ids[m].length = 32 := HDa.out.2 _ (List.getElem_mem hltm)
                        have Hyl : Hid ((bytesV r.ids[m]).length = 32) := Lib.hid (by rw [bytesV_len, hyl])
                        have Hcy := Lib.hid (fun W => ref02_compare r.ids[m] r.ids[m + 1] hyl Hxl32.out W)
                        have Hry := Lib.hid hry
                        have hpv : (prevO r.ids (m + 1)).any (fun y => decide (0 ≤ cmpD y r.ids[m + 1])) = decide (0 ≤ cmpD r.ids[m] r.ids[m + 1]) := by
                          rw [show prevO r.ids (m + 1) = some r.ids[m] from List.getElem?_eq_getElem hltm]; rfl
                        have Hpv := Lib.hid hpv
                        clear hry hpv hyl e' hpos
                        cases hq : decide (0 ≤ cmpD r.ids[m] r.ids[m + 1])
                        · have Hany := Hpv
                          rw [hq] at Hany
                          generalize r.ids[m + 1] = x at *
                          generalize r.ids[m] = y at *
                          go_wp2
                          have cQ := Lat.cells wr
                          refine wp_region_lat (by kernel_rfl) (by kernel_rfl) ?_
                          repeat (first | go_big_quiet_skip | (go_big_quiet_want; first | ((first | (refine quiet_load_row 39 (.tmp 66) rfl b (off + m * 32) rfl (bytesV y) _ (lat_range Hry.out hb) Tryz.underlying39 rfl (by rw [sizeDg, Hyl.out]) ?_) | (refine quiet_load_row 39 (.tmp 71) rfl b (off + (m + 1) * 32) rfl (bytesV x) _ (lat_range Hra.out hb) Tryz.underlying39 rfl (by rw [sizeDg, Hxl.out]) ?_)); simp only [Act.put, List.setIfInBounds_toArray, List.set_cons_zero, List.set_cons_succ]; go_big_quiet_on) | (go_big_quiet_op; first | go_big_quiet_on | go_big_quiet_call ((exact Calls.lat (Hcy.out _))))))
                          refine wpQuiet_nil ?_
                          rintro W4 ⟨⟨_, hb4⟩, rfl⟩
                          have hB4 := Below.then hBr hb4 hBr.size
                          have HR4 := Lib.hid (rangeAt_below HRr.out hb4 lrr)
                          have hRa4 := rangeAt_below Hra.out hb4 hb
                          have Hra4 := Lib.hid hRa4
                          have hb4' := Nat.lt_of_lt_of_le hb hb4.size
                          have lr4 : w.heap.size < W4.heap.size := Nat.lt_of_lt_of_le lrr hb4.size
                          have Hb4 := Lib.hid (Below.trans hbr (hb4.mono hbr.size))
                          have d98 : W4.cell? ⟨w.heap.size, 98, none⟩ = some (.slice (some ⟨b, off, none⟩) n c) := by simpa using Rg.ids_at Hok.out HR4.out
                          clear cQ hb4 c98 hRa4
                          go_wp2
                          have cQ := Lat.cells W4
                          cases hi : insB r.low r.high x
                          · rw [hi] at Hin
                            have Hres : Hid (oneE r = 2) := Lib.hid (by rw [Hone.out, ← Hst.out, Hnx.out, Hany.out, hi]; rfl)
                            refine wp_region_lat (by kernel_rfl) (by kernel_rfl) ?_
                            repeat (first | go_big_quiet_skip | (go_big_quiet_want; first | ((first | (refine quiet_load_row 41 (.tmp 1) rfl w.heap.size 0 rfl (r.cells (.slice (some ⟨b, off, none⟩) n c)) _ (lat_range HR4.out lr4) Tryz.underlying41 rfl (by rw [sizeRg, Hrl.out]) ?_) | (refine quiet_load_row 39 (.tmp 80) rfl b (off + (m + 1) * 32) (by first | rfl | (simp)) (bytesV x) _ (lat_range (by simpa using Hra4.out) hb4') Tryz.underlying39 rfl (by rw [sizeDg, Hxl.out]) ?_)); simp only [Act.put, List.setIfInBounds_toArray, List.set_cons_zero, List.set_cons_succ]; go_big_quiet_on) | (go_big_quiet_op; first | go_big_quiet_on | go_big_quiet_call ((exact Calls.lat (Hin.out _))))))
                            refine wpQuiet_nil ?_
                            rintro W5 ⟨⟨_, hb5⟩, rfl⟩
                            have hB5 := Below.then hB4 hb5 hB4.size
                            clear cQ
                            go_wp2
                            go_ret
                            exact ⟨by rw [Hres.out]; rfl, hB5⟩
                          · rw [hi] at Hin
                            refine wp_region_lat (by kernel_rfl) (by kernel_rfl) ?_
                            repeat (first | go_big_quiet_skip | (go_big_quiet_want; first | ((first | (refine quiet_load_row 41 (.tmp 1) rfl w.heap.size 0 rfl (r.cells (.slice (some ⟨b, off, none⟩) n c)) _ (lat_range HR4.out lr4) Tryz.underlying41 rfl (by rw [sizeRg, Hrl.out]) ?_) | (refine quiet_load_row 39 (.tmp 80) rfl b (off + (m + 1) * 32) (by first | rfl | (simp)) (bytesV x) _ (lat_range (by simpa using Hra4.out) hb4') Tryz.underlying39 rfl (by rw [sizeDg, Hxl.out]) ?_)); simp only [Act.put, List.setIfInBounds_toArray, List.set_cons_zero, List.set_cons_succ]; go_big_quiet_on) | (go_big_quiet_op; first | go_big_quiet_on | go_big_quiet_call ((exact Calls.lat (Hin.out _))))))
                            refine wpQuiet_nil ?_
                            rintro W5 ⟨⟨_, hb5⟩, rfl⟩
                            have hB5 := Lib.hid (Below.then Hb4.out hb5 Hb4.out.size)
                            have Hst2 := Hnx.out
                            rw [Hany.out, hi, Hst.out] at Hst2
                            have Hst3 := Lib.hid Hst2
                            clear Hst2 cQ
                            go_wp2
                            go_roundw
                            case rel => exact ⟨m + 1 + 1, by omega, by go_num, Lib.hid Hst3.out.symm, hB5.out⟩
                            case measure => simp [intOf]; omega
                        · have Hres : Hid (oneE r = 9) := Lib.hid (by rw [Hone.out, ← Hst.out, Hnx.out, Hpv.out, hq]; rfl)
                          generalize r.ids[m + 1] = x at *
                          generalize r.ids[m] = y at *
                          go_wp2
                          have cQ := Lat.cells wr
                          refine wp_region_lat (by kernel_rfl) (by kernel_rfl) ?_
                          repeat (first | go_big_quiet_skip | (go_big_quiet_want; first | ((first | (refine quiet_load_row 39 (.tmp 66) rfl b (off + m * 32) rfl (bytesV y) _ (lat_range Hry.out hb) Tryz.underlying39 rfl (by rw [sizeDg, Hyl.out]) ?_) | (refine quiet_load_row 39 (.tmp 71) rfl b (off + (m + 1) * 32) rfl (bytesV x) _ (lat_range Hra.out hb) Tryz.underlying39 rfl (by rw [sizeDg, Hxl.out]) ?_)); simp only [Act.put, List.setIfInBounds_toArray, List.set_cons_zero, List.set_cons_succ]; go_big_quiet_on) | (go_big_quiet_op; first | go_big_quiet_on | go_big_quiet_call ((exact Calls.lat (Hcy.out _))))))
                          refine wpQuiet_nil ?_
                          rintro W4 ⟨⟨_, hb4⟩, rfl⟩
                          have hB4 := Below.then hBr hb4 hBr.size
                          clear cQ
                          go_wp2
                          go_ret
                          exact ⟨by rw [Hres.out]; rfl, hB4⟩
                    · obtain rfl : k = n := by omega
                      have hlt' : ¬ (k : Int) < (k : Int) := by omega
                      have Hres : Hid (oneE r = 0) := Lib.hid (by rw [Hone.out, ← Hst.out, List.drop_eq_nil_of_le (by rw [Hn.out]; exact Nat.le_refl _)]; cases prevO r.ids k <;> rfl)
                      go_wp2
                      go_ret
                      exact ⟨by rw [Hres.out]; rfl, hBr⟩
        · have Hres : Hid (oneE r = 1) := Lib.hid (by unfold oneE; rw [E1.out, hl, hcz]; rfl)
          go_wp2
          go_ret
          exact ⟨by rw [Hres.out]; rfl, hBa⟩
    · have Hres : Hid (oneE r = 9) := Lib.hid (by unfold oneE; rw [ho, decide_eq_true (p := 0 ≤ cmpD r.low r.high) (by have := cmpD_neg r.low r.high; have := of_decide_eq_true hq; omega)]; rfl)
      go_wp2
      go_ret
      exact ⟨by rw [Hres.out]; rfl, hBa⟩
  · generalize hwe : w2 = wa at *
    clear hwe
    have hBa := hB2
    have Hxa := HR2
    have lra := lr2
    have HDa := HD2
    clear HR2 hB2 lr2 HD2
    have E1 : Hid ((!openB r.high && decide (0 ≤ cmpD r.low r.high)) = false) := Lib.hid (by rw [ho]; rfl)
    have c64 : wa.cell? ⟨w.heap.size, 64, none⟩ = some (.bool r.listed) := by simpa using Rg.listed_at Hok.out Hxa.out
    have c65 : wa.cell? ⟨w.heap.size, 65, none⟩ = some (.int .i64 r.count) := by simpa using Rg.count_at Hok.out Hxa.out
    have c98 : wa.cell? ⟨w.heap.size, 98, none⟩ = some (.slice o n c) := by simpa using Rg.ids_at Hok.out Hxa.out
    have Hpr := Lib.hid (Rg.print_at Hok.out Hxa.out)
    cases hl : r.listed
    · rw [hl] at c64
      cases hnb : decide (0 < n)
      · have E2 : Hid (((r.listed && (r.count != 0 || !decide (r.print = zeroD))) || (!r.listed && decide (0 < r.ids.length))) = false) := Lib.hid (by rw [hl, Hn.out, hnb]; rfl)
        by_cases hc0 : r.count < 0
        · have Hres : Hid (oneE r = 2) := Lib.hid (by unfold oneE; rw [E1.out, E2.out, decide_eq_true hc0]; rfl)
          go_wp2
          go_ret
          exact ⟨by rw [Hres.out]; rfl, hBa⟩
        · by_cases hc1 : 1099511627776 < r.count
          · have Hres : Hid (oneE r = 2) := Lib.hid (by unfold oneE; rw [E1.out, E2.out, decide_eq_false hc0, decide_eq_true hc1]; rfl)
            go_wp2
            go_ret
            exact ⟨by rw [Hres.out]; rfl, hBa⟩
          · have E3 : Hid ((decide (r.count < 0) || decide (1099511627776 < r.count)) = false) := Lib.hid (by rw [decide_eq_false hc0, decide_eq_false hc1]; rfl)
            by_cases h400 : 400 < n
            · have h400' : (400 : Int) < (n : Int) := by omega
              have Hres : Hid (oneE r = 4) := Lib.hid (by unfold oneE; rw [E1.out, E2.out, E3.out, if_neg (by decide), if_neg (by decide), if_neg (by decide), if_pos (by rw [Hn.out]; omega)])
              go_wp2
              go_ret
              exact ⟨by rw [Hres.out]; rfl, hBa⟩
            · have h400' : ¬ (400 : Int) < (n : Int) := by omega
              have Hone : Hid (oneE r = idsE r.low r.high none r.ids) := Lib.hid (by unfold oneE; rw [E1.out, E2.out, E3.out, if_neg (by decide), if_neg (by decide), if_neg (by decide), if_neg (by have := h400; rw [Hn.out]; omega)])
              clear E1 E2 E3
              go_wp2
              go_loopw [3] (fun i wr => ∃ k : Nat, k ≤ n ∧ i = .int .i64 k ∧ Hid (idsE r.low r.high (prevO r.ids k) (r.ids.drop k) = idsE r.low r.high none r.ids) ∧ Below wa.heap.size wa wr) (fun i _ => n - (intOf i).toNat)
              case atStart => exact ⟨0, by omega, rfl, Lib.hid rfl, Below.refl _ _⟩
              case round =>
                clear c64 c65 c98
                obtain ⟨k, hk, rfl, Hst, hbr⟩ := hrel
                have hBr := Below.then hBa hbr hBa.size
                have HRr := Lib.hid (rangeAt_below Hxa.out hbr lra)
                have lrr : w.heap.size < wr.heap.size := Nat.lt_of_lt_of_le lra hbr.size
                have c98 : wr.cell? ⟨w.heap.size, 98, none⟩ = some (.slice o n c) := by simpa using Rg.ids_at Hok.out HRr.out
                by_cases hltn : k < n
                · have hlt : k < r.ids.length := by rw [Hn.out]; exact hltn
                  have hlt' : (k : Int) < (n : Int) := by omega
                  have Hnx := Lib.hid (idsE_next (low := r.low) (high := r.high) hlt)
                  have hDr := HDa.out.below hbr
                  obtain ⟨b, off, c', e', _, _, _, hb, hra⟩ := hDr.at hlt
                  rw [Hn.out] at e'
                  obtain ⟨rfl, rfl⟩ : o = some ⟨b, off, none⟩ ∧ c = c' := by simpa using e'
                  have hxl : r.ids[k].length = 32 := HDa.out.2 _ (List.getElem_mem hlt)
                  have Hxl : Hid ((bytesV r.ids[k]).length = 32) := Lib.hid (by rw [bytesV_len, hxl])
                  have Hin := Lib.hid (fun W => rf_within r (.slice (some ⟨b, off, none⟩) n c) Hok.out r.ids[k] hxl W)
                  have Hra := Lib.hid hra
                  have Hxl32 := Lib.hid hxl
                  have HDr := Lib.hid hDr
                  clear hra e' hDr hxl
                  rcases Nat.eq_zero_or_pos k with rfl | hpos
                  · have Hany : Hid ((prevO r.ids 0).any (fun y => decide ((0 : Int) ≤ cmpD y r.ids[0])) = false) := Lib.hid rfl
                    generalize r.ids[0] = x at *
                    go_wp2
                    have cQ := Lat.cells wr
                    refine wp_region_lat (by kernel_rfl) (by kernel_rfl) ?_
                    repeat (first | go_big_quiet_skip | (go_big_quiet_want; first | ((fail); simp only [Act.put, List.setIfInBounds_toArray, List.set_cons_zero, List.set_cons_succ]; go_big_quiet_on) | (go_big_quiet_op; first | go_big_quiet_on | go_big_quiet_call ((fail)))))
                    refine wpQuiet_nil ?_
                    rintro W4 ⟨⟨_, hb4⟩, rfl⟩
                    have hB4 := Below.then hBr hb4 hBr.size
                    have HR4 := Lib.hid (rangeAt_below HRr.out hb4 lrr)
                    have hRa4 := rangeAt_below Hra.out hb4 hb
                    have Hra4 := Lib.hid hRa4
                    have hb4' := Nat.lt_of_lt_of_le hb hb4.size
                    have lr4 : w.heap.size < W4.heap.size := Nat.lt_of_lt_of_le lrr hb4.size
                    have Hb4 := Lib.hid (Below.trans hbr (hb4.mono hbr.size))
                    have d98 : W4.cell? ⟨w.heap.size, 98, none⟩ = some (.slice (some ⟨b, off, none⟩) n c) := by simpa using Rg.ids_at Hok.out HR4.out
                    clear cQ hb4 c98 hRa4
                    go_wp2
                    have cQ := Lat.cells W4
                    cases hi : insB r.low r.high x
                    · rw [hi] at Hin
                      have Hres : Hid (oneE r = 2) := Lib.hid (by rw [Hone.out, ← Hst.out, Hnx.out, Hany.out, hi]; rfl)
                      refine wp_region_lat (by kernel_rfl) (by kernel_rfl) ?_
                      repeat (first | go_big_quiet_skip | (go_big_quiet_want; first | ((first | (refine quiet_load_row 41 (.tmp 1) rfl w.heap.size 0 rfl (r.cells (.slice (some ⟨b, off, none⟩) n c)) _ (lat_range HR4.out lr4) Tryz.underlying41 rfl (by rw [sizeRg, Hrl.out]) ?_) | (refine quiet_load_row 39 (.tmp 80) rfl b (off + 0 * 32) (by first | rfl | (simp)) (bytesV x) _ (lat_range (by simpa using Hra4.out) hb4') Tryz.underlying39 rfl (by rw [sizeDg, Hxl.out]) ?_)); simp only [Act.put, List.setIfInBounds_toArray, List.set_cons_zero, List.set_cons_succ]; go_big_quiet_on) | (go_big_quiet_op; first | go_big_quiet_on | go_big_quiet_call ((exact Calls.lat (Hin.out _))))))
                      refine wpQuiet_nil ?_
                      rintro W5 ⟨⟨_, hb5⟩, rfl⟩
                      have hB5 := Below.then hB4 hb5 hB4.size
                      clear cQ
                      go_wp2
                      go_ret
                      exact ⟨by rw [Hres.out]; rfl, hB5⟩
                    · rw [hi] at Hin
                      refine wp_region_lat (by kernel_rfl) (by kernel_rfl) ?_
                      repeat (first | go_big_quiet_skip | (go_big_quiet_want; first | ((first | (refine quiet_load_row 41 (.tmp 1) rfl w.heap.size 0 rfl (r.cells (.slice (some ⟨b, off, none⟩) n c)) _ (lat_range HR4.out lr4) Tryz.underlying41 rfl (by rw [sizeRg, Hrl.out]) ?_) | (refine quiet_load_row 39 (.tmp 80) rfl b (off + 0 * 32) (by first | rfl | (simp)) (bytesV x) _ (lat_range (by simpa using Hra4.out) hb4') Tryz.underlying39 rfl (by rw [sizeDg, Hxl.out]) ?_)); simp only [Act.put, List.setIfInBounds_toArray, List.set_cons_zero, List.set_cons_succ]; go_big_quiet_on) | (go_big_quiet_op; first | go_big_quiet_on | go_big_quiet_call ((exact Calls.lat (Hin.out _))))))
                      refine wpQuiet_nil ?_
                      rintro W5 ⟨⟨_, hb5⟩, rfl⟩
                      have hB5 := Lib.hid (Below.then Hb4.out hb5 Hb4.out.size)
                      have Hst2 := Hnx.out
                      rw [Hany.out, hi, Hst.out] at Hst2
                      have Hst3 := Lib.hid Hst2
                      clear Hst2 cQ
                      go_wp2
                      go_roundw
                      case rel => exact ⟨0 + 1, by omega, by go_num, Lib.hid Hst3.out.symm, hB5.out⟩
                      case measure => simp [intOf]; omega
                  · obtain ⟨m, rfl⟩ : ∃ m, k = m + 1 := ⟨k - 1, by omega⟩
                    have hltm : m < r.ids.length := by omega
                    obtain ⟨b', off', c', e', _, _, _, _, hry⟩ := HDr.out.at hltm
                    rw [Hn.out] at e'
                    obtain ⟨⟨rfl, rfl⟩, rfl⟩ : (b = b' ∧ off = off') ∧ c = c' := by simpa using e'
                    have hyl : r.ids[m].length = 32 := HDa.out.2 _ (List.getElem_mem hltm)
                    have Hyl : Hid ((bytesV r.ids[m]).length = 32) := Lib.hid (by rw [bytesV_len, hyl])
                    have Hcy := Lib.hid (fun W => ref02_compare r.ids[m] r.ids[m + 1] hyl Hxl32.out W)
                    have Hry := Lib.hid hry
                    have hpv : (prevO r.ids (m + 1)).any (fun y => decide (0 ≤ cmpD y r.ids[m + 1])) = decide (0 ≤ cmpD r.ids[m] r.ids[m + 1]) := by
                      rw [show prevO r.ids (m + 1) = some r.ids[m] from List.getElem?_eq_getElem hltm]; rfl
                    have Hpv := Lib.hid hpv
                    clear hry hpv hyl e' hpos
                    cases hq : decide (0 ≤ cmpD r.ids[m] r.ids[m + 1])
                    · have Hany := Hpv
                      rw [hq] at Hany
                      generalize r.ids[m + 1] = x at *
                      generalize r.ids[m] = y at *
                      go_wp2
                      have cQ := Lat.cells wr
                      refine wp_region_lat (by kernel_rfl) (by kernel_rfl) ?_
                      repeat (first | go_big_quiet_skip | (go_big_quiet_want; first | ((first | (refine quiet_load_row 39 (.tmp 66) rfl b (off + m * 32) rfl (bytesV y) _ (lat_range Hry.out hb) Tryz.underlying39 rfl (by rw [sizeDg, Hyl.out]) ?_) | (refine quiet_load_row 39 (.tmp 71) rfl b (off + (m + 1) * 32) rfl (bytesV x) _ (lat_range Hra.out hb) Tryz.underlying39 rfl (by rw [sizeDg, Hxl.out]) ?_)); simp only [Act.put, List.setIfInBounds_toArray, List.set_cons_zero, List.set_cons_succ]; go_big_quiet_on) | (go_big_quiet_op; first | go_big_quiet_on | go_big_quiet_call ((exact Calls.lat (Hcy.out _))))))
                      refine wpQuiet_nil ?_
                      rintro W4 ⟨⟨_, hb4⟩, rfl⟩
                      have hB4 := Below.then hBr hb4 hBr.size
                      have HR4 := Lib.hid (rangeAt_below HRr.out hb4 lrr)
                      have hRa4 := rangeAt_below Hra.out hb4 hb
                      have Hra4 := Lib.hid hRa4
                      have hb4' := Nat.lt_of_lt_of_le hb hb4.size
                      have lr4 : w.heap.size < W4.heap.size := Nat.lt_of_lt_of_le lrr hb4.size
                      have Hb4 := Lib.hid (Below.trans hbr (hb4.mono hbr.size))
                      have d98 : W4.cell? ⟨w.heap.size, 98, none⟩ = some (.slice (some ⟨b, off, none⟩) n c) := by simpa using Rg.ids_at Hok.out HR4.out
                      clear cQ hb4 c98 hRa4
                      go_wp2
                      have cQ := Lat.cells W4
                      cases hi : insB r.low r.high x
                      · rw [hi] at Hin
                        have Hres : Hid (oneE r = 2) := Lib.hid (by rw [Hone.out, ← Hst.out, Hnx.out, Hany.out, hi]; rfl)
                        refine wp_region_lat (by kernel_rfl) (by kernel_rfl) ?_
                        repeat (first | go_big_quiet_skip | (go_big_quiet_want; first | ((first | (refine quiet_load_row 41 (.tmp 1) rfl w.heap.size 0 rfl (r.cells (.slice (some ⟨b, off, none⟩) n c)) _ (lat_range HR4.out lr4) Tryz.underlying41 rfl (by rw [sizeRg, Hrl.out]) ?_) | (refine quiet_load_row 39 (.tmp 80) rfl b (off + (m + 1) * 32) (by first | rfl | (simp)) (bytesV x) _ (lat_range (by simpa using Hra4.out) hb4') Tryz.underlying39 rfl (by rw [sizeDg, Hxl.out]) ?_)); simp only [Act.put, List.setIfInBounds_toArray, List.set_cons_zero, List.set_cons_succ]; go_big_quiet_on) | (go_big_quiet_op; first | go_big_quiet_on | go_big_quiet_call ((exact Calls.lat (Hin.out _))))))
                        refine wpQuiet_nil ?_
                        rintro W5 ⟨⟨_, hb5⟩, rfl⟩
                        have hB5 := Below.then hB4 hb5 hB4.size
                        clear cQ
                        go_wp2
                        go_ret
                        exact ⟨by rw [Hres.out]; rfl, hB5⟩
                      · rw [hi] at Hin
                        refine wp_region_lat (by kernel_rfl) (by kernel_rfl) ?_
                        repeat (first | go_big_quiet_skip | (go_big_quiet_want; first | ((first | (refine quiet_load_row 41 (.tmp 1) rfl w.heap.size 0 rfl (r.cells (.slice (some ⟨b, off, none⟩) n c)) _ (lat_range HR4.out lr4) Tryz.underlying41 rfl (by rw [sizeRg, Hrl.out]) ?_) | (refine quiet_load_row 39 (.tmp 80) rfl b (off + (m + 1) * 32) (by first | rfl | (simp)) (bytesV x) _ (lat_range (by simpa using Hra4.out) hb4') Tryz.underlying39 rfl (by rw [sizeDg, Hxl.out]) ?_)); simp only [Act.put, List.setIfInBounds_toArray, List.set_cons_zero, List.set_cons_succ]; go_big_quiet_on) | (go_big_quiet_op; first | go_big_quiet_on | go_big_quiet_call ((exact Calls.lat (Hin.out _))))))
                        refine wpQuiet_nil ?_
                        rintro W5 ⟨⟨_, hb5⟩, rfl⟩
                        have hB5 := Lib.hid (Below.then Hb4.out hb5 Hb4.out.size)
                        have Hst2 := Hnx.out
                        rw [Hany.out, hi, Hst.out] at Hst2
                        have Hst3 := Lib.hid Hst2
                        clear Hst2 cQ
                        go_wp2
                        go_roundw
                        case rel => exact ⟨m + 1 + 1, by omega, by go_num, Lib.hid Hst3.out.symm, hB5.out⟩
                        case measure => simp [intOf]; omega
                    · have Hres : Hid (oneE r = 9) := Lib.hid (by rw [Hone.out, ← Hst.out, Hnx.out, Hpv.out, hq]; rfl)
                      generalize r.ids[m + 1] = x at *
                      generalize r.ids[m] = y at *
                      go_wp2
                      have cQ := Lat.cells wr
                      refine wp_region_lat (by kernel_rfl) (by kernel_rfl) ?_
                      repeat (first | go_big_quiet_skip | (go_big_quiet_want; first | ((first | (refine quiet_load_row 39 (.tmp 66) rfl b (off + m * 32) rfl (bytesV y) _ (lat_range Hry.out hb) Tryz.underlying39 rfl (by rw [sizeDg, Hyl.out]) ?_) | (refine quiet_load_row 39 (.tmp 71) rfl b (off + (m + 1) * 32) rfl (bytesV x) _ (lat_range Hra.out hb) Tryz.underlying39 rfl (by rw [sizeDg, Hxl.out]) ?_)); simp only [Act.put, List.setIfInBounds_toArray, List.set_cons_zero, List.set_cons_succ]; go_big_quiet_on) | (go_big_quiet_op; first | go_big_quiet_on | go_big_quiet_call ((exact Calls.lat (Hcy.out _))))))
                      refine wpQuiet_nil ?_
                      rintro W4 ⟨⟨_, hb4⟩, rfl⟩
                      have hB4 := Below.then hBr hb4 hBr.size
                      clear cQ
                      go_wp2
                      go_ret
                      exact ⟨by rw [Hres.out]; rfl, hB4⟩
                · obtain rfl : k = n := by omega
                  have hlt' : ¬ (k : Int) < (k : Int) := by omega
                  have Hres : Hid (oneE r = 0) := Lib.hid (by rw [Hone.out, ← Hst.out, List.drop_eq_nil_of_le (by rw [Hn.out]; exact Nat.le_refl _)]; cases prevO r.ids k <;> rfl)
                  go_wp2
                  go_ret
                  exact ⟨by rw [Hres.out]; rfl, hBr⟩
      · have Hres : Hid (oneE r = 1) := Lib.hid (by unfold oneE; rw [E1.out, hl, Hn.out, hnb]; rfl)
        go_wp2
        go_ret
        exact ⟨by rw [Hres.out]; rfl, hBa⟩
    · rw [hl] at c64
      cases hcz : (r.count != 0)
      · go_wp2_with (refine wpList_load_want (by rfl) 39 (.tmp 23) rfl w.heap.size 66 (by first | rfl | (simp)) (bytesV r.print) _ (by simpa using Hpr.out) Tryz.underlying39 rfl (by rw [sizeDg, bytesV_len, Hok.out.2.2.1]) ?_)
        refine (Hzp.out _).mono ?_
        rintro e wz ⟨rfl, hbz⟩
        generalize hEq : wa = wo at *
        clear hEq
        have hBz := Below.then hBa hbz hBa.size
        have Hxz := Lib.hid (rangeAt_below Hxa.out hbz lra)
        have HDz := Lib.hid (HDa.out.below hbz)
        have lrz : w.heap.size < wz.heap.size := Nat.lt_of_lt_of_le lra hbz.size
        clear c64 c65 c98 Hpr hBa Hxa HDa lra hbz
        generalize wz = wa at *
        have hBa := hBz
        have Hxa := Hxz
        have HDa := HDz
        have lra := lrz
        clear hBz Hxz HDz lrz
        have c64 : wa.cell? ⟨w.heap.size, 64, none⟩ = some (.bool r.listed) := by simpa using Rg.listed_at Hok.out Hxa.out
        have c65 : wa.cell? ⟨w.heap.size, 65, none⟩ = some (.int .i64 r.count) := by simpa using Rg.count_at Hok.out Hxa.out
        have c98 : wa.cell? ⟨w.heap.size, 98, none⟩ = some (.slice o n c) := by simpa using Rg.ids_at Hok.out Hxa.out
        rw [hl] at c64
        cases hpz : openB r.print
        · have Hres : Hid (oneE r = 1) := Lib.hid (by unfold oneE; rw [E1.out, hl, hcz, show decide (r.print = zeroD) = false from hpz]; rfl)
          go_wp2
          go_ret
          exact ⟨by rw [Hres.out]; rfl, hBa⟩
        · have E2 : Hid (((r.listed && (r.count != 0 || !decide (r.print = zeroD))) || (!r.listed && decide (0 < r.ids.length))) = false) := Lib.hid (by rw [hl, hcz, show decide (r.print = zeroD) = true from hpz]; rfl)
          by_cases hc0 : r.count < 0
          · have Hres : Hid (oneE r = 2) := Lib.hid (by unfold oneE; rw [E1.out, E2.out, decide_eq_true hc0]; rfl)
            go_wp2
            go_ret
            exact ⟨by rw [Hres.out]; rfl, hBa⟩
          · by_cases hc1 : 1099511627776 < r.count
            · have Hres : Hid (oneE r = 2) := Lib.hid (by unfold oneE; rw [E1.out, E2.out, decide_eq_false hc0, decide_eq_true hc1]; rfl)
              go_wp2
              go_ret
              exact ⟨by rw [Hres.out]; rfl, hBa⟩
            · have E3 : Hid ((decide (r.count < 0) || decide (1099511627776 < r.count)) = false) := Lib.hid (by rw [decide_eq_false hc0, decide_eq_false hc1]; rfl)
              by_cases h400 : 400 < n
              · have h400' : (400 : Int) < (n : Int) := by omega
                have Hres : Hid (oneE r = 4) := Lib.hid (by unfold oneE; rw [E1.out, E2.out, E3.out, if_neg (by decide), if_neg (by decide), if_neg (by decide), if_pos (by rw [Hn.out]; omega)])
                go_wp2
                go_ret
                exact ⟨by rw [Hres.out]; rfl, hBa⟩
              · have h400' : ¬ (400 : Int) < (n : Int) := by omega
                have Hone : Hid (oneE r = idsE r.low r.high none r.ids) := Lib.hid (by unfold oneE; rw [E1.out, E2.out, E3.out, if_neg (by decide), if_neg (by decide), if_neg (by decide), if_neg (by have := h400; rw [Hn.out]; omega)])
                clear E1 E2 E3
                go_wp2
                go_loopw [3] (fun i wr => ∃ k : Nat, k ≤ n ∧ i = .int .i64 k ∧ Hid (idsE r.low r.high (prevO r.ids k) (r.ids.drop k) = idsE r.low r.high none r.ids) ∧ Below wa.heap.size wa wr) (fun i _ => n - (intOf i).toNat)
                case atStart => exact ⟨0, by omega, rfl, Lib.hid rfl, Below.refl _ _⟩
                case round =>
                  clear c64 c65 c98
                  obtain ⟨k, hk, rfl, Hst, hbr⟩ := hrel
                  have hBr := Below.then hBa hbr hBa.size
                  have HRr := Lib.hid (rangeAt_below Hxa.out hbr lra)
                  have lrr : w.heap.size < wr.heap.size := Nat.lt_of_lt_of_le lra hbr.size
                  have c98 : wr.cell? ⟨w.heap.size, 98, none⟩ = some (.slice o n c) := by simpa using Rg.ids_at Hok.out HRr.out
                  by_cases hltn : k < n
                  · have hlt : k < r.ids.length := by rw [Hn.out]; exact hltn
                    have hlt' : (k : Int) < (n : Int) := by omega
                    have Hnx := Lib.hid (idsE_next (low := r.low) (high := r.high) hlt)
                    have hDr := HDa.out.below hbr
                    obtain ⟨b, off, c', e', _, _, _, hb, hra⟩ := hDr.at hlt
                    rw [Hn.out] at e'
                    obtain ⟨rfl, rfl⟩ : o = some ⟨b, off, none⟩ ∧ c = c' := by simpa using e'
                    have hxl : r.ids[k].length = 32 := HDa.out.2 _ (List.getElem_mem hlt)
                    have Hxl : Hid ((bytesV r.ids[k]).length = 32) := Lib.hid (by rw [bytesV_len, hxl])
                    have Hin := Lib.hid (fun W => rf_within r (.slice (some ⟨b, off, none⟩) n c) Hok.out r.ids[k] hxl W)
                    have Hra := Lib.hid hra
                    have Hxl32 := Lib.hid hxl
                    have HDr := Lib.hid hDr
                    clear hra e' hDr hxl
                    rcases Nat.eq_zero_or_pos k with rfl | hpos
                    · have Hany : Hid ((prevO r.ids 0).any (fun y => decide ((0 : Int) ≤ cmpD y r.ids[0])) = false) := Lib.hid rfl
                      generalize r.ids[0] = x at *
                      go_wp2
                      have cQ := Lat.cells wr
                      refine wp_region_lat (by kernel_rfl) (by kernel_rfl) ?_
                      repeat (first | go_big_quiet_skip | (go_big_quiet_want; first | ((fail); simp only [Act.put, List.setIfInBounds_toArray, List.set_cons_zero, List.set_cons_succ]; go_big_quiet_on) | (go_big_quiet_op; first | go_big_quiet_on | go_big_quiet_call ((fail)))))
                      refine wpQuiet_nil ?_
                      rintro W4 ⟨⟨_, hb4⟩, rfl⟩
                      have hB4 := Below.then hBr hb4 hBr.size
                      have HR4 := Lib.hid (rangeAt_below HRr.out hb4 lrr)
                      have hRa4 := rangeAt_below Hra.out hb4 hb
                      have Hra4 := Lib.hid hRa4
                      have hb4' := Nat.lt_of_lt_of_le hb hb4.size
                      have lr4 : w.heap.size < W4.heap.size := Nat.lt_of_lt_of_le lrr hb4.size
                      have Hb4 := Lib.hid (Below.trans hbr (hb4.mono hbr.size))
                      have d98 : W4.cell? ⟨w.heap.size, 98, none⟩ = some (.slice (some ⟨b, off, none⟩) n c) := by simpa using Rg.ids_at Hok.out HR4.out
                      clear cQ hb4 c98 hRa4
                      go_wp2
                      have cQ := Lat.cells W4
                      cases hi : insB r.low r.high x
                      · rw [hi] at Hin
                        have Hres : Hid (oneE r = 2) := Lib.hid (by rw [Hone.out, ← Hst.out, Hnx.out, Hany.out, hi]; rfl)
                        refine wp_region_lat (by kernel_rfl) (by kernel_rfl) ?_
                        repeat (first | go_big_quiet_skip | (go_big_quiet_want; first | ((first | (refine quiet_load_row 41 (.tmp 1) rfl w.heap.size 0 rfl (r.cells (.slice (some ⟨b, off, none⟩) n c)) _ (lat_range HR4.out lr4) Tryz.underlying41 rfl (by rw [sizeRg, Hrl.out]) ?_) | (refine quiet_load_row 39 (.tmp 80) rfl b (off + 0 * 32) (by first | rfl | (simp)) (bytesV x) _ (lat_range (by simpa using Hra4.out) hb4') Tryz.underlying39 rfl (by rw [sizeDg, Hxl.out]) ?_)); simp only [Act.put, List.setIfInBounds_toArray, List.set_cons_zero, List.set_cons_succ]; go_big_quiet_on) | (go_big_quiet_op; first | go_big_quiet_on | go_big_quiet_call ((exact Calls.lat (Hin.out _))))))
                        refine wpQuiet_nil ?_
                        rintro W5 ⟨⟨_, hb5⟩, rfl⟩
                        have hB5 := Below.then hB4 hb5 hB4.size
                        clear cQ
                        go_wp2
                        go_ret
                        exact ⟨by rw [Hres.out]; rfl, hB5⟩
                      · rw [hi] at Hin
                        refine wp_region_lat (by kernel_rfl) (by kernel_rfl) ?_
                        repeat (first | go_big_quiet_skip | (go_big_quiet_want; first | ((first | (refine quiet_load_row 41 (.tmp 1) rfl w.heap.size 0 rfl (r.cells (.slice (some ⟨b, off, none⟩) n c)) _ (lat_range HR4.out lr4) Tryz.underlying41 rfl (by rw [sizeRg, Hrl.out]) ?_) | (refine quiet_load_row 39 (.tmp 80) rfl b (off + 0 * 32) (by first | rfl | (simp)) (bytesV x) _ (lat_range (by simpa using Hra4.out) hb4') Tryz.underlying39 rfl (by rw [sizeDg, Hxl.out]) ?_)); simp only [Act.put, List.setIfInBounds_toArray, List.set_cons_zero, List.set_cons_succ]; go_big_quiet_on) | (go_big_quiet_op; first | go_big_quiet_on | go_big_quiet_call ((exact Calls.lat (Hin.out _))))))
                        refine wpQuiet_nil ?_
                        rintro W5 ⟨⟨_, hb5⟩, rfl⟩
                        have hB5 := Lib.hid (Below.then Hb4.out hb5 Hb4.out.size)
                        have Hst2 := Hnx.out
                        rw [Hany.out, hi, Hst.out] at Hst2
                        have Hst3 := Lib.hid Hst2
                        clear Hst2 cQ
                        go_wp2
                        go_roundw
                        case rel => exact ⟨0 + 1, by omega, by go_num, Lib.hid Hst3.out.symm, hB5.out⟩
                        case measure => simp [intOf]; omega
                    · obtain ⟨m, rfl⟩ : ∃ m, k = m + 1 := ⟨k - 1, by omega⟩
                      have hltm : m < r.ids.length := by omega
                      obtain ⟨b', off', c', e', _, _, _, _, hry⟩ := HDr.out.at hltm
                      rw [Hn.out] at e'
                      obtain ⟨⟨rfl, rfl⟩, rfl⟩ : (b = b' ∧ off = off') ∧ c = c' := by simpa using e'
                      have hyl : r.ids[m].length = 32 := HDa.out.2 _ (List.getElem_mem hltm)
                      have Hyl : Hid ((bytesV r.ids[m]).length = 32) := Lib.hid (by rw [bytesV_len, hyl])
                      have Hcy := Lib.hid (fun W => ref02_compare r.ids[m] r.ids[m + 1] hyl Hxl32.out W)
                      have Hry := Lib.hid hry
                      have hpv : (prevO r.ids (m + 1)).any (fun y => decide (0 ≤ cmpD y r.ids[m + 1])) = decide (0 ≤ cmpD r.ids[m] r.ids[m + 1]) := by
                        rw [show prevO r.ids (m + 1) = some r.ids[m] from List.getElem?_eq_getElem hltm]; rfl
                      have Hpv := Lib.hid hpv
                      clear hry hpv hyl e' hpos
                      cases hq : decide (0 ≤ cmpD r.ids[m] r.ids[m + 1])
                      · have Hany := Hpv
                        rw [hq] at Hany
                        generalize r.ids[m + 1] = x at *
                        generalize r.ids[m] = y at *
                        go_wp2
                        have cQ := Lat.cells wr
                        refine wp_region_lat (by kernel_rfl) (by kernel_rfl) ?_
                        repeat (first | go_big_quiet_skip | (go_big_quiet_want; first | ((first | (refine quiet_load_row 39 (.tmp 66) rfl b (off + m * 32) rfl (bytesV y) _ (lat_range Hry.out hb) Tryz.underlying39 rfl (by rw [sizeDg, Hyl.out]) ?_) | (refine quiet_load_row 39 (.tmp 71) rfl b (off + (m + 1) * 32) rfl (bytesV x) _ (lat_range Hra.out hb) Tryz.underlying39 rfl (by rw [sizeDg, Hxl.out]) ?_)); simp only [Act.put, List.setIfInBounds_toArray, List.set_cons_zero, List.set_cons_succ]; go_big_quiet_on) | (go_big_quiet_op; first | go_big_quiet_on | go_big_quiet_call ((exact Calls.lat (Hcy.out _))))))
                        refine wpQuiet_nil ?_
                        rintro W4 ⟨⟨_, hb4⟩, rfl⟩
                        have hB4 := Below.then hBr hb4 hBr.size
                        have HR4 := Lib.hid (rangeAt_below HRr.out hb4 lrr)
                        have hRa4 := rangeAt_below Hra.out hb4 hb
                        have Hra4 := Lib.hid hRa4
                        have hb4' := Nat.lt_of_lt_of_le hb hb4.size
                        have lr4 : w.heap.size < W4.heap.size := Nat.lt_of_lt_of_le lrr hb4.size
                        have Hb4 := Lib.hid (Below.trans hbr (hb4.mono hbr.size))
                        have d98 : W4.cell? ⟨w.heap.size, 98, none⟩ = some (.slice (some ⟨b, off, none⟩) n c) := by simpa using Rg.ids_at Hok.out HR4.out
                        clear cQ hb4 c98 hRa4
                        go_wp2
                        have cQ := Lat.cells W4
                        cases hi : insB r.low r.high x
                        · rw [hi] at Hin
                          have Hres : Hid (oneE r = 2) := Lib.hid (by rw [Hone.out, ← Hst.out, Hnx.out, Hany.out, hi]; rfl)
                          refine wp_region_lat (by kernel_rfl) (by kernel_rfl) ?_
                          repeat (first | go_big_quiet_skip | (go_big_quiet_want; first | ((first | (refine quiet_load_row 41 (.tmp 1) rfl w.heap.size 0 rfl (r.cells (.slice (some ⟨b, off, none⟩) n c)) _ (lat_range HR4.out lr4) Tryz.underlying41 rfl (by rw [sizeRg, Hrl.out]) ?_) | (refine quiet_load_row 39 (.tmp 80) rfl b (off + (m + 1) * 32) (by first | rfl | (simp)) (bytesV x) _ (lat_range (by simpa using Hra4.out) hb4') Tryz.underlying39 rfl (by rw [sizeDg, Hxl.out]) ?_)); simp only [Act.put, List.setIfInBounds_toArray, List.set_cons_zero, List.set_cons_succ]; go_big_quiet_on) | (go_big_quiet_op; first | go_big_quiet_on | go_big_quiet_call ((exact Calls.lat (Hin.out _))))))
                          refine wpQuiet_nil ?_
                          rintro W5 ⟨⟨_, hb5⟩, rfl⟩
                          have hB5 := Below.then hB4 hb5 hB4.size
                          clear cQ
                          go_wp2
                          go_ret
                          exact ⟨by rw [Hres.out]; rfl, hB5⟩
                        · rw [hi] at Hin
                          refine wp_region_lat (by kernel_rfl) (by kernel_rfl) ?_
                          repeat (first | go_big_quiet_skip | (go_big_quiet_want; first | ((first | (refine quiet_load_row 41 (.tmp 1) rfl w.heap.size 0 rfl (r.cells (.slice (some ⟨b, off, none⟩) n c)) _ (lat_range HR4.out lr4) Tryz.underlying41 rfl (by rw [sizeRg, Hrl.out]) ?_) | (refine quiet_load_row 39 (.tmp 80) rfl b (off + (m + 1) * 32) (by first | rfl | (simp)) (bytesV x) _ (lat_range (by simpa using Hra4.out) hb4') Tryz.underlying39 rfl (by rw [sizeDg, Hxl.out]) ?_)); simp only [Act.put, List.setIfInBounds_toArray, List.set_cons_zero, List.set_cons_succ]; go_big_quiet_on) | (go_big_quiet_op; first | go_big_quiet_on | go_big_quiet_call ((exact Calls.lat (Hin.out _))))))
                          refine wpQuiet_nil ?_
                          rintro W5 ⟨⟨_, hb5⟩, rfl⟩
                          have hB5 := Lib.hid (Below.then Hb4.out hb5 Hb4.out.size)
                          have Hst2 := Hnx.out
                          rw [Hany.out, hi, Hst.out] at Hst2
                          have Hst3 := Lib.hid Hst2
                          clear Hst2 cQ
                          go_wp2
                          go_roundw
                          case rel => exact ⟨m + 1 + 1, by omega, by go_num, Lib.hid Hst3.out.symm, hB5.out⟩
                          case measure => simp [intOf]; omega
                      · have Hres : Hid (oneE r = 9) := Lib.hid (by rw [Hone.out, ← Hst.out, Hnx.out, Hpv.out, hq]; rfl)
                        generalize r.ids[m + 1] = x at *
                        generalize r.ids[m] = y at *
                        go_wp2
                        have cQ := Lat.cells wr
                        refine wp_region_lat (by kernel_rfl) (by kernel_rfl) ?_
                        repeat (first | go_big_quiet_skip | (go_big_quiet_want; first | ((first | (refine quiet_load_row 39 (.tmp 66) rfl b (off + m * 32) rfl (bytesV y) _ (lat_range Hry.out hb) Tryz.underlying39 rfl (by rw [sizeDg, Hyl.out]) ?_) | (refine quiet_load_row 39 (.tmp 71) rfl b (off + (m + 1) * 32) rfl (bytesV x) _ (lat_range Hra.out hb) Tryz.underlying39 rfl (by rw [sizeDg, Hxl.out]) ?_)); simp only [Act.put, List.setIfInBounds_toArray, List.set_cons_zero, List.set_cons_succ]; go_big_quiet_on) | (go_big_quiet_op; first | go_big_quiet_on | go_big_quiet_call ((exact Calls.lat (Hcy.out _))))))
                        refine wpQuiet_nil ?_
                        rintro W4 ⟨⟨_, hb4⟩, rfl⟩
                        have hB4 := Below.then hBr hb4 hBr.size
                        clear cQ
                        go_wp2
                        go_ret
                        exact ⟨by rw [Hres.out]; rfl, hB4⟩
                  · obtain rfl : k = n := by omega
                    have hlt' : ¬ (k : Int) < (k : Int) := by omega
                    have Hres : Hid (oneE r = 0) := Lib.hid (by rw [Hone.out, ← Hst.out, List.drop_eq_nil_of_le (by rw [Hn.out]; exact Nat.le_refl _)]; cases prevO r.ids k <;> rfl)
                    go_wp2
                    go_ret
                    exact ⟨by rw [Hres.out]; rfl, hBr⟩
      · have Hres : Hid (oneE r = 1) := Lib.hid (by unfold oneE; rw [E1.out, hl, hcz]; rfl)
        go_wp2
        go_ret
        exact ⟨by rw [Hres.out]; rfl, hBa⟩
end Go.Proofs.YtebgopdmeghmhaaGreat
namespace Go.Proofs.YtebgopdmeghmhaaGreat
open Go.RowKit

set_option maxRecDepth 100000 in
set_option maxHeartbeats 4000000 in
theorem rf_Check {S : Nat → Prop} (w : World) (v : Value) (l : List Rg) (h : RgsR S w v l) (hm : l.length ≤ 4611686018427387904) (hmi : ∀ r ∈ l, r.ids.length ≤ 1000000) :
    Calls Tryz.prog 38 #[v] w fun e w' => e = .returned (.int .i64 (checkR l)) ∧ Below w.heap.size w w' := by
  obtain ⟨o, c, rfl⟩ := h.slice
  have HD := Lib.hid h
  have Hmi := Lib.hid hmi
  clear h hmi
  obtain ⟨n, hln⟩ : ∃ n, l.length = n := ⟨_, rfl⟩
  have Hn := Lib.hid hln
  rw [hln] at HD hm ⊢
  clear hln
  go_enter Tryz.func38, Tryz.ntmps38
  by_cases hg : 1000 < n
  · have hg' : (1000 : Int) < (n : Int) := by omega
    have Hres : Hid (checkR l = 4) := Lib.hid (by unfold checkR; rw [if_pos (by rw [Hn.out]; exact hg)])
    go_wp2
    go_ret
    exact ⟨by rw [Hres.out]; rfl, Below.refl _ _⟩
  · have hg' : ¬ (1000 : Int) < (n : Int) := by omega
    have Hone : Hid (checkR l = rgsE none l) := Lib.hid (by unfold checkR; rw [if_neg (by rw [Hn.out]; exact hg)])
    go_wp2
    go_loopw [3] (fun i wr => ∃ k : Nat, k ≤ n ∧ i = .int .i64 k ∧ Hid (rgsE (prevR l k) (l.drop k) = rgsE none l) ∧ Below w.heap.size w wr) (fun i _ => n - (intOf i).toNat)
    case atStart => exact ⟨0, by omega, rfl, Lib.hid rfl, Below.refl _ _⟩
    case round =>
      obtain ⟨k, hk, rfl, Hst, hB⟩ := hrel
      by_cases hlt : k < n
      · have hltl : k < l.length := by rw [Hn.out]; exact hlt
        have hlt' : (k : Int) < (n : Int) := by omega
        have hDr := HD.out.below hB
        obtain ⟨b, off, c', vi, e', _, _, _, hb, hra, hd, hok⟩ := hDr.at hltl
        rw [Hn.out] at e'
        obtain ⟨rfl, rfl⟩ : o = some ⟨b, off, none⟩ ∧ c = c' := by simpa using e'
        have Hnx := Lib.hid (rgsE_next hltl)
        have Hlen := Lib.hid (Rg.len hok vi)
        have Hra := Lib.hid hra
        have Hd := Lib.hid hd
        have HDr := Lib.hid hDr
        have Hok := Lib.hid hok
        have Hml : Hid (l[k].ids.length ≤ 1000000) := Lib.hid (Hmi.out _ (List.getElem_mem hltl))
        clear hra hd hok e' hDr
        generalize hx : l[k] = x at *
        go_wp2_with (refine wpList_load_mid rfl 41 (.tmp 16) rfl b (off + k * 99) rfl (x.cells vi) _ Hra.out Tryz.underlying41 rfl (by rw [sizeRg, Hlen.out]) ?_)
        refine (rf_one x vi Hok.out wr Hd.out Hml.out).mono ?_
        rintro e w7 ⟨rfl, hbr7⟩
        have hB7 := Below.then hB hbr7 hB.size
        have HD7 := Lib.hid (HDr.out.below hbr7)
        have Hra7 := Lib.hid (rangeAt_below Hra.out hbr7 hb)
        have hb7' := Nat.lt_of_lt_of_le hb hbr7.size
        clear Hra Hd HDr
        cases he : (oneE x != 0)
        · rcases Nat.eq_zero_or_pos k with rfl | hpos
          · have Hcl : Hid (clashB (prevR l 0) x = false) := Lib.hid rfl
            go_wp2_with fail
            have cQ := Lat.cells w7
            refine wp_region_lat (by kernel_rfl) (by kernel_rfl) ?_
            repeat (first | go_big_quiet_skip | (go_big_quiet_want; first | ((fail); simp only [Act.put, List.setIfInBounds_toArray, List.set_cons_zero, List.set_cons_succ]; go_big_quiet_on) | (go_big_quiet_op; first | go_big_quiet_on | go_big_quiet_call ((fail)))))
            refine wpQuiet_nil ?_
            rintro W8 ⟨⟨_, hb8⟩, rfl⟩
            have Hst2 : Hid (rgsE (prevR l (0 + 1)) (l.drop (0 + 1)) = rgsE none l) := Lib.hid (by
              have h := Hnx.out
              rw [if_pos (by simpa using he), Hcl.out, Hst.out] at h
              exact h.symm)
            have hb9 := Below.then hB7 hb8 hB7.size
            clear cQ
            go_wp2
            go_roundw
            case rel => exact ⟨0 + 1, by omega, by go_num, Hst2, hb9⟩
            case measure => simp [intOf]; omega
          · obtain ⟨m, rfl⟩ : ∃ m, k = m + 1 := ⟨k - 1, by omega⟩
            have hltm : m < l.length := by omega
            obtain ⟨b', off', c', vy, e', _, _, _, _, hry, _, hoky⟩ := HD7.out.at hltm
            rw [Hn.out] at e'
            obtain ⟨⟨rfl, rfl⟩, rfl⟩ : (b = b' ∧ off = off') ∧ c = c' := by simpa using e'
            have hpv : prevR l (m + 1) = some l[m] := List.getElem?_eq_getElem hltm
            have hcl : clashB (prevR l (m + 1)) x = (openB l[m].high || decide (0 < cmpD l[m].high x.low)) := by rw [hpv]; rfl
            have Hclq := Lib.hid hcl
            have Hryh := Lib.hid (Rg.high_at hoky hry)
            have Hlx := Lib.hid (Rg.low_at Hok.out Hra7.out)
            have Hyh : Hid ((bytesV l[m].high).length = 32) := Lib.hid (by rw [bytesV_len, hoky.2.1])
            have Hxl : Hid ((bytesV x.low).length = 32) := Lib.hid (by rw [bytesV_len, Hok.out.1])
            have Hop := Lib.hid (fun W => rf_zero l[m].high hoky.2.1 W)
            have Hcm := Lib.hid (fun W => ref02_compare l[m].high x.low hoky.2.1 Hok.out.1 W)
            clear hpv hcl hry hoky e' hpos
            generalize l[m] = y at *
            cases hoy : openB y.high
            · rw [hoy] at Hop
              cases hc : decide (0 < cmpD y.high x.low)
              · have Hcl : Hid (clashB (prevR l (m + 1)) x = false) := Lib.hid (by rw [Hclq.out, hoy, hc]; rfl)
                go_wp2_with fail
                have cQ := Lat.cells w7
                refine wp_region_lat (by kernel_rfl) (by kernel_rfl) ?_
                repeat (first | go_big_quiet_skip | (go_big_quiet_want; first | ((first | (refine quiet_load_row 39 (.tmp 29) rfl b (off + m * 99 + 32) rfl (bytesV y.high) _ (lat_range Hryh.out hb7') Tryz.underlying39 rfl (by rw [sizeDg, Hyh.out]) ?_) | (refine quiet_load_row 39 (.tmp 37) rfl b (off + m * 99 + 32) rfl (bytesV y.high) _ (lat_range Hryh.out hb7') Tryz.underlying39 rfl (by rw [sizeDg, Hyh.out]) ?_) | (refine quiet_load_row 39 (.tmp 42) rfl b (off + (m + 1) * 99) (by first | rfl | (simp)) (bytesV x.low) _ (lat_range Hlx.out hb7') Tryz.underlying39 rfl (by rw [sizeDg, Hxl.out]) ?_)); simp only [Act.put, List.setIfInBounds_toArray, List.set_cons_zero, List.set_cons_succ]; go_big_quiet_on) | (go_big_quiet_op; first | go_big_quiet_on | go_big_quiet_call ((first | exact Calls.lat (Hop.out _) | exact Calls.lat (Hcm.out _))))))
                refine wpQuiet_nil ?_
                rintro W8 ⟨⟨_, hb8⟩, rfl⟩
                have Hst2 : Hid (rgsE (prevR l (m + 1 + 1)) (l.drop (m + 1 + 1)) = rgsE none l) := Lib.hid (by
                  have h := Hnx.out
                  rw [if_pos (by simpa using he), Hcl.out, Hst.out] at h
                  exact h.symm)
                have hb9 := Below.then hB7 hb8 hB7.size
                clear cQ
                go_wp2
                go_roundw
                case rel => exact ⟨m + 1 + 1, by omega, by go_num, Hst2, hb9⟩
                case measure => simp [intOf]; omega
              · have Hcl : Hid (clashB (prevR l (m + 1)) x = true) := Lib.hid (by rw [Hclq.out, hoy, hc]; rfl)
                go_wp2_with fail
                have cQ := Lat.cells w7
                refine wp_region_lat (by kernel_rfl) (by kernel_rfl) ?_
                repeat (first | go_big_quiet_skip | (go_big_quiet_want; first | ((first | (refine quiet_load_row 39 (.tmp 29) rfl b (off + m * 99 + 32) rfl (bytesV y.high) _ (lat_range Hryh.out hb7') Tryz.underlying39 rfl (by rw [sizeDg, Hyh.out]) ?_) | (refine quiet_load_row 39 (.tmp 37) rfl b (off + m * 99 + 32) rfl (bytesV y.high) _ (lat_range Hryh.out hb7') Tryz.underlying39 rfl (by rw [sizeDg, Hyh.out]) ?_) | (refine quiet_load_row 39 (.tmp 42) rfl b (off + (m + 1) * 99) (by first | rfl | (simp)) (bytesV x.low) _ (lat_range Hlx.out hb7') Tryz.underlying39 rfl (by rw [sizeDg, Hxl.out]) ?_)); simp only [Act.put, List.setIfInBounds_toArray, List.set_cons_zero, List.set_cons_succ]; go_big_quiet_on) | (go_big_quiet_op; first | go_big_quiet_on | go_big_quiet_call ((first | exact Calls.lat (Hop.out _) | exact Calls.lat (Hcm.out _))))))
                refine wpQuiet_nil ?_
                rintro W8 ⟨⟨_, hb8⟩, rfl⟩
                have Hres : Hid (checkR l = 9) := Lib.hid (by
                  have h := Hnx.out
                  rw [if_pos (by simpa using he), Hcl.out, if_pos rfl] at h
                  rw [Hone.out, ← Hst.out]
                  exact h)
                have hB9 := Below.then hB7 hb8 hB7.size
                clear cQ
                go_wp2
                go_ret
                exact ⟨by rw [Hres.out]; rfl, hB9⟩
            · rw [hoy] at Hop
              have Hcl : Hid (clashB (prevR l (m + 1)) x = true) := Lib.hid (by rw [Hclq.out, hoy]; rfl)
              go_wp2_with fail
              have cQ := Lat.cells w7
              refine wp_region_lat (by kernel_rfl) (by kernel_rfl) ?_
              repeat (first | go_big_quiet_skip | (go_big_quiet_want; first | ((first | (refine quiet_load_row 39 (.tmp 29) rfl b (off + m * 99 + 32) rfl (bytesV y.high) _ (lat_range Hryh.out hb7') Tryz.underlying39 rfl (by rw [sizeDg, Hyh.out]) ?_) | (refine quiet_load_row 39 (.tmp 37) rfl b (off + m * 99 + 32) rfl (bytesV y.high) _ (lat_range Hryh.out hb7') Tryz.underlying39 rfl (by rw [sizeDg, Hyh.out]) ?_) | (refine quiet_load_row 39 (.tmp 42) rfl b (off + (m + 1) * 99) (by first | rfl | (simp)) (bytesV x.low) _ (lat_range Hlx.out hb7') Tryz.underlying39 rfl (by rw [sizeDg, Hxl.out]) ?_)); simp only [Act.put, List.setIfInBounds_toArray, List.set_cons_zero, List.set_cons_succ]; go_big_quiet_on) | (go_big_quiet_op; first | go_big_quiet_on | go_big_quiet_call ((first | exact Calls.lat (Hop.out _) | exact Calls.lat (Hcm.out _))))))
              refine wpQuiet_nil ?_
              rintro W8 ⟨⟨_, hb8⟩, rfl⟩
              have Hres : Hid (checkR l = 9) := Lib.hid (by
                have h := Hnx.out
                rw [if_pos (by simpa using he), Hcl.out, if_pos rfl] at h
                rw [Hone.out, ← Hst.out]
                exact h)
              have hB9 := Below.then hB7 hb8 hB7.size
              clear cQ
              go_wp2
              go_ret
              exact ⟨by rw [Hres.out]; rfl, hB9⟩
        · have Hres : Hid (checkR l = oneE x) := Lib.hid (by rw [Hone.out, ← Hst.out, Hnx.out, if_neg (by simpa using he)])
          go_wp2
          go_ret
          exact ⟨by rw [Hres.out]; rfl, hB7⟩
      · obtain rfl : k = n := by omega
        have hlt' : ¬ (k : Int) < (k : Int) := by omega
        have Hres : Hid (checkR l = 0) := Lib.hid (by rw [Hone.out, ← Hst.out, List.drop_eq_nil_of_le (by rw [Hn.out]; exact Nat.le_refl _)]; cases prevR l k <;> rfl)
        go_wp2
        go_ret
        exact ⟨by rw [Hres.out]; rfl, hB⟩
end Go.Proofs.YtebgopdmeghmhaaGreat
namespace Go.Proofs.YtebgopdmeghmhaaGreat
open Go.RowKit

theorem Acc.empty3 (w : World) : Acc (((w.alloc (.cells #[] 41)).alloc (.cells #[] 39)).alloc (.cells #[] 39)) w.heap.size (.slice (some ⟨w.heap.size, 0, none⟩) 0 0) (.slice (some ⟨w.heap.size + 1, 0, none⟩) 0 0) (.slice (some ⟨w.heap.size + 2, 0, none⟩) 0 0) [] [] [] := by
  have x0 := ((Bx.new w #[] 41).alloc (.cells #[] 39)).alloc (.cells #[] 39)
  have x1 := (Bx.newAt (w.alloc (.cells #[] 41)) #[] 39 (w.heap.size + 1) (by simp)).alloc (.cells #[] 39)
  have x2 := Bx.newAt ((w.alloc (.cells #[] 41)).alloc (.cells #[] 39)) #[] 39 (w.heap.size + 2) (by simp)
  exact ⟨⟨[], rfl, ownsRow_bx0 x0 (Nat.le_refl _), (fun i h => absurd h (Nat.not_lt_zero _)), fun _ h => by cases h⟩, ⟨ownsRow_bx0 x1 (by omega), fun _ h => by cases h⟩, ⟨ownsRow_bx0 x2 (by omega), fun _ h => by cases h⟩, fun b e => by
    obtain rfl : w.heap.size + 1 = b := Option.some.inj e
    intro e2
    have h3 : w.heap.size + 2 = w.heap.size + 1 := Option.some.inj e2
    omega⟩
/-- blocks made after the rows -/
theorem Acc.far {w : World} {base : Nat} {vr vw vg : Value} {R : List Rg} {W G : List (List UInt8)} (h : Acc w base vr vw vg R W G) (hb : base ≤ w.heap.size) {b : Nat} (hle : w.heap.size ≤ b) : Far base vr vw vg b :=
  ⟨Nat.le_trans hb hle, fun e => by have := (h.rs.lt e).2; omega, fun e => by have := (h.ws.lt e).2; omega, fun e => by have := (h.gs.lt e).2; omega⟩
set_option maxRecDepth 100000 in
set_option maxHeartbeats 16000000 in
theorem rf_Answer {S1 S2 : Nat → Prop} (w : World) (v v2 : Value) (ids : List (List UInt8)) (l : List Rg) (h : DigR S1 w v ids) (h2 : RgsR S2 w v2 l) (hm : ids.length ≤ 1000000) (hl : l.length ≤ 4611686018427387904) (hmi : ∀ r ∈ l, r.ids.length ≤ 1000000) :
    Calls Tryz.prog 17 #[v, v2] w (AnsP w (ansD ids l)) := by
  obtain ⟨o, c, rfl⟩ : ∃ o c, v = .slice o ids.length c := by obtain ⟨⟨o, c, e, _⟩, _⟩ := h; rw [digC_size] at e; exact ⟨o, c, e⟩
  obtain ⟨o2, c2, rfl⟩ := h2.slice
  obtain ⟨z1, hz1⟩ : ∃ z, ((⟨zeroD, zeroD, false, 0, zeroD, []⟩ : Rg).cells (.slice none 0 0)).toArray = z := ⟨_, rfl⟩
  have hzl : z1.size = 99 := by rw [← hz1]; rfl
  have Hzi : Hid ((Tryz.prog.info? 41).map (·.zero) = some (some (.agg z1))) := Lib.hid (by
    have := infoRg
    rw [hz1] at this
    obtain ⟨i, hi, hj⟩ := Option.map_eq_some_iff.1 this
    rw [hi]
    simp only [Option.map_some]
    rw [(Prod.mk.inj hj).1])
  have Hzl := Lib.hid hzl
  obtain ⟨idg, hidg, hzd, hsd, hbyd⟩ := info_parts infoDg
  have Hi := Lib.hid (And.intro hidg (And.intro hzd (And.intro hsd hbyd)))
  obtain ⟨ir, hir, hzr, hsr, hbr⟩ := info_parts infoRg3
  have Hir := Lib.hid (And.intro hir (And.intro hzr (And.intro hsr hbr)))
  have hB0 : Below w.heap.size w (((w.alloc (.cells #[] 41)).alloc (.cells #[] 39)).alloc (.cells #[] 39)) := ((Below.one w _).alloc (by simp) _).alloc (by simp; omega) _
  have Hasc := Lib.hid (rf_ascending _ _ ids (h.below hB0) hm)
  have HI := Lib.hid h
  have HL := Lib.hid h2
  have Hmi := Lib.hid hmi
  have Hck := Lib.hid (fun W (hW : Below w.heap.size w W) => rf_Check W _ l (h2.below hW) hl hmi)
  have HA0 := Lib.hid (Acc.empty3 w)
  obtain ⟨n, hn⟩ : ∃ n, l.length = n := ⟨_, rfl⟩
  have Hn := Lib.hid hn
  obtain ⟨m, hmm⟩ : ∃ m, ids.length = m := ⟨_, rfl⟩
  have Hm := Lib.hid hmm
  rw [hn] at Hck HL hl ⊢
  rw [hmm] at Hasc HI hm ⊢
  clear h h2 hmi hn hmm hz1 hzl hidg hzd hsd hbyd hir hzr hsr hbr
  go_enter Tryz.func17, Tryz.ntmps17
  go_wp2_with fail
  generalize ((w.alloc (.cells #[] 41)).alloc (.cells #[] 39)).alloc (.cells #[] 39) = w0 at *
  cases ha : ascB ids
  · rw [ha] at Hasc
    have Hres : Hid (ansD ids l = ⟨[], [], [], 9⟩) := Lib.hid (by unfold ansD; rw [ha]; rfl)
    refine Hasc.out.mono ?_
    rintro e w1 ⟨rfl, hb1⟩
    have hB1 := Below.then hB0 hb1 hB0.size
    have HA1 := Lib.hid (HA0.out.below hb1)
    go_wp2
    rw [Hres.out]
    exact bodyPost_ret (v := .tuple #[.slice (some ⟨w.heap.size, 0, none⟩) 0 0, .slice (some ⟨w.heap.size + 1, 0, none⟩) 0 0, .slice (some ⟨w.heap.size + 2, 0, none⟩) 0 0, .int .i64 9]) (by simp [results, Tryz.results17, go_sem]) rfl ⟨_, _, _, rfl, HA1.out.rs.new (Nat.le_refl _), HA1.out.ws.dig, HA1.out.gs.dig, hB1⟩
  · rw [ha] at Hasc
    refine Hasc.out.mono ?_
    rintro e w1 ⟨rfl, hb1⟩
    have hB1 := Below.then hB0 hb1 hB0.size
    have HA1 := Lib.hid (HA0.out.below hb1)
    have Hck1 := Lib.hid (Hck.out w1 hB1)
    clear Hck HA0 hB0 hb1
    cases hc : (checkR l != 0)
    · have hc0 : checkR l = 0 := by simpa using hc
      have Hres : Hid (ansD ids l = ⟨l.flatMap fun r => partR r (ownR ids r), l.flatMap fun r => partW r (ownR ids r), l.flatMap fun r => partG r (ownR ids r), 0⟩) := Lib.hid (by unfold ansD; rw [ha, if_pos rfl, if_pos hc0])
      have hlen : n ≤ 1000 := by have := (of_checkR hc0).2.2; rwa [Hn.out] at this
      rw [hc0] at Hck1
      clear hc hc0
      go_wp2_with fail
      refine Hck1.out.mono ?_
      rintro e w2 ⟨rfl, hb2⟩
      have hB2 := Below.then hB1 hb2 hB1.size
      have HA2 := Lib.hid (HA1.out.below hb2)
      clear hb2 Hck1 HA1 hB1
      go_wp2
      go_loopw [8, 9, 10, 12] (fun a8 a9 a10 i wr => ∃ (k : Nat) (vr vw vg : Value), k ≤ n ∧ a8 = vr ∧ a9 = vw ∧ a10 = vg ∧ i = .int .i64 k ∧ Acc wr w.heap.size vr vw vg ((l.take k).flatMap fun r => partR r (ownR ids r)) ((l.take k).flatMap fun r => partW r (ownR ids r)) ((l.take k).flatMap fun r => partG r (ownR ids r)) ∧ Below w.heap.size w wr) (fun _ _ _ i _ => n - (intOf i).toNat)
      case atStart => exact ⟨0, _, _, _, by omega, rfl, rfl, rfl, rfl, HA2.out, hB2⟩
      case round =>
        clear HA2 hB2
        obtain ⟨k, _, _, _, hk, rfl, rfl, rfl, rfl, hA, hB⟩ := hrel
        have HA := Lib.hid hA
        clear hA
        by_cases hlt : k < n
        · have hltl : k < l.length := by rw [Hn.out]; exact hlt
          have hlt' : (k : Int) < (n : Int) := by omega
          obtain ⟨b, off, c', vi, e', _, _, _, hb0, hra, hd, hok⟩ := (by have := HL.out; rw [← Hn.out] at this; exact this.at hltl)
          rw [Hn.out] at e'
          obtain ⟨rfl, rfl⟩ : o2 = some ⟨b, off, none⟩ ∧ c2 = c' := by simpa using e'
          have hvi : vi.oneCell' = true := by obtain ⟨⟨o, c, e, _⟩, _⟩ := hd; rw [e]; rfl
          obtain ⟨oi, ci, rfl⟩ : ∃ o c, vi = .slice o l[k].ids.length c := by obtain ⟨⟨o, c, e, _⟩, _⟩ := hd; rw [digC_size] at e; exact ⟨o, c, e⟩
          obtain ⟨q, hq⟩ : ∃ q, l[k].ids.length = q := ⟨_, rfl⟩
          have Hq := Lib.hid hq
          rw [hq] at hra hd hvi
          have Hlen := Lib.hid (Rg.len hok (.slice oi q ci))
          have Hone1 := Lib.hid (Rg.one l[k] (.slice oi q ci) hvi)
          have Hra := Lib.hid (rangeAt_below hra hB hb0)
          have hb := Nat.lt_of_lt_of_le hb0 hB.size
          have hb6 : Below wr.heap.size wr ((wr.alloc (.cells z1 41)).setCells wr.heap.size 0 (l[k].cells (.slice oi q ci)).toArray.toList) := below_setCells (Nat.le_refl _) _ _ _ (Below.one wr (.cells z1 41))
          have xd := (Bx.new wr z1 41).setAll (cx := (l[k].cells (.slice oi q ci)).toArray) (by rw [Hzl.out, List.size_toArray, Hlen.out])
          have HXd : Hid (((wr.alloc (.cells z1 41)).setCells wr.heap.size 0 (l[k].cells (.slice oi q ci)).toArray.toList).rangeAt wr.heap.size 0 (l[k].cells (.slice oi q ci))) := Lib.hid (by simpa using xd.range)
          have lX := xd.lt
          have hdl := hd.lt
          have Hd0 := Lib.hid hdl
          have H6 := Lib.hid hb6
          have Hok := Lib.hid hok
          have Hml : Hid (q ≤ 1000000) := Lib.hid (by rw [← hq]; exact Hmi.out _ (List.getElem_mem hltl))
          have Hf1 := Lib.hid (flat_take hltl fun r => partR r (ownR ids r))
          have Hf2 := Lib.hid (flat_take hltl fun r => partW r (ownR ids r))
          have Hf3 := Lib.hid (flat_take hltl fun r => partG r (ownR ids r))
          have hs6 := hb6.size
          have hB6 := Below.then hB hb6 hB.size
          have Hins := Lib.hid (rf_ins _ (.slice o ids.length c) ids (by have h1 := HI.out.below hB6; rw [← Hm.out] at h1; exact h1) l[k] (.slice oi q ci) hok (by rw [Hm.out]; exact hm))
          rw [Hm.out] at Hins
          have Hfb : Hid (∀ f : Rg → List (List UInt8), (∀ r ∈ l, (f r).length ≤ 1000000) → ((l.take k).flatMap f).length ≤ 1000000000) := Lib.hid fun f hf => by
            have h1 := flat_bound (l := l.take k) (f := f) (m := 1000000) (fun r hr => hf r (List.mem_of_mem_take hr))
            have h2 : (l.take k).length ≤ 1000 := by rw [List.length_take]; omega
            have h3 := Nat.mul_le_mul_right 1000000 h2
            omega
          have Hfr : Hid (((l.take k).flatMap fun r => partR r (ownR ids r)).length ≤ 1000000000) := Lib.hid (by
            have h1 := flat_bound (l := l.take k) (f := fun r => partR r (ownR ids r)) (m := 2) (fun r _ => partR_len _ _)
            have h2 : (l.take k).length ≤ 1000 := by rw [List.length_take]; omega
            omega)
          have Hol : Hid (∀ r : Rg, (ownR ids r).length ≤ 1000000) := Lib.hid fun r => Nat.le_trans (List.length_filter_le _ _) (by rw [Hm.out]; exact hm)
          have Hod : Hid (∀ r : Rg, Dok (ownR ids r)) := Lib.hid fun r d hd => HI.out.2 d (List.mem_filter.1 hd).1
          clear hra hd hok e' hvi xd hb6 hdl hb0
          generalize hx : l[k] = x at *
          clear hx hltl hq
          go_wp2_with (first
            | (refine wpList_load_mid rfl 41 (.tmp 41) rfl b (off + k * 99) rfl (x.cells (.slice oi q ci)) _ Hra.out Tryz.underlying41 rfl (by rw [sizeRg, Hlen.out]) ?_)
            | (refine wpList_alloc_row rfl 41 rfl z1 Hzi.out ?_)
            | (refine wpList_store_mid rfl 41 (.tmp 13) (.tmp 42) rfl wr.heap.size 0 (x.cells (.slice oi q ci)).toArray rfl rfl (there_bx (Bx.new wr z1 41) (by rw [Hzl.out, List.size_toArray, Hlen.out]; exact Nat.le_refl _)) (by rw [sizeRg, List.size_toArray, Hlen.out]) (by simpa using Hone1.out) ?_; generalize (wr.alloc (.cells z1 41)).setCells wr.heap.size 0 (x.cells (.slice oi q ci)).toArray.toList = w6 at *)
            | (refine wpList_load_mid rfl 41 (.tmp 13) rfl wr.heap.size 0 rfl (x.cells (.slice oi q ci)) _ HXd.out Tryz.underlying41 rfl (by rw [sizeRg, Hlen.out]) ?_))
          refine Hins.out.mono ?_
          rintro e w7 ⟨u, rfl, ho7, hb7⟩
          have HO7 : Hid (DgO w7 wr.heap.size u (ownR ids x)) := Lib.hid ⟨ownsRow_lower ho7 hs6, Hod.out x⟩
          have hbw7 := Below.then H6.out hb7 hs6
          have hB7 := Below.then hB hbw7 hB.size
          have HX7 := Lib.hid (rangeAt_below HXd.out hb7 lX)
          have lX7 : wr.heap.size < w7.heap.size := Nat.lt_of_lt_of_le lX hb7.size
          have HA7 := Lib.hid (HA.out.below hbw7)
          have Hd7 := Lib.hid (Hd0.out.below hB7)
          have hz7 := hbw7.size
          have Hfar7 : Hid (∀ q, wr.heap.size ≤ q → Far w.heap.size u8 u9 u10 q) := Lib.hid fun q hq => HA.out.far hB.size hq
          clear ho7 hb7 Hins HXd Hd0 H6 hbw7 Hra
          obtain ⟨ou, cu, rfl, _, _⟩ := HO7.out.shape
          obtain ⟨nu, hnu⟩ : ∃ nu, (ownR ids x).length = nu := ⟨_, rfl⟩
          have Hnu := Lib.hid hnu
          rw [hnu] at HO7
          have hnb : nu ≤ 1000000 := by rw [← hnu]; exact Hol.out x
          rw [hnu]
          clear hnu
          generalize hoo : ownR ids x = oo at *
          clear hoo
          have c64 : w7.cell? ⟨wr.heap.size, 64, none⟩ = some (.bool x.listed) := by simpa using Rg.listed_at Hok.out HX7.out
          have c65 : w7.cell? ⟨wr.heap.size, 65, none⟩ = some (.int .i64 x.count) := by simpa using Rg.count_at Hok.out HX7.out
          have c98 : w7.cell? ⟨wr.heap.size, 98, none⟩ = some (.slice oi q ci) := by simpa using Rg.ids_at Hok.out HX7.out
          have HOd : Hid (DigR (fun b => wr.heap.size ≤ b) w7 (.slice ou nu cu) oo) := Lib.hid (HO7.out.dig.mono fun b hb => hb.1)
          have Hdoo := Lib.hid HO7.out.2
          have hlu8 : ∀ b, u8.ownBlock = some b → w.heap.size ≤ b ∧ b < wr.heap.size := fun b e => HA.out.rs.lt e
          have hlu9 : ∀ b, u9.ownBlock = some b → w.heap.size ≤ b ∧ b < wr.heap.size := fun b e => HA.out.ws.lt e
          have hlu10 : ∀ b, u10.ownBlock = some b → w.heap.size ≤ b ∧ b < wr.heap.size := fun b e => HA.out.gs.lt e
          have hzw := hB.size
          have Hll : Hid ((bytesV x.low).length = 32) := Lib.hid (by rw [bytesV_len, Hok.out.1])
          have Hhl : Hid ((bytesV x.high).length = 32) := Lib.hid (by rw [bytesV_len, Hok.out.2.1])
          have Hpl : Hid ((bytesV x.print).length = 32) := Lib.hid (by rw [bytesV_len, Hok.out.2.2.1])
          cases hl1 : x.listed
          · rw [hl1] at c64
            have Hps : Hid (∀ q, sameP x oo = q → partR x oo = (if q then [] else if oo.length ≤ 8 then [descR x.low x.high oo] else [summR x.low (midD oo) (oo.take (oo.length / 2)), summR (midD oo) x.high (oo.drop (oo.length / 2))]) ∧ partW x oo = [] ∧ partG x oo = []) := Lib.hid fun q hq => by
              unfold partR partW partG
              rw [hl1, hq]
              exact ⟨rfl, rfl, rfl⟩
            have HRp := Lib.hid (Rg.print_at Hok.out HX7.out)
            have HRl := Lib.hid (Rg.low_at Hok.out HX7.out)
            have HRh := Lib.hid (Rg.high_at Hok.out HX7.out)
            have Hpr := Lib.hid (fun (yL : Lat w7) => rf_Print yL.w (.slice ou nu cu) oo (HOd.out.below yL.h) (by rw [Hnu.out]; exact hnb))
            go_wp2
            have cQ := Lat.cells w7
            cases hcn : (x.count == (nu : Int))
            · have Hsm : Hid (sameP x oo = false) := Lib.hid (by unfold sameP; rw [Hnu.out, decide_eq_false (by simpa using hcn)]; rfl)
              refine wp_region_lat (by kernel_rfl) (by kernel_rfl) ?_
              repeat (first | go_big_quiet_skip | (go_big_quiet_want; first | ((fail); simp only [Act.put, List.setIfInBounds_toArray, List.set_cons_zero, List.set_cons_succ]; go_big_quiet_on) | (go_big_quiet_op; first | go_big_quiet_on | go_big_quiet_call ((fail)))))
              refine wpQuiet_nil ?_
              rintro W4 ⟨⟨_, hb4⟩, rfl⟩
              have HA4 := Lib.hid (HA7.out.below hb4)
              have hB4 := Below.then hB7 hb4 hB7.size
              have HRl4 := Lib.hid (rangeAt_below HRl.out hb4 lX7)
              have HRh4 := Lib.hid (rangeAt_below HRh.out hb4 lX7)
              have lX4 := Nat.lt_of_lt_of_le lX7 hb4.size
              have HO4 := Lib.hid (HOd.out.below hb4)
              have hz4 := hB4.size
              have hzr4 : wr.heap.size ≤ W4.heap.size := Nat.le_trans hz7 hb4.size
              clear cQ hb4 HA7 HRp HRl HRh Hpr c64 c65 c98 hcn
              generalize hRR : ((l.take k).flatMap fun r => partR r (ownR ids r)) = RR at *
              have HRR := Lib.hid hRR
              clear hRR
              by_cases h8 : nu ≤ 8
              · have h8' : (nu : Int) ≤ 8 := by omega
                have Hpart : Hid (partR x oo = [listR x.low x.high oo] ∧ partW x oo = [] ∧ partG x oo = []) := Lib.hid (by
                  have h1 := Hps.out false Hsm.out
                  rw [h1.1, h1.2.1, h1.2.2, if_neg (by decide), if_pos (by rw [Hnu.out]; exact h8)]
                  unfold descR
                  rw [if_neg (by rw [Hnu.out]; omega)]
                  exact ⟨rfl, rfl, rfl⟩)
                have HokL : Hid ((listR x.low x.high oo).ok) := Lib.hid ⟨by have := Hll.out; rwa [bytesV_len] at this, by have := Hhl.out; rwa [bytesV_len] at this, zero32, Hdoo.out⟩
                have Hls := Lib.hid (fun W => rf_listed W x.low x.high (by have := Hll.out; rwa [bytesV_len] at this) (by have := Hhl.out; rwa [bytesV_len] at this) ou nu cu)
                go_wp2_with (first
                  | (refine wpList_load_mid rfl 39 (.tmp 76) rfl wr.heap.size 0 (by first | rfl | (simp)) (bytesV x.low) _ (by simpa using HRl4.out) Tryz.underlying39 rfl (by rw [sizeDg, Hll.out]) ?_)
                  | (refine wpList_load_mid rfl 39 (.tmp 78) rfl wr.heap.size 32 (by first | rfl | (simp)) (bytesV x.high) _ (by simpa using HRh4.out) Tryz.underlying39 rfl (by rw [sizeDg, Hhl.out]) ?_))
                refine (Hls.out _).mono ?_
                rintro e w8 ⟨he, hb8⟩
                have he' : e = .returned ((listR x.low x.high oo).V (.slice ou nu cu)) := he
                clear he
                subst he'
                have HA8 := Lib.hid (HA4.out.below hb8)
                have hB8 := Below.then hB4 hb8 hB4.size
                have HO8 := Lib.hid (HO4.out.below hb8)
                have hz8 := hB8.size
                have Hids : Hid ((listR x.low x.high oo).ids = oo) := Lib.hid rfl
                generalize listR x.low x.high oo = y at *
                have Hylen := Lib.hid (Rg.len HokL.out (.slice ou nu cu))
                have Hyone := Lib.hid (Rg.one y (.slice ou nu cu) rfl)
                have xb := Bx.new w8 (y.cells (.slice ou nu cu)).toArray 41
                have hb9 := Below.one w8 (.cells (y.cells (.slice ou nu cu)).toArray 41)
                have HA9 := Lib.hid (HA8.out.below hb9)
                have hB9 := Below.then hB8 hb9 hB8.size
                have HO9 := Lib.hid (HO8.out.below hb9)
                have hz9 := hB9.size
                have Hrow : Hid (RowAt (· = w8.heap.size) (w8.alloc (.cells (y.cells (.slice ou nu cu)).toArray 41)) (some ⟨w8.heap.size, 0, none⟩) (y.cells (.slice ou nu cu))) := Lib.hid (by have := RowAt.bx xb; simpa using this)
                obtain ⟨vs, hvs, hown, hvd, _⟩ := HA9.out.rs
                have Hown := Lib.hid hown
                have Hvs := Lib.hid hvs
                have Hvd := Lib.hid hvd
                clear hb8 HA4 HA8 HO4 HO8 xb hb9 hown hvs hvd Hls HRl4 HRh4
                go_wp2_with (first
                  | (refine wpList_build1 rfl 32 (.tmp 81) rfl 41 ir (Rg.zero.cells (.slice none 0 0)) 99 Tryz.underlying32 Hir.out.1 Hir.out.2.1 Hir.out.2.2.1 zeroRg_len (by decide) (y.cells (.slice ou nu cu)) Hylen.out rfl ?_)
                  | (refine wpList_appK rfl (.tmp 75) (.tmp 82) 32 rfl w.heap.size 41 ir _ 99 136 Tryz.underlying32 Hir.out.1 Hir.out.2.1 Hir.out.2.2.1 Hir.out.2.2.2 (by simp [Value.cells, zeroRg_len]) (by decide) u8 RR.length (rgsC RR vs).flatten rfl Hown.out (some ⟨w8.heap.size, 0, none⟩) 1 1 (y.cells (.slice ou nu cu)) rfl (fun h => by cases h) (by rw [Hylen.out]) Hrow.out Hyone.out (by have := Hfr.out; unfold maxLen; omega) (by have := Hfr.out; omega) hz9 ?_; intro v10 w10 ho10 hg10 hk10))
                have HA10 := HA9.out.addR (X := [y]) (xs := [.slice ou nu cu]) Hvs.out Hvd.out (by simpa [rgsC] using ho10) (fun q hq => by rw [List.mem_singleton.1 hq]; exact HokL.out) rfl (fun i hi => match i, hi with | 0, _ => (show DigR (Far w.heap.size u8 u9 u10) _ (.slice ou nu cu) y.ids from by rw [Hids.out]; exact HO9.out.mono fun b hb => Hfar7.out b hb)) hg10 hk10
                have hB10 : Below w.heap.size w w10 := hB9.grown hg10 hz9 (fun b e => (hlu8 b e).1)
                have Hnew : Hid (Acc w10 w.heap.size v10 u9 u10 ((l.take (k + 1)).flatMap fun r => partR r (ownR ids r)) ((l.take (k + 1)).flatMap fun r => partW r (ownR ids r)) ((l.take (k + 1)).flatMap fun r => partG r (ownR ids r))) := Lib.hid (by
                  rw [Hf1.out, Hf2.out, Hf3.out, Hpart.out.1, Hpart.out.2.1, Hpart.out.2.2, List.append_nil, List.append_nil]
                  exact HA10)
                clear ho10 hg10 hk10 HA10 HA9 HO9 Hrow Hown Hvs Hvd
                go_wp2
                go_roundw
                case rel => exact ⟨k + 1, _, _, _, by omega, rfl, rfl, rfl, by go_num, Hnew.out, hB10⟩
                case measure => simp [intOf]; omega
              · have h8' : ¬ (nu : Int) ≤ 8 := by omega
                obtain ⟨p, hp⟩ : ∃ p, p = nu / 2 := ⟨_, rfl⟩
                have Hp := Lib.hid hp
                have hp1 : 0 ≤ (p : Int) := by omega
                have hp2 : (p : Int) ≤ (nu : Int) := by omega
                have hp3 : (p : Int) < (nu : Int) := by omega
                have hpq : (nu : Int) / 2 = (p : Int) := by omega
                have hpt : (nu : Int).tdiv 2 = (p : Int) := by rw [Int.tdiv_eq_ediv_of_nonneg (by omega)]; omega
                clear hp
                obtain ⟨bo, offo, co', e', hc1, hc2, _, hbo, hrm⟩ := HO4.out.at (i := p) (by rw [Hnu.out]; omega)
                rw [Hnu.out] at e' hc1
                obtain ⟨rfl, rfl⟩ : ou = some ⟨bo, offo, none⟩ ∧ cu = co' := by simpa using e'
                have hmd := midD_at Hnu.out Hp.out (by rw [Hnu.out]; omega)
                rw [← hmd] at hrm
                have Hrm := Lib.hid hrm
                have hml : (midD oo).length = 32 := by rw [hmd]; exact Hdoo.out _ (List.getElem_mem _)
                have Hmb : Hid ((bytesV (midD oo)).length = 32) := Lib.hid (by rw [bytesV_len, hml])
                have Hpart : Hid (partR x oo = [summR x.low (midD oo) (oo.take p), summR (midD oo) x.high (oo.drop p)] ∧ partW x oo = [] ∧ partG x oo = []) := Lib.hid (by
                  have h1 := Hps.out false Hsm.out
                  rw [h1.1, h1.2.1, h1.2.2, if_neg (by decide), if_neg (by rw [Hnu.out]; exact h8), Hnu.out, ← Hp.out]
                  exact ⟨rfl, rfl, rfl⟩)
                unfold maxLen at hc2
                have Hs1 := Lib.hid (fun (yL : Lat W4) => rf_marked yL.w x.low (midD oo) (by have := Hll.out; rwa [bytesV_len] at this) hml (.slice (some ⟨bo, offo, none⟩) p cu) (oo.take p) ((HO4.out.below yL.h).take Hnu.out (by omega)) (by rw [List.length_take]; omega))
                have Hs2 := Lib.hid (fun (yL : Lat W4) => rf_marked yL.w (midD oo) x.high hml (by have := Hhl.out; rwa [bytesV_len] at this) (.slice (some ⟨bo, offo + p * 32, none⟩) (nu - p) (cu - p)) (oo.drop p) ((HO4.out.below yL.h).drop Hnu.out (by omega)) (by rw [List.length_drop]; have := Hnu.out; omega))
                have Hok1 : Hid ((summR x.low (midD oo) (oo.take p)).ok) := Lib.hid ⟨by have := Hll.out; rwa [bytesV_len] at this, hml, printD_len _, fun _ h => by cases h⟩
                have Hok2 : Hid ((summR (midD oo) x.high (oo.drop p)).ok) := Lib.hid ⟨hml, by have := Hhl.out; rwa [bytesV_len] at this, printD_len _, fun _ h => by cases h⟩
                have Hid1 : Hid ((summR x.low (midD oo) (oo.take p)).ids = []) := Lib.hid rfl
                have Hid2 : Hid ((summR (midD oo) x.high (oo.drop p)).ids = []) := Lib.hid rfl
                clear e' hmd hrm hml
                go_wp2
                have cQ := Lat.cells W4
                refine wp_region_lz 26 2 #[true, true, true, true, true, true, true, true, true, true, true, true, true, true, true, true, true, true, true, true, true, true, true, true, true, true, false, false] (fun i => if i = 12 then some (annK ((summR x.low (midD oo) (oo.take p)).V (.slice none 0 0))) else if i = 24 then some (annK ((summR (midD oo) x.high (oo.drop p)).V (.slice none 0 0))) else if i = 25 then some ⟨fun q => .slice (some ⟨q.lo, 0, none⟩) 2 2, fun k X => W4.heap.size ≤ k.lo ∧ Bx X k.lo ((summR x.low (midD oo) (oo.take p)).cells (.slice none 0 0) ++ (summR (midD oo) x.high (oo.drop p)).cells (.slice none 0 0)).toArray 41⟩ else none) (by kernel_rfl) (by rfl) (by rfl) (by kernel_rfl) ?_
                simp only [List.take_succ_cons, List.take_zero]
                refine LW.block 12 12 (by rfl) (by kernel_rfl) (by kernel_rfl) ?_
                simp only [List.take_succ_cons, List.take_zero, List.drop_succ_cons, List.drop_zero]
                repeat (first | go_big_quiet_skip | (go_big_quiet_want; first | ((first | (refine quiet_load_row 39 (.tmp 85) rfl wr.heap.size 0 (by first | rfl | (simp)) (bytesV x.low) _ (lat_range (by simpa using HRl4.out) lX4) Tryz.underlying39 rfl (by rw [sizeDg, Hll.out]) ?_) | (refine quiet_load_row 39 (.tmp 90) rfl bo (offo + p * 32) (by first | rfl | (simp)) (bytesV (midD oo)) _ (lat_range Hrm.out hbo) Tryz.underlying39 rfl (by rw [sizeDg, Hmb.out]) ?_)); simp only [Act.put, List.setIfInBounds_toArray, List.set_cons_zero, List.set_cons_succ]; go_big_quiet_on) | (go_big_quiet_op; go_big_quiet_on)))
                refine wpQuiet_nil ?_
                refine LW.lzy _ (by rfl) (by rfl) ?_ ?_
                · intro yL _
                  unfold lzAt
                  go_simp
                  exact lz_constB (Hs1.out yL)
                intro _
                simp only [Act.put, List.setIfInBounds_toArray, List.set_cons_zero, List.set_cons_succ]
                (try simp only [annK])
                refine LW.block 11 24 (by rfl) (by kernel_rfl) (by kernel_rfl) ?_
                simp only [List.take_succ_cons, List.take_zero, List.drop_succ_cons, List.drop_zero]
                repeat (first | go_big_quiet_skip | (go_big_quiet_want; first | ((first | (refine quiet_load_row 39 (.tmp 102) rfl wr.heap.size 32 (by first | rfl | (simp)) (bytesV x.high) _ (lat_range (by simpa using HRh4.out) lX4) Tryz.underlying39 rfl (by rw [sizeDg, Hhl.out]) ?_) | (refine quiet_load_row 39 (.tmp 100) rfl bo (offo + p * 32) (by first | rfl | (simp)) (bytesV (midD oo)) _ (lat_range Hrm.out hbo) Tryz.underlying39 rfl (by rw [sizeDg, Hmb.out]) ?_)); simp only [Act.put, List.setIfInBounds_toArray, List.set_cons_zero, List.set_cons_succ]; go_big_quiet_on) | (go_big_quiet_op; go_big_quiet_on)))
                refine wpQuiet_nil ?_
                refine LW.lzy _ (by rfl) (by rfl) ?_ ?_
                · intro yL _
                  unfold lzAt
                  go_simp
                  exact lz_constB (Hs2.out yL)
                intro _
                simp only [Act.put, List.setIfInBounds_toArray, List.set_cons_zero, List.set_cons_succ]
                (try simp only [annK])
                generalize summR x.low (midD oo) (oo.take p) = s1 at *
                generalize summR (midD oo) x.high (oo.drop p) = s2 at *
                have Hy1 := Lib.hid (Rg.len Hok1.out (.slice none 0 0))
                have Hy2 := Lib.hid (Rg.len Hok2.out (.slice none 0 0))
                refine LW.lzy _ (by rfl) (by rfl) ?_ ?_
                · intro yL hF
                  exact lz_buildR2 32 (.tmp 96) (.tmp 108) rfl 41 ir (Rg.zero.cells (.slice none 0 0)) 99 Tryz.underlying32 Hir.out.1 Hir.out.2.1 Hir.out.2.2.1 zeroRg_len (by decide) (s1.cells (.slice none 0 0)) (s2.cells (.slice none 0 0)) Hy1.out Hy2.out rfl rfl ⟨Below.one _ _, fun _ => undef, rfl, fun w'' hb => ⟨yL.h.size, (Bx.new _ _ _).belowAll hb⟩⟩
                intro q21
                simp only [Act.put, List.setIfInBounds_toArray, List.set_cons_zero, List.set_cons_succ]
                refine LW.done ?_
                intro W' hG'
                have hb11 : W4.heap.size ≤ q21.lo ∧ Bx W' q21.lo (s1.cells (.slice none 0 0) ++ s2.cells (.slice none 0 0)).toArray 41 := hG'.get 25 rfl rfl
                have HA5 := Lib.hid (HA4.out.below hG'.below)
                have hB5 := Below.then hB4 hG'.below hB4.size
                have hz5 := hB5.size
                generalize q21.lo = k11 at *
                have hrow : RowAt (· = k11) W' (some ⟨k11, 0, none⟩) (s1.cells (.slice none 0 0) ++ s2.cells (.slice none 0 0)) := by have := RowAt.bx hb11.2; simpa using this
                have Hrow := Lib.hid hrow
                have Hone2 : Hid (∀ u ∈ s1.cells (.slice none 0 0) ++ s2.cells (.slice none 0 0), u.oneCell' = true) := Lib.hid fun u hu => (List.mem_append.1 hu).elim (Rg.one s1 (.slice none 0 0) rfl u) (Rg.one s2 (.slice none 0 0) rfl u)
                obtain ⟨vs, hvs, hown, hvd, _⟩ := HA5.out.rs
                have Hown := Lib.hid hown
                have Hvs := Lib.hid hvs
                have Hvd := Lib.hid hvd
                clear hG' hb11 cQ hrow hown hvs hvd HA4 HO4 Hs1 Hs2
                refine wpAny_ready (rs := [26]) (by kernel_rfl) (by simp) ?_
                refine AllReady.cons rfl (fun K hK => ?_) AllReady.nil
                refine wp_appK (.tmp 84) (.tmp 109) 32 rfl w.heap.size 41 ir _ 99 136 Tryz.underlying32 Hir.out.1 Hir.out.2.1 Hir.out.2.2.1 Hir.out.2.2.2 (by simp [Value.cells, zeroRg_len]) (by decide) u8 RR.length (rgsC RR vs).flatten rfl Hown.out (some ⟨k11, 0, none⟩) 2 2 (s1.cells (.slice none 0 0) ++ s2.cells (.slice none 0 0)) rfl (fun h => by cases h) (by rw [List.length_append, Hy1.out, Hy2.out]) Hrow.out Hone2.out (by have := Hfr.out; unfold maxLen; omega) (by have := Hfr.out; omega) hz5 ?_
                intro v10 w10 ho10 hg10 hk10
                refine hK _ _ ?_
                clear hK K
                have HA10 := HA5.out.addR (X := [s1, s2]) (xs := [.slice none 0 0, .slice none 0 0]) Hvs.out Hvd.out (by simpa [rgsC] using ho10) (fun q hq => by
                    rcases List.mem_cons.1 hq with rfl | hq
                    · exact Hok1.out
                    · rw [List.mem_singleton.1 hq]; exact Hok2.out) rfl (fun i hi => match i, hi with | 0, _ => (show DigR _ _ (.slice none 0 0) s1.ids from by rw [Hid1.out]; exact DigR.nil0 _ _) | 1, _ => (show DigR _ _ (.slice none 0 0) s2.ids from by rw [Hid2.out]; exact DigR.nil0 _ _)) hg10 hk10
                have hB10 : Below w.heap.size w w10 := hB5.grown hg10 hz5 (fun b e => (hlu8 b e).1)
                have Hnew : Hid (Acc w10 w.heap.size v10 u9 u10 ((l.take (k + 1)).flatMap fun r => partR r (ownR ids r)) ((l.take (k + 1)).flatMap fun r => partW r (ownR ids r)) ((l.take (k + 1)).flatMap fun r => partG r (ownR ids r))) := Lib.hid (by
                  rw [Hf1.out, Hf2.out, Hf3.out, Hpart.out.1, Hpart.out.2.1, Hpart.out.2.2, List.append_nil, List.append_nil]
                  exact HA10)
                clear ho10 hg10 hk10 HA10 HA5 Hrow Hown Hvs Hvd
                refine wpAny_ready (rs := [27]) (by kernel_rfl) (by simp) ?_
                refine AllReady.cons rfl (fun K hK => ?_) AllReady.nil
                go_simp
                refine hK _ _ ?_
                clear hK K
                refine wpAny_done (by kernel_rfl) ?_ _
                go_wp2
                go_roundw
                case rel => exact ⟨k + 1, _, _, _, by omega, rfl, rfl, rfl, by go_num, Hnew.out, hB10⟩
                case measure => simp [intOf]; omega
            · cases hpp : decide (x.print = printD oo)
              · have Hpp := Lib.hid hpp
                have Hsm : Hid (sameP x oo = false) := Lib.hid (by unfold sameP; rw [Hnu.out, hpp, Bool.and_false])
                clear hpp
                refine wp_region_lat (by kernel_rfl) (by kernel_rfl) ?_
                repeat (first | go_big_quiet_skip | (go_big_quiet_want; first | ((first | (refine quiet_load_row 39 (.tmp 67) rfl wr.heap.size 66 (by first | rfl | (simp)) (bytesV x.print) _ (lat_range (by simpa using HRp.out) lX7) Tryz.underlying39 rfl (by rw [sizeDg, Hpl.out]) ?_) | (refine quiet_run (.bool false) (fun w => by rw [run_eql_dg _ (.tmp 68) (.tmp 70) rfl x.print (printD oo) (by have := Hpl.out; rwa [bytesV_len] at this) (printD_len oo) rfl rfl, Hpp.out]) ?_)); simp only [Act.put, List.setIfInBounds_toArray, List.set_cons_zero, List.set_cons_succ]; go_big_quiet_on) | (go_big_quiet_op; first | go_big_quiet_on | go_big_quiet_call ((exact Calls.lat (Hpr.out _))))))
                refine wpQuiet_nil ?_
                rintro W4 ⟨⟨_, hb4⟩, rfl⟩
                clear Hpp
                have HA4 := Lib.hid (HA7.out.below hb4)
                have hB4 := Below.then hB7 hb4 hB7.size
                have HRl4 := Lib.hid (rangeAt_below HRl.out hb4 lX7)
                have HRh4 := Lib.hid (rangeAt_below HRh.out hb4 lX7)
                have lX4 := Nat.lt_of_lt_of_le lX7 hb4.size
                have HO4 := Lib.hid (HOd.out.below hb4)
                have hz4 := hB4.size
                have hzr4 : wr.heap.size ≤ W4.heap.size := Nat.le_trans hz7 hb4.size
                clear cQ hb4 HA7 HRp HRl HRh Hpr c64 c65 c98 hcn
                generalize hRR : ((l.take k).flatMap fun r => partR r (ownR ids r)) = RR at *
                have HRR := Lib.hid hRR
                clear hRR
                by_cases h8 : nu ≤ 8
                · have h8' : (nu : Int) ≤ 8 := by omega
                  have Hpart : Hid (partR x oo = [listR x.low x.high oo] ∧ partW x oo = [] ∧ partG x oo = []) := Lib.hid (by
                    have h1 := Hps.out false Hsm.out
                    rw [h1.1, h1.2.1, h1.2.2, if_neg (by decide), if_pos (by rw [Hnu.out]; exact h8)]
                    unfold descR
                    rw [if_neg (by rw [Hnu.out]; omega)]
                    exact ⟨rfl, rfl, rfl⟩)
                  have HokL : Hid ((listR x.low x.high oo).ok) := Lib.hid ⟨by have := Hll.out; rwa [bytesV_len] at this, by have := Hhl.out; rwa [bytesV_len] at this, zero32, Hdoo.out⟩
                  have Hls := Lib.hid (fun W => rf_listed W x.low x.high (by have := Hll.out; rwa [bytesV_len] at this) (by have := Hhl.out; rwa [bytesV_len] at this) ou nu cu)
                  go_wp2_with (first
                    | (refine wpList_load_mid rfl 39 (.tmp 76) rfl wr.heap.size 0 (by first | rfl | (simp)) (bytesV x.low) _ (by simpa using HRl4.out) Tryz.underlying39 rfl (by rw [sizeDg, Hll.out]) ?_)
                    | (refine wpList_load_mid rfl 39 (.tmp 78) rfl wr.heap.size 32 (by first | rfl | (simp)) (bytesV x.high) _ (by simpa using HRh4.out) Tryz.underlying39 rfl (by rw [sizeDg, Hhl.out]) ?_))
                  refine (Hls.out _).mono ?_
                  rintro e w8 ⟨he, hb8⟩
                  have he' : e = .returned ((listR x.low x.high oo).V (.slice ou nu cu)) := he
                  clear he
                  subst he'
                  have HA8 := Lib.hid (HA4.out.below hb8)
                  have hB8 := Below.then hB4 hb8 hB4.size
                  have HO8 := Lib.hid (HO4.out.below hb8)
                  have hz8 := hB8.size
                  have Hids : Hid ((listR x.low x.high oo).ids = oo) := Lib.hid rfl
                  generalize listR x.low x.high oo = y at *
                  have Hylen := Lib.hid (Rg.len HokL.out (.slice ou nu cu))
                  have Hyone := Lib.hid (Rg.one y (.slice ou nu cu) rfl)
                  have xb := Bx.new w8 (y.cells (.slice ou nu cu)).toArray 41
                  have hb9 := Below.one w8 (.cells (y.cells (.slice ou nu cu)).toArray 41)
                  have HA9 := Lib.hid (HA8.out.below hb9)
                  have hB9 := Below.then hB8 hb9 hB8.size
                  have HO9 := Lib.hid (HO8.out.below hb9)
                  have hz9 := hB9.size
                  have Hrow : Hid (RowAt (· = w8.heap.size) (w8.alloc (.cells (y.cells (.slice ou nu cu)).toArray 41)) (some ⟨w8.heap.size, 0, none⟩) (y.cells (.slice ou nu cu))) := Lib.hid (by have := RowAt.bx xb; simpa using this)
                  obtain ⟨vs, hvs, hown, hvd, _⟩ := HA9.out.rs
                  have Hown := Lib.hid hown
                  have Hvs := Lib.hid hvs
                  have Hvd := Lib.hid hvd
                  clear hb8 HA4 HA8 HO4 HO8 xb hb9 hown hvs hvd Hls HRl4 HRh4
                  go_wp2_with (first
                    | (refine wpList_build1 rfl 32 (.tmp 81) rfl 41 ir (Rg.zero.cells (.slice none 0 0)) 99 Tryz.underlying32 Hir.out.1 Hir.out.2.1 Hir.out.2.2.1 zeroRg_len (by decide) (y.cells (.slice ou nu cu)) Hylen.out rfl ?_)
                    | (refine wpList_appK rfl (.tmp 75) (.tmp 82) 32 rfl w.heap.size 41 ir _ 99 136 Tryz.underlying32 Hir.out.1 Hir.out.2.1 Hir.out.2.2.1 Hir.out.2.2.2 (by simp [Value.cells, zeroRg_len]) (by decide) u8 RR.length (rgsC RR vs).flatten rfl Hown.out (some ⟨w8.heap.size, 0, none⟩) 1 1 (y.cells (.slice ou nu cu)) rfl (fun h => by cases h) (by rw [Hylen.out]) Hrow.out Hyone.out (by have := Hfr.out; unfold maxLen; omega) (by have := Hfr.out; omega) hz9 ?_; intro v10 w10 ho10 hg10 hk10))
                  have HA10 := HA9.out.addR (X := [y]) (xs := [.slice ou nu cu]) Hvs.out Hvd.out (by simpa [rgsC] using ho10) (fun q hq => by rw [List.mem_singleton.1 hq]; exact HokL.out) rfl (fun i hi => match i, hi with | 0, _ => (show DigR (Far w.heap.size u8 u9 u10) _ (.slice ou nu cu) y.ids from by rw [Hids.out]; exact HO9.out.mono fun b hb => Hfar7.out b hb)) hg10 hk10
                  have hB10 : Below w.heap.size w w10 := hB9.grown hg10 hz9 (fun b e => (hlu8 b e).1)
                  have Hnew : Hid (Acc w10 w.heap.size v10 u9 u10 ((l.take (k + 1)).flatMap fun r => partR r (ownR ids r)) ((l.take (k + 1)).flatMap fun r => partW r (ownR ids r)) ((l.take (k + 1)).flatMap fun r => partG r (ownR ids r))) := Lib.hid (by
                    rw [Hf1.out, Hf2.out, Hf3.out, Hpart.out.1, Hpart.out.2.1, Hpart.out.2.2, List.append_nil, List.append_nil]
                    exact HA10)
                  clear ho10 hg10 hk10 HA10 HA9 HO9 Hrow Hown Hvs Hvd
                  go_wp2
                  go_roundw
                  case rel => exact ⟨k + 1, _, _, _, by omega, rfl, rfl, rfl, by go_num, Hnew.out, hB10⟩
                  case measure => simp [intOf]; omega
                · have h8' : ¬ (nu : Int) ≤ 8 := by omega
                  obtain ⟨p, hp⟩ : ∃ p, p = nu / 2 := ⟨_, rfl⟩
                  have Hp := Lib.hid hp
                  have hp1 : 0 ≤ (p : Int) := by omega
                  have hp2 : (p : Int) ≤ (nu : Int) := by omega
                  have hp3 : (p : Int) < (nu : Int) := by omega
                  have hpq : (nu : Int) / 2 = (p : Int) := by omega
                  have hpt : (nu : Int).tdiv 2 = (p : Int) := by rw [Int.tdiv_eq_ediv_of_nonneg (by omega)]; omega
                  clear hp
                  obtain ⟨bo, offo, co', e', hc1, hc2, _, hbo, hrm⟩ := HO4.out.at (i := p) (by rw [Hnu.out]; omega)
                  rw [Hnu.out] at e' hc1
                  obtain ⟨rfl, rfl⟩ : ou = some ⟨bo, offo, none⟩ ∧ cu = co' := by simpa using e'
                  have hmd := midD_at Hnu.out Hp.out (by rw [Hnu.out]; omega)
                  rw [← hmd] at hrm
                  have Hrm := Lib.hid hrm
                  have hml : (midD oo).length = 32 := by rw [hmd]; exact Hdoo.out _ (List.getElem_mem _)
                  have Hmb : Hid ((bytesV (midD oo)).length = 32) := Lib.hid (by rw [bytesV_len, hml])
                  have Hpart : Hid (partR x oo = [summR x.low (midD oo) (oo.take p), summR (midD oo) x.high (oo.drop p)] ∧ partW x oo = [] ∧ partG x oo = []) := Lib.hid (by
                    have h1 := Hps.out false Hsm.out
                    rw [h1.1, h1.2.1, h1.2.2, if_neg (by decide), if_neg (by rw [Hnu.out]; exact h8), Hnu.out, ← Hp.out]
                    exact ⟨rfl, rfl, rfl⟩)
                  unfold maxLen at hc2
                  have Hs1 := Lib.hid (fun (yL : Lat W4) => rf_marked yL.w x.low (midD oo) (by have := Hll.out; rwa [bytesV_len] at this) hml (.slice (some ⟨bo, offo, none⟩) p cu) (oo.take p) ((HO4.out.below yL.h).take Hnu.out (by omega)) (by rw [List.length_take]; omega))
                  have Hs2 := Lib.hid (fun (yL : Lat W4) => rf_marked yL.w (midD oo) x.high hml (by have := Hhl.out; rwa [bytesV_len] at this) (.slice (some ⟨bo, offo + p * 32, none⟩) (nu - p) (cu - p)) (oo.drop p) ((HO4.out.below yL.h).drop Hnu.out (by omega)) (by rw [List.length_drop]; have := Hnu.out; omega))
                  have Hok1 : Hid ((summR x.low (midD oo) (oo.take p)).ok) := Lib.hid ⟨by have := Hll.out; rwa [bytesV_len] at this, hml, printD_len _, fun _ h => by cases h⟩
                  have Hok2 : Hid ((summR (midD oo) x.high (oo.drop p)).ok) := Lib.hid ⟨hml, by have := Hhl.out; rwa [bytesV_len] at this, printD_len _, fun _ h => by cases h⟩
                  have Hid1 : Hid ((summR x.low (midD oo) (oo.take p)).ids = []) := Lib.hid rfl
                  have Hid2 : Hid ((summR (midD oo) x.high (oo.drop p)).ids = []) := Lib.hid rfl
                  clear e' hmd hrm hml
                  go_wp2
                  have cQ := Lat.cells W4
                  refine wp_region_lz 26 2 #[true, true, true, true, true, true, true, true, true, true, true, true, true, true, true, true, true, true, true, true, true, true, true, true, true, true, false, false] (fun i => if i = 12 then some (annK ((summR x.low (midD oo) (oo.take p)).V (.slice none 0 0))) else if i = 24 then some (annK ((summR (midD oo) x.high (oo.drop p)).V (.slice none 0 0))) else if i = 25 then some ⟨fun q => .slice (some ⟨q.lo, 0, none⟩) 2 2, fun k X => W4.heap.size ≤ k.lo ∧ Bx X k.lo ((summR x.low (midD oo) (oo.take p)).cells (.slice none 0 0) ++ (summR (midD oo) x.high (oo.drop p)).cells (.slice none 0 0)).toArray 41⟩ else none) (by kernel_rfl) (by rfl) (by rfl) (by kernel_rfl) ?_
                  simp only [List.take_succ_cons, List.take_zero]
                  refine LW.block 12 12 (by rfl) (by kernel_rfl) (by kernel_rfl) ?_
                  simp only [List.take_succ_cons, List.take_zero, List.drop_succ_cons, List.drop_zero]
                  repeat (first | go_big_quiet_skip | (go_big_quiet_want; first | ((first | (refine quiet_load_row 39 (.tmp 85) rfl wr.heap.size 0 (by first | rfl | (simp)) (bytesV x.low) _ (lat_range (by simpa using HRl4.out) lX4) Tryz.underlying39 rfl (by rw [sizeDg, Hll.out]) ?_) | (refine quiet_load_row 39 (.tmp 90) rfl bo (offo + p * 32) (by first | rfl | (simp)) (bytesV (midD oo)) _ (lat_range Hrm.out hbo) Tryz.underlying39 rfl (by rw [sizeDg, Hmb.out]) ?_)); simp only [Act.put, List.setIfInBounds_toArray, List.set_cons_zero, List.set_cons_succ]; go_big_quiet_on) | (go_big_quiet_op; go_big_quiet_on)))
                  refine wpQuiet_nil ?_
                  refine LW.lzy _ (by rfl) (by rfl) ?_ ?_
                  · intro yL _
                    unfold lzAt
                    go_simp
                    exact lz_constB (Hs1.out yL)
                  intro _
                  simp only [Act.put, List.setIfInBounds_toArray, List.set_cons_zero, List.set_cons_succ]
                  (try simp only [annK])
                  refine LW.block 11 24 (by rfl) (by kernel_rfl) (by kernel_rfl) ?_
                  simp only [List.take_succ_cons, List.take_zero, List.drop_succ_cons, List.drop_zero]
                  repeat (first | go_big_quiet_skip | (go_big_quiet_want; first | ((first | (refine quiet_load_row 39 (.tmp 102) rfl wr.heap.size 32 (by first | rfl | (simp)) (bytesV x.high) _ (lat_range (by simpa using HRh4.out) lX4) Tryz.underlying39 rfl (by rw [sizeDg, Hhl.out]) ?_) | (refine quiet_load_row 39 (.tmp 100) rfl bo (offo + p * 32) (by first | rfl | (simp)) (bytesV (midD oo)) _ (lat_range Hrm.out hbo) Tryz.underlying39 rfl (by rw [sizeDg, Hmb.out]) ?_)); simp only [Act.put, List.setIfInBounds_toArray, List.set_cons_zero, List.set_cons_succ]; go_big_quiet_on) | (go_big_quiet_op; go_big_quiet_on)))
                  refine wpQuiet_nil ?_
                  refine LW.lzy _ (by rfl) (by rfl) ?_ ?_
                  · intro yL _
                    unfold lzAt
                    go_simp
                    exact lz_constB (Hs2.out yL)
                  intro _
                  simp only [Act.put, List.setIfInBounds_toArray, List.set_cons_zero, List.set_cons_succ]
                  (try simp only [annK])
                  generalize summR x.low (midD oo) (oo.take p) = s1 at *
                  generalize summR (midD oo) x.high (oo.drop p) = s2 at *
                  have Hy1 := Lib.hid (Rg.len Hok1.out (.slice none 0 0))
                  have Hy2 := Lib.hid (Rg.len Hok2.out (.slice none 0 0))
                  refine LW.lzy _ (by rfl) (by rfl) ?_ ?_
                  · intro yL hF
                    exact lz_buildR2 32 (.tmp 96) (.tmp 108) rfl 41 ir (Rg.zero.cells (.slice none 0 0)) 99 Tryz.underlying32 Hir.out.1 Hir.out.2.1 Hir.out.2.2.1 zeroRg_len (by decide) (s1.cells (.slice none 0 0)) (s2.cells (.slice none 0 0)) Hy1.out Hy2.out rfl rfl ⟨Below.one _ _, fun _ => undef, rfl, fun w'' hb => ⟨yL.h.size, (Bx.new _ _ _).belowAll hb⟩⟩
                  intro q21
                  simp only [Act.put, List.setIfInBounds_toArray, List.set_cons_zero, List.set_cons_succ]
                  refine LW.done ?_
                  intro W' hG'
                  have hb11 : W4.heap.size ≤ q21.lo ∧ Bx W' q21.lo (s1.cells (.slice none 0 0) ++ s2.cells (.slice none 0 0)).toArray 41 := hG'.get 25 rfl rfl
                  have HA5 := Lib.hid (HA4.out.below hG'.below)
                  have hB5 := Below.then hB4 hG'.below hB4.size
                  have hz5 := hB5.size
                  generalize q21.lo = k11 at *
                  have hrow : RowAt (· = k11) W' (some ⟨k11, 0, none⟩) (s1.cells (.slice none 0 0) ++ s2.cells (.slice none 0 0)) := by have := RowAt.bx hb11.2; simpa using this
                  have Hrow := Lib.hid hrow
                  have Hone2 : Hid (∀ u ∈ s1.cells (.slice none 0 0) ++ s2.cells (.slice none 0 0), u.oneCell' = true) := Lib.hid fun u hu => (List.mem_append.1 hu).elim (Rg.one s1 (.slice none 0 0) rfl u) (Rg.one s2 (.slice none 0 0) rfl u)
                  obtain ⟨vs, hvs, hown, hvd, _⟩ := HA5.out.rs
                  have Hown := Lib.hid hown
                  have Hvs := Lib.hid hvs
                  have Hvd := Lib.hid hvd
                  clear hG' hb11 cQ hrow hown hvs hvd HA4 HO4 Hs1 Hs2
                  refine wpAny_ready (rs := [26]) (by kernel_rfl) (by simp) ?_
                  refine AllReady.cons rfl (fun K hK => ?_) AllReady.nil
                  refine wp_appK (.tmp 84) (.tmp 109) 32 rfl w.heap.size 41 ir _ 99 136 Tryz.underlying32 Hir.out.1 Hir.out.2.1 Hir.out.2.2.1 Hir.out.2.2.2 (by simp [Value.cells, zeroRg_len]) (by decide) u8 RR.length (rgsC RR vs).flatten rfl Hown.out (some ⟨k11, 0, none⟩) 2 2 (s1.cells (.slice none 0 0) ++ s2.cells (.slice none 0 0)) rfl (fun h => by cases h) (by rw [List.length_append, Hy1.out, Hy2.out]) Hrow.out Hone2.out (by have := Hfr.out; unfold maxLen; omega) (by have := Hfr.out; omega) hz5 ?_
                  intro v10 w10 ho10 hg10 hk10
                  refine hK _ _ ?_
                  clear hK K
                  have HA10 := HA5.out.addR (X := [s1, s2]) (xs := [.slice none 0 0, .slice none 0 0]) Hvs.out Hvd.out (by simpa [rgsC] using ho10) (fun q hq => by
                      rcases List.mem_cons.1 hq with rfl | hq
                      · exact Hok1.out
                      · rw [List.mem_singleton.1 hq]; exact Hok2.out) rfl (fun i hi => match i, hi with | 0, _ => (show DigR _ _ (.slice none 0 0) s1.ids from by rw [Hid1.out]; exact DigR.nil0 _ _) | 1, _ => (show DigR _ _ (.slice none 0 0) s2.ids from by rw [Hid2.out]; exact DigR.nil0 _ _)) hg10 hk10
                  have hB10 : Below w.heap.size w w10 := hB5.grown hg10 hz5 (fun b e => (hlu8 b e).1)
                  have Hnew : Hid (Acc w10 w.heap.size v10 u9 u10 ((l.take (k + 1)).flatMap fun r => partR r (ownR ids r)) ((l.take (k + 1)).flatMap fun r => partW r (ownR ids r)) ((l.take (k + 1)).flatMap fun r => partG r (ownR ids r))) := Lib.hid (by
                    rw [Hf1.out, Hf2.out, Hf3.out, Hpart.out.1, Hpart.out.2.1, Hpart.out.2.2, List.append_nil, List.append_nil]
                    exact HA10)
                  clear ho10 hg10 hk10 HA10 HA5 Hrow Hown Hvs Hvd
                  refine wpAny_ready (rs := [27]) (by kernel_rfl) (by simp) ?_
                  refine AllReady.cons rfl (fun K hK => ?_) AllReady.nil
                  go_simp
                  refine hK _ _ ?_
                  clear hK K
                  refine wpAny_done (by kernel_rfl) ?_ _
                  go_wp2
                  go_roundw
                  case rel => exact ⟨k + 1, _, _, _, by omega, rfl, rfl, rfl, by go_num, Hnew.out, hB10⟩
                  case measure => simp [intOf]; omega
              · have Hpp := Lib.hid hpp
                have Hsm : Hid (sameP x oo = true) := Lib.hid (by unfold sameP; rw [Hnu.out, hpp, decide_eq_true (by simpa using hcn)]; rfl)
                clear hpp
                refine wp_region_lat (by kernel_rfl) (by kernel_rfl) ?_
                repeat (first | go_big_quiet_skip | (go_big_quiet_want; first | ((first | (refine quiet_load_row 39 (.tmp 67) rfl wr.heap.size 66 (by first | rfl | (simp)) (bytesV x.print) _ (lat_range (by simpa using HRp.out) lX7) Tryz.underlying39 rfl (by rw [sizeDg, Hpl.out]) ?_) | (refine quiet_run (.bool true) (fun w => by rw [run_eql_dg _ (.tmp 68) (.tmp 70) rfl x.print (printD oo) (by have := Hpl.out; rwa [bytesV_len] at this) (printD_len oo) rfl rfl, Hpp.out]) ?_)); simp only [Act.put, List.setIfInBounds_toArray, List.set_cons_zero, List.set_cons_succ]; go_big_quiet_on) | (go_big_quiet_op; first | go_big_quiet_on | go_big_quiet_call ((exact Calls.lat (Hpr.out _))))))
                refine wpQuiet_nil ?_
                rintro W4 ⟨⟨_, hb4⟩, rfl⟩
                have HA8 := Lib.hid (HA7.out.below hb4)
                have hB8 := Below.then hB7 hb4 hB7.size
                have Hnew : Hid (Acc W4 w.heap.size u8 u9 u10 ((l.take (k + 1)).flatMap fun r => partR r (ownR ids r)) ((l.take (k + 1)).flatMap fun r => partW r (ownR ids r)) ((l.take (k + 1)).flatMap fun r => partG r (ownR ids r))) := Lib.hid (by
                  have h1 := Hps.out true Hsm.out
                  rw [Hf1.out, Hf2.out, Hf3.out, h1.1, h1.2.1, h1.2.2, if_pos rfl, List.append_nil, List.append_nil, List.append_nil]
                  exact HA8.out)
                clear cQ hb4 HA8 c64 c65 c98
                go_wp2
                go_roundw
                case rel => exact ⟨k + 1, _, _, _, by omega, rfl, rfl, rfl, by go_num, Hnew.out, hB8⟩
                case measure => simp [intOf]; omega
          · rw [hl1] at c64
            have Hpart : Hid (partR x oo = [] ∧ partW x oo = withoutD x.ids oo ∧ partG x oo = withoutD oo x.ids) := Lib.hid (by unfold partR partW partG; rw [hl1]; exact ⟨rfl, rfl, rfl⟩)
            have Hlen1 : Hid ((withoutD x.ids oo).length ≤ 1000000) := Lib.hid (Nat.le_trans (List.length_filter_le _ _) (by rw [Hq.out]; exact Hml.out))
            have Hlen2 : Hid ((withoutD oo x.ids).length ≤ 1000000) := Lib.hid (Nat.le_trans (List.length_filter_le _ _) (by rw [Hnu.out]; exact hnb))
            have HWb : Hid (((l.take k).flatMap fun r => partW r (ownR ids r)).length ≤ 1000000000) := Lib.hid (Hfb.out _ fun r hr => Nat.le_trans (partW_len _ _) (Hmi.out r hr))
            have HGb : Hid (((l.take k).flatMap fun r => partG r (ownR ids r)).length ≤ 1000000000) := Lib.hid (Hfb.out _ fun r _ => Nat.le_trans (partG_len _ _) (Hol.out r))
            have Hwo := Lib.hid (rf_Without w7 _ _ x.ids oo Hd7.out HOd.out (by rw [Hq.out]; exact Hml.out) (by rw [Hnu.out]; exact hnb))
            go_wp2_with fail
            refine Hwo.out.mono ?_
            rintro e w8 ⟨v8, rfl, ho8, hb8⟩
            have HA8 := Lib.hid (HA7.out.below hb8)
            have hB8 := Below.then hB7 hb8 hB7.size
            have HD8 : Hid (DgO w8 w7.heap.size v8 (withoutD x.ids oo)) := Lib.hid ⟨ho8, fun d hd => Hd7.out.2 d (List.mem_filter.1 hd).1⟩
            have HX8 := Lib.hid (rangeAt_below HX7.out hb8 lX7)
            have lX8 := Nat.lt_of_lt_of_le lX7 hb8.size
            have Hd8 := Lib.hid (Hd7.out.below hb8)
            have HO8 := Lib.hid (HOd.out.below hb8)
            have hz8 := hB8.size
            clear ho8 hb8 Hwo HA7 c64 c65 c98
            obtain ⟨a8, cc8, rfl, hrow8, hn8⟩ := HD8.out.shape
            have Hrow8 := Lib.hid hrow8
            have Hfl8 := Lib.hid (digC_flat HD8.out.2)
            clear hrow8
            generalize hWW : ((l.take k).flatMap fun r => partW r (ownR ids r)) = WW at *
            generalize hGG : ((l.take k).flatMap fun r => partG r (ownR ids r)) = GG at *
            have HWW := Lib.hid hWW
            have HGG := Lib.hid hGG
            clear hWW hGG
            go_wp2_with (refine wpList_appK rfl (.tmp 50) (.tmp 54) 22 rfl w.heap.size 39 idg _ 32 32 Tryz.underlying22 Hi.out.1 Hi.out.2.1 Hi.out.2.2.1 Hi.out.2.2.2 (by simp [Value.cells]) (by decide) u9 WW.length (digC WW).flatten rfl HA8.out.ws.1 a8 (withoutD x.ids oo).length cc8 (digC (withoutD x.ids oo)).flatten rfl hn8 Hfl8.out Hrow8.out (digC_one _) (by have := Hlen1.out; have := HWb.out; unfold maxLen; omega) (by have := Hlen1.out; have := HWb.out; omega) hz8 ?_; intro v9 w9 ho9 hg9 hk9; have c98 : w9.cell? ⟨wr.heap.size, 98, none⟩ = some (.slice oi q ci) := (by have h1 := rangeAt_same HX8.out (hg9.block wr.heap.size lX8 (fun e => by have := (hlu9 _ e.symm).2; omega)); simpa using Rg.ids_at Hok.out h1))
            have HA9 := Lib.hid (HA8.out.addW ho9 HD8.out.2 hg9 hk9)
            have Hd9 := Lib.hid (Hd8.out.far hg9 (fun b e hb => by have := (hlu9 b e).1; have := hb.2; omega))
            have HO9 := Lib.hid (HO8.out.far hg9 (fun b e hb => by have := (hlu9 b e).2; omega))
            have hB9 : Below w.heap.size w w9 := hB8.grown hg9 hz8 (fun b e => (hlu9 b e).1)
            have hz9 := hB9.size
            have hk9' : ∀ b, v9.ownBlock = some b → w.heap.size ≤ b := fun b e => by
              rcases hk9 b e with h1 | h1
              · exact (hlu9 b h1).1
              · omega
            have Hwo := Lib.hid (rf_Without w9 _ _ oo x.ids HO9.out Hd9.out (by rw [Hnu.out]; exact hnb) (by rw [Hq.out]; exact Hml.out))
            clear ho9 hg9 hk9 HA8 HD8 HX8 Hd8 HO8 hn8 Hrow8 Hfl8
            go_wp2_with fail
            refine Hwo.out.mono ?_
            rintro e w11 ⟨v11, rfl, ho11, hb11⟩
            have HA11 := Lib.hid (HA9.out.below hb11)
            have hB11 := Below.then hB9 hb11 hB9.size
            have HD11 : Hid (DgO w11 w9.heap.size v11 (withoutD oo x.ids)) := Lib.hid ⟨ho11, fun d hd => Hdoo.out d (List.mem_filter.1 hd).1⟩
            have hz11 := hB11.size
            clear ho11 hb11 Hwo HA9 c98
            obtain ⟨a11, cc11, rfl, hrow11, hn11⟩ := HD11.out.shape
            have Hrow11 := Lib.hid hrow11
            have Hfl11 := Lib.hid (digC_flat HD11.out.2)
            clear hrow11
            go_wp2_with (refine wpList_appK rfl (.tmp 56) (.tmp 60) 22 rfl w.heap.size 39 idg _ 32 32 Tryz.underlying22 Hi.out.1 Hi.out.2.1 Hi.out.2.2.1 Hi.out.2.2.2 (by simp [Value.cells]) (by decide) u10 GG.length (digC GG).flatten rfl HA11.out.gs.1 a11 (withoutD oo x.ids).length cc11 (digC (withoutD oo x.ids)).flatten rfl hn11 Hfl11.out Hrow11.out (digC_one _) (by have := Hlen2.out; have := HGb.out; unfold maxLen; omega) (by have := Hlen2.out; have := HGb.out; omega) hz11 ?_; intro v12 w12 ho12 hg12 hk12)
            have HA12 := HA11.out.addG ho12 HD11.out.2 hg12 hk12
            have hB12 : Below w.heap.size w w12 := hB11.grown hg12 hz11 (fun b e => (hlu10 b e).1)
            have Hnew : Hid (Acc w12 w.heap.size u8 v9 v12 ((l.take (k + 1)).flatMap fun r => partR r (ownR ids r)) ((l.take (k + 1)).flatMap fun r => partW r (ownR ids r)) ((l.take (k + 1)).flatMap fun r => partG r (ownR ids r))) := Lib.hid (by
              rw [Hf1.out, Hf2.out, Hf3.out, Hpart.out.1, Hpart.out.2.1, Hpart.out.2.2, List.append_nil]
              exact HA12)
            clear ho12 hg12 hk12 HA11 HA12 HD11 hn11 Hrow11 Hfl11
            go_wp2
            go_roundw
            case rel => exact ⟨k + 1, _, _, _, by omega, rfl, rfl, rfl, by go_num, Hnew.out, hB12⟩
            case measure => simp [intOf]; omega
        · obtain rfl : k = n := by omega
          have hlt' : ¬ (k : Int) < (k : Int) := by omega
          have hall : l.take k = l := List.take_of_length_le (by rw [Hn.out]; exact Nat.le_refl _)
          rw [hall] at HA
          clear hall
          go_wp2
          rw [Hres.out]
          refine bodyPost_ret (v := .tuple #[u8, u9, u10, .int .i64 0]) (by simp [results, Tryz.results17, go_sem]) rfl ⟨_, _, _, rfl, HA.out.rs.new (Nat.le_refl _), HA.out.ws.dig, HA.out.gs.dig, hB⟩
    · have Hres : Hid (ansD ids l = ⟨[], [], [], checkR l⟩) := Lib.hid (by unfold ansD; rw [ha, if_pos rfl, if_neg (by simpa using hc)])
      go_wp2_with fail
      refine Hck1.out.mono ?_
      rintro e w2 ⟨rfl, hb2⟩
      have hB2 := Below.then hB1 hb2 hB1.size
      have HA2 := Lib.hid (HA1.out.below hb2)
      clear hb2 Hck1
      go_wp2
      rw [Hres.out]
      exact bodyPost_ret (v := .tuple #[.slice (some ⟨w.heap.size, 0, none⟩) 0 0, .slice (some ⟨w.heap.size + 1, 0, none⟩) 0 0, .slice (some ⟨w.heap.size + 2, 0, none⟩) 0 0, .int .i64 (checkR l)]) (by simp [results, Tryz.results17, go_sem]) rfl ⟨_, _, _, rfl, HA2.out.rs.new (Nat.le_refl _), HA2.out.ws.dig, HA2.out.gs.dig, hB2⟩
end Go.Proofs.YtebgopdmeghmhaaGreat
