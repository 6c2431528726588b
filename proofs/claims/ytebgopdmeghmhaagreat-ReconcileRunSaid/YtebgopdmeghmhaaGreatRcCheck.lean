/- reconcile.checkOne. reconcile.Check. Ranges built from their fields. quiltref48.listed. -/
import Derived.Test.YtebgopdmeghmhaaGreatRcAcc
namespace Go.Proofs.YtebgopdmeghmhaaGreat
open Go.RowKit

section
variable {P : Program} {ops : Array Oper} {rest : List Oper} {o : Oper} {a : Act} {Q : Exit → Act → World → Prop} {w : World}
theorem wpList_value_want (hw : Region.wanted o (yielded ops a.tmps) = true) (v : Value) (hr : (execOp a.eval o).run P w = .ok (.value v) w) (hK : wpList P ops Q rest (a.put o.dst v) w) : wpList P ops Q (o :: rest) a w := by
  refine wpList_want hw fun K hK' => ?_
  unfold Oper.wp
  rw [hr]
  exact hK' _ _ hK
end
def prevO (l : List (List UInt8)) : Nat → Option (List UInt8)
  | 0 => none
  | m + 1 => l[m]?
theorem idsE_next {low high : List UInt8} {l : List (List UInt8)} {k : Nat} (hk : k < l.length) : idsE low high (prevO l k) (l.drop k) = if (prevO l k).any (fun x => decide (0 ≤ cmpD x l[k])) then 9 else if insB low high l[k] then idsE low high (prevO l (k + 1)) (l.drop (k + 1)) else 2 := by
  rw [List.drop_eq_getElem_cons hk]
  show (if _ then _ else _) = _
  rw [show prevO l (k + 1) = some l[k] from List.getElem?_eq_getElem hk]
set_option maxRecDepth 100000 in
set_option maxHeartbeats 8000000 in
theorem rc_checkOne {S : Nat → Prop} (r : Rg) (vi : Value) (hr : r.ok) (w : World) (hD : DigR S w vi r.ids) (hm : r.ids.length ≤ 1000000) : Calls Tryz.prog 57 #[r.V vi] w fun e w' => e = .returned (.int .i64 (oneE r)) ∧ Below w.heap.size w w' := by
  obtain ⟨o, c, rfl⟩ : ∃ o c, vi = .slice o r.ids.length c := by obtain ⟨⟨o, c, e, _⟩, _⟩ := hD; rw [digC_size] at e; exact ⟨o, c, e⟩
  obtain ⟨n, hln⟩ : ∃ n, r.ids.length = n := ⟨_, rfl⟩
  have Hn := Lib.hid hln
  rw [hln] at hm hD ⊢
  clear hln
  obtain ⟨idg, hidg, hzd, hsd, hbyd⟩ := info_parts infoDg
  obtain ⟨z0, hz0⟩ : ∃ z, (.agg (List.replicate 32 (Value.int .u8 0)).toArray : Value) = .agg z := ⟨_, rfl⟩
  have hzl : z0.size = 32 := by injection hz0 with e; rw [← e]; simp
  have Hzi : Hid ((Tryz.prog.info? 39).map (·.zero) = some (some (.agg z0))) := Lib.hid (by rw [hidg, ← hz0]; simp only [Option.map_some, hzd]; rfl)
  have Hzl := Lib.hid hzl
  have Hok := Lib.hid hr
  have xr := Bx.new w (r.cells (.slice o n c)).toArray 41
  have hB1 : Below w.heap.size w (w.alloc (.cells (r.cells (.slice o n c)).toArray 41)) := Below.one w _
  have HR : Hid ((w.alloc (.cells (r.cells (.slice o n c)).toArray 41)).rangeAt w.heap.size 0 (r.cells (.slice o n c))) := Lib.hid (by simpa using xr.range)
  have HD1 := Lib.hid (hD.below hB1)
  have Hrl := Lib.hid (Rg.len hr (.slice o n c))
  have lr := xr.lt
  have Hop := Lib.hid (fun W => rc_open r (.slice o n c) hr W)
  have Hcm := Lib.hid (fun W => sha_compare r.low r.high hr.1 hr.2.1 W)
  obtain ⟨cs, hcs⟩ : ∃ cs, (r.cells (.slice o n c)).toArray = cs := ⟨_, rfl⟩
  unfold Rg.V
  rw [hcs] at HR HD1 hB1 lr ⊢
  clear xr hcs hz0 hzl hidg hzd hsd hbyd hD hr
  go_enter Tryz.func57, Tryz.ntmps57
  go_wp2_with (refine wpList_load_mid rfl 41 (.tmp 1) rfl w.heap.size 0 rfl (r.cells (.slice o n c)) _ HR.out Tryz.underlying41 rfl (by rw [sizeRg, Hrl.out]) ?_)
  refine (Hop.out _).mono ?_
  rintro e w2 ⟨rfl, hb2⟩
  have hB2 := Below.then hB1 hb2 hB1.size
  have HR2 := Lib.hid (rangeAt_below HR.out hb2 lr)
  have lr2 : w.heap.size < w2.heap.size := Nat.lt_of_lt_of_le lr hb2.size
  have HD2 := Lib.hid (HD1.out.below hb2)
  clear HR hB1 lr HD1 hb2
  cases ho : openB r.high
  · have Hlo := Lib.hid (Rg.low_at Hok.out HR2.out)
    have Hhi := Lib.hid (Rg.high_at Hok.out HR2.out)
    have Hll : Hid ((bytesV r.low).length = 32) := Lib.hid (by rw [bytesV_len, Hok.out.1])
    have Hhl : Hid ((bytesV r.high).length = 32) := Lib.hid (by rw [bytesV_len, Hok.out.2.1])
    go_wp2_with (first
      | (refine wpList_load_want (by rfl) 39 (.tmp 10) rfl w.heap.size 0 (by first | rfl | (simp)) (bytesV r.low) _ Hlo.out Tryz.underlying39 rfl (by rw [sizeDg, Hll.out]) ?_)
      | (refine wpList_load_want (by rfl) 39 (.tmp 12) rfl w.heap.size 32 (by first | rfl | (simp)) (bytesV r.high) _ (by simpa using Hhi.out) Tryz.underlying39 rfl (by rw [sizeDg, Hhl.out]) ?_))
    refine (Hcm.out _).mono ?_
    rintro e wa ⟨rfl, hba⟩
    have hBa := Below.then hB2 hba hB2.size
    have Hxa := Lib.hid (rangeAt_below HR2.out hba lr2)
    have lra : w.heap.size < wa.heap.size := Nat.lt_of_lt_of_le lr2 hba.size
    have HDa := Lib.hid (HD2.out.below hba)
    clear HR2 hB2 lr2 HD2 hba Hlo Hhi
    cases hq : decide (0 ≤ cmpD r.low r.high)
    · have E1 : Hid ((!openB r.high && decide (0 ≤ cmpD r.low r.high)) = false) := Lib.hid (by rw [ho, hq]; rfl)
      have c64 : wa.cell? ⟨w.heap.size, 64, none⟩ = some (.bool r.listed) := by simpa using Rg.listed_at Hok.out Hxa.out
      have c65 : wa.cell? ⟨w.heap.size, 65, none⟩ = some (.int .i64 r.count) := by simpa using Rg.count_at Hok.out Hxa.out
      have c98 : wa.cell? ⟨w.heap.size, 98, none⟩ = some (.slice o n c) := by simpa using Rg.ids_at Hok.out Hxa.out
      have Hpr := Lib.hid (Rg.print_at Hok.out Hxa.out)
      cases hl : r.listed
      · rw [hl] at c64
        by_cases hn : 0 < n
        · have Hres : Hid (oneE r = 1) := Lib.hid (by unfold oneE; rw [E1.out, hl, Hn.out, decide_eq_true (hn)]; rfl)
          go_wp2
          go_ret
          exact ⟨by rw [Hres.out]; rfl, hBa⟩
        · have E2 : Hid (((r.listed && (r.count != 0 || !decide (r.print = zeroD))) || (!r.listed && decide (0 < r.ids.length))) = false) := Lib.hid (by rw [hl, Hn.out, decide_eq_false hn]; rfl)
          obtain rfl : n = 0 := by omega
          by_cases hc0 : r.count < 0
          · have Hres : Hid (oneE r = 2) := Lib.hid (by unfold oneE; rw [E1.out, E2.out, decide_eq_true hc0]; rfl)
            go_wp2
            go_ret
            exact ⟨by rw [Hres.out]; rfl, hBa⟩
          · by_cases hc1 : 1099511627776 < r.count
            · have Hres : Hid (oneE r = 2) := Lib.hid (by unfold oneE; rw [E1.out, E2.out, decide_eq_false hc0, decide_eq_true hc1]; rfl)
              go_wp2
              go_ret
              exact ⟨by rw [Hres.out]; rfl, hBa⟩
            · have E3 : Hid ((decide (r.count < 0) || decide (1099511627776 < r.count)) = false) := Lib.hid (by rw [decide_eq_false hc0, decide_eq_false hc1]; rfl)
              have Hres : Hid (oneE r = 0) := Lib.hid (by
                unfold oneE
                rw [E1.out, E2.out, E3.out, if_neg (by decide), if_neg (by decide), if_neg (by decide), if_neg (by rw [Hn.out]; decide), List.length_eq_zero_iff.1 Hn.out]
                rfl)
              go_wp2
              go_loopw [57] (fun i wr => i = .int .i64 0 ∧ Below wa.heap.size wa wr) (fun _ _ => 0)
              case atStart => exact ⟨rfl, Below.refl _ _⟩
              case round =>
                obtain ⟨rfl, hbr⟩ := hrel
                have hBr := Below.then hBa hbr hBa.size
                go_wp2
                go_ret
                exact ⟨by rw [Hres.out]; rfl, hBr⟩
      · rw [hl] at c64
        cases hcz : (r.count != 0)
        · cases hpz : decide (r.print = zeroD)
          · have Hres : Hid (oneE r = 1) := Lib.hid (by unfold oneE; rw [E1.out, hl, hcz, hpz]; rfl)
            go_wp2_with (first
              | (refine wpList_load_want (by rfl) 39 (.tmp 25) rfl w.heap.size 66 (by first | rfl | (simp)) (bytesV r.print) _ (by simpa using Hpr.out) Tryz.underlying39 rfl (by rw [sizeDg, bytesV_len, Hok.out.2.2.1]) ?_)
              | (refine wpList_value_want (by rfl) (.bool (!decide (r.print = zeroD))) (run_neq_dg _ (.tmp 26) (.tmp 27) rfl r.print zeroD Hok.out.2.2.1 rfl rfl rfl) ?_; rw [hpz]))
            go_ret
            exact ⟨by rw [Hres.out]; rfl, hBa⟩
          · have E2 : Hid (((r.listed && (r.count != 0 || !decide (r.print = zeroD))) || (!r.listed && decide (0 < r.ids.length))) = false) := Lib.hid (by rw [hl, hcz, hpz]; rfl)
            by_cases hc0 : r.count < 0
            · have Hres : Hid (oneE r = 2) := Lib.hid (by unfold oneE; rw [E1.out, E2.out, decide_eq_true hc0]; rfl)
              go_wp2_with (first
                    | (refine wpList_load_want (by rfl) 39 (.tmp 25) rfl w.heap.size 66 (by first | rfl | (simp)) (bytesV r.print) _ (by simpa using Hpr.out) Tryz.underlying39 rfl (by rw [sizeDg, bytesV_len, Hok.out.2.2.1]) ?_)
                    | (refine wpList_value_want (by rfl) (.bool (!decide (r.print = zeroD))) (run_neq_dg _ (.tmp 26) (.tmp 27) rfl r.print zeroD Hok.out.2.2.1 rfl rfl rfl) ?_; rw [hpz]))
              go_ret
              exact ⟨by rw [Hres.out]; rfl, hBa⟩
            · by_cases hc1 : 1099511627776 < r.count
              · have Hres : Hid (oneE r = 2) := Lib.hid (by unfold oneE; rw [E1.out, E2.out, decide_eq_false hc0, decide_eq_true hc1]; rfl)
                go_wp2_with (first
                    | (refine wpList_load_want (by rfl) 39 (.tmp 25) rfl w.heap.size 66 (by first | rfl | (simp)) (bytesV r.print) _ (by simpa using Hpr.out) Tryz.underlying39 rfl (by rw [sizeDg, bytesV_len, Hok.out.2.2.1]) ?_)
                    | (refine wpList_value_want (by rfl) (.bool (!decide (r.print = zeroD))) (run_neq_dg _ (.tmp 26) (.tmp 27) rfl r.print zeroD Hok.out.2.2.1 rfl rfl rfl) ?_; rw [hpz]))
                go_ret
                exact ⟨by rw [Hres.out]; rfl, hBa⟩
              · have E3 : Hid ((decide (r.count < 0) || decide (1099511627776 < r.count)) = false) := Lib.hid (by rw [decide_eq_false hc0, decide_eq_false hc1]; rfl)
                by_cases h400 : 400 < n
                · have h400' : (400 : Int) < (n : Int) := by omega
                  have Hres : Hid (oneE r = 4) := Lib.hid (by unfold oneE; rw [E1.out, E2.out, E3.out, if_neg (by decide), if_neg (by decide), if_neg (by decide), if_pos (by rw [Hn.out]; omega)])
                  go_wp2_with (first
                    | (refine wpList_load_want (by rfl) 39 (.tmp 25) rfl w.heap.size 66 (by first | rfl | (simp)) (bytesV r.print) _ (by simpa using Hpr.out) Tryz.underlying39 rfl (by rw [sizeDg, bytesV_len, Hok.out.2.2.1]) ?_)
                    | (refine wpList_value_want (by rfl) (.bool (!decide (r.print = zeroD))) (run_neq_dg _ (.tmp 26) (.tmp 27) rfl r.print zeroD Hok.out.2.2.1 rfl rfl rfl) ?_; rw [hpz]))
                  go_ret
                  exact ⟨by rw [Hres.out]; rfl, hBa⟩
                · have h400' : ¬ (400 : Int) < (n : Int) := by omega
                  have Hone : Hid (oneE r = idsE r.low r.high none r.ids) := Lib.hid (by unfold oneE; rw [E1.out, E2.out, E3.out, if_neg (by decide), if_neg (by decide), if_neg (by decide), if_neg (by have := h400; rw [Hn.out]; omega)])
                  clear E1 E2 E3
                  go_wp2_with (first
                          | (refine wpList_load_want (by rfl) 39 (.tmp 25) rfl w.heap.size 66 (by first | rfl | (simp)) (bytesV r.print) _ (by simpa using Hpr.out) Tryz.underlying39 rfl (by rw [sizeDg, bytesV_len, Hok.out.2.2.1]) ?_)
                          | (refine wpList_value_want (by rfl) (.bool (!decide (r.print = zeroD))) (run_neq_dg _ (.tmp 26) (.tmp 27) rfl r.print zeroD Hok.out.2.2.1 rfl rfl rfl) ?_; rw [hpz]))
                  go_loopw [57] (fun i wr => ∃ k : Nat, k ≤ n ∧ i = .int .i64 k ∧ Hid (idsE r.low r.high (prevO r.ids k) (r.ids.drop k) = idsE r.low r.high none r.ids) ∧ Below wa.heap.size wa wr) (fun i _ => n - (intOf i).toNat)
                  case atStart => exact ⟨0, by omega, rfl, Lib.hid rfl, Below.refl _ _⟩
                  case round =>
                    clear c64 c65 c98
                    obtain ⟨k, hk, rfl, Hst, hbr⟩ := hrel
                    by_cases hltn : k < n
                    · have hlt : k < r.ids.length := by rw [Hn.out]; exact hltn
                      have hlt' : (k : Int) < (n : Int) := by omega
                      have Hnx := Lib.hid (idsE_next (low := r.low) (high := r.high) hlt)
                      have hDr := HDa.out.below hbr
                      obtain ⟨b, off, c', e', _, _, _, hb, hra⟩ := hDr.at hlt
                      rw [Hn.out] at e'
                      obtain ⟨rfl, rfl⟩ : o = some ⟨b, off, none⟩ ∧ c = c' := by simpa using e'
                      have hxl : r.ids[k].length = 32 := HDa.out.2 _ (List.getElem_mem hlt)
                      have Hxl : Hid ((bytesV r.ids[k]).length = 32) := Lib.hid (by rw [bytesV_len, hxl])
                      have Hin := Lib.hid (fun W => rc_inside r (.slice (some ⟨b, off, none⟩) n c) Hok.out r.ids[k] hxl W)
                      have Hra := Lib.hid hra
                      have hb6 : Below wr.heap.size wr ((wr.alloc (.cells z0 39)).setCells wr.heap.size 0 (bytesV r.ids[k]).toArray.toList) := below_setCells (Nat.le_refl _) _ _ _ (Below.one wr (.cells z0 39))
                      have xd := (Bx.new wr z0 39).setAll (cx := (bytesV r.ids[k]).toArray) (by rw [Hzl.out, List.size_toArray, Hxl.out])
                      have HX : Hid (((wr.alloc (.cells z0 39)).setCells wr.heap.size 0 (bytesV r.ids[k]).toArray.toList).rangeAt wr.heap.size 0 (bytesV r.ids[k])) := Lib.hid (by simpa using xd.range)
                      have lX := xd.lt
                      have Hone1 : Hid (∀ u ∈ bytesV r.ids[k], u.oneCell' = true) := Lib.hid (bytesV_one _)
                      have hBr := Below.then hBa hbr hBa.size
                      have hBx := Below.then hBr hb6 hBr.size
                      have HRr := rangeAt_below Hxa.out hbr lra
                      have lrr : w.heap.size < wr.heap.size := Nat.lt_of_lt_of_le lra hbr.size
                      have HRx := Lib.hid (rangeAt_below HRr hb6 lrr)
                      have hDx := Lib.hid (hDr.below hb6)
                      have hsx := hb6.size
                      have Hbx := Lib.hid (Below.trans hbr (hb6.mono hbr.size))
                      clear hra e' xd hDr hBr HRr hb6
                      have Hxl32 := Lib.hid hxl
                      clear hxl
                      rcases Nat.eq_zero_or_pos k with rfl | hpos
                      · have Hany : Hid ((prevO r.ids 0).any (fun y => decide ((0 : Int) ≤ cmpD y r.ids[0])) = false) := Lib.hid rfl
                        generalize r.ids[0] = x at *
                        go_wp2_with (first
                          | (refine wpList_load_mid rfl 39 (.tmp 60) rfl b off (by first | rfl | (simp)) (bytesV x) _ (by simpa using Hra.out) Tryz.underlying39 rfl (by rw [sizeDg, Hxl.out]) ?_)
                          | (refine wpList_alloc_row rfl 39 rfl z0 Hzi.out ?_)
                          | (refine wpList_store_mid rfl 39 (.tmp 4) (.tmp 61) rfl wr.heap.size 0 (bytesV x).toArray rfl rfl (there_bx (Bx.new wr z0 39) (by rw [Hzl.out, List.size_toArray, Hxl.out]; exact Nat.le_refl _)) (by rw [sizeDg, List.size_toArray, Hxl.out]) (by simpa using Hone1.out) ?_; generalize (wr.alloc (.cells z0 39)).setCells wr.heap.size 0 (bytesV x).toArray.toList = w6 at *))
                        (try simp only [Act.put])
                        have cQ := Lat.cells w6
                        refine wp_region_lat (by kernel_rfl) (by kernel_rfl) ?_
                        repeat (first | go_big_quiet_skip | (go_big_quiet_want; first | ((fail); simp only [Act.put, List.setIfInBounds_toArray, List.set_cons_zero, List.set_cons_succ]; go_big_quiet_on) | (go_big_quiet_op; first | go_big_quiet_on | go_big_quiet_call ((fail)))))
                        refine wpQuiet_nil ?_
                        rintro W4 ⟨⟨_, hb4⟩, rfl⟩
                        have hlt2 : 0 + 1 ≤ n := by omega
                        have hB4 := Below.then hBx hb4 hBx.size
                        have HR4 := Lib.hid (rangeAt_below HRx.out hb4 (Nat.lt_trans lrr lX))
                        have HX4 := Lib.hid (rangeAt_below HX.out hb4 lX)
                        have Hb4 := Lib.hid (Below.trans Hbx.out (hb4.mono Hbx.out.size))
                        clear cQ hb4
                        cases hi : insB r.low r.high x
                        · have Hres : Hid (oneE r = 2) := Lib.hid (by rw [Hone.out, ← Hst.out, Hnx.out, Hany.out, hi]; rfl)
                          go_wp2_with (first
                            | (refine wpList_load_mid rfl 41 (.tmp 1) rfl w.heap.size 0 rfl (r.cells (.slice (some ⟨b, off, none⟩) n c)) _ HR4.out Tryz.underlying41 rfl (by rw [sizeRg, Hrl.out]) ?_)
                            | (refine wpList_load_mid rfl 39 (.tmp 4) rfl wr.heap.size 0 rfl (bytesV x) _ HX4.out Tryz.underlying39 rfl (by rw [sizeDg, Hxl.out]) ?_))
                          refine (Hin.out _).mono ?_
                          rintro e w5 ⟨rfl, hb5⟩
                          rw [hi]
                          have hB5 := Below.then hB4 hb5 hB4.size
                          go_wp2
                          go_ret
                          exact ⟨by rw [Hres.out]; rfl, hB5⟩
                        · go_wp2_with (first
                            | (refine wpList_load_mid rfl 41 (.tmp 1) rfl w.heap.size 0 rfl (r.cells (.slice (some ⟨b, off, none⟩) n c)) _ HR4.out Tryz.underlying41 rfl (by rw [sizeRg, Hrl.out]) ?_)
                            | (refine wpList_load_mid rfl 39 (.tmp 4) rfl wr.heap.size 0 rfl (bytesV x) _ HX4.out Tryz.underlying39 rfl (by rw [sizeDg, Hxl.out]) ?_))
                          refine (Hin.out _).mono ?_
                          rintro e w5 ⟨rfl, hb5⟩
                          rw [hi]
                          have hB5 := Lib.hid (Below.then Hb4.out hb5 Hb4.out.size)
                          have Hst2 := Hnx.out
                          rw [Hany.out, hi, Hst.out] at Hst2
                          have Hst3 := Lib.hid Hst2
                          clear Hst2
                          go_wp2
                          go_roundw
                          case rel => exact ⟨_, hlt2, by go_num, Lib.hid Hst3.out.symm, hB5.out⟩
                          case measure => simp [intOf]; omega
                      · obtain ⟨m, rfl⟩ : ∃ m, k = m + 1 := ⟨k - 1, by omega⟩
                        have hltm : m < r.ids.length := by omega
                        obtain ⟨b', off', c', e', _, _, _, _, hry⟩ := hDx.out.at hltm
                        rw [Hn.out] at e'
                        obtain ⟨⟨rfl, rfl⟩, rfl⟩ : (b = b' ∧ off = off') ∧ c = c' := by simpa using e'
                        have hyl : r.ids[m].length = 32 := HDa.out.2 _ (List.getElem_mem hltm)
                        have Hyl : Hid ((bytesV r.ids[m]).length = 32) := Lib.hid (by rw [bytesV_len, hyl])
                        have Hcy := Lib.hid (fun W => sha_compare r.ids[m] r.ids[m + 1] hyl Hxl32.out W)
                        have Hry := Lib.hid hry
                        have hpv : (prevO r.ids (m + 1)).any (fun y => decide (0 ≤ cmpD y r.ids[m + 1])) = decide (0 ≤ cmpD r.ids[m] r.ids[m + 1]) := by
                          rw [show prevO r.ids (m + 1) = some r.ids[m] from List.getElem?_eq_getElem hltm]; rfl
                        have Hpv := Lib.hid hpv
                        have lb6 : b < ((wr.alloc (.cells z0 39)).setCells wr.heap.size 0 (bytesV r.ids[m + 1]).toArray.toList).heap.size := Nat.lt_of_lt_of_le hb (Nat.le_trans (Nat.le_refl _) hsx)
                        have c98 : ((wr.alloc (.cells z0 39)).setCells wr.heap.size 0 (bytesV r.ids[m + 1]).toArray.toList).cell? ⟨w.heap.size, 98, none⟩ = some (.slice (some ⟨b, off, none⟩) n c) := by simpa using Rg.ids_at Hok.out HRx.out
                        have lr6 := Nat.lt_trans lrr lX
                        have hlt2 : m + 1 + 1 ≤ n := by omega
                        clear hry hpv hyl e' hpos
                        cases hq : decide (0 ≤ cmpD r.ids[m] r.ids[m + 1])
                        · have Hany := Hpv
                          rw [hq] at Hany
                          generalize r.ids[m + 1] = x at *
                          generalize r.ids[m] = y at *
                          go_wp2_with (first
                          | (refine wpList_load_mid rfl 39 (.tmp 60) rfl b (off + (m + 1) * 32) (by first | rfl | (simp)) (bytesV x) _ (by simpa using Hra.out) Tryz.underlying39 rfl (by rw [sizeDg, Hxl.out]) ?_)
                          | (refine wpList_alloc_row rfl 39 rfl z0 Hzi.out ?_)
                          | (refine wpList_store_mid rfl 39 (.tmp 4) (.tmp 61) rfl wr.heap.size 0 (bytesV x).toArray rfl rfl (there_bx (Bx.new wr z0 39) (by rw [Hzl.out, List.size_toArray, Hxl.out]; exact Nat.le_refl _)) (by rw [sizeDg, List.size_toArray, Hxl.out]) (by simpa using Hone1.out) ?_; generalize (wr.alloc (.cells z0 39)).setCells wr.heap.size 0 (bytesV x).toArray.toList = w6 at *))
                          (try simp only [Act.put])
                          have cQ := Lat.cells w6
                          refine wp_region_lat (by kernel_rfl) (by kernel_rfl) ?_
                          repeat (first | go_big_quiet_skip | (go_big_quiet_want; first | ((first | (refine quiet_load_row 39 (.tmp 69) rfl b (off + m * 32) rfl (bytesV y) _ (lat_range Hry.out lb6) Tryz.underlying39 rfl (by rw [sizeDg, Hyl.out]) ?_) | (refine quiet_load_row 39 (.tmp 4) rfl wr.heap.size 0 rfl (bytesV x) _ (lat_range HX.out lX) Tryz.underlying39 rfl (by rw [sizeDg, Hxl.out]) ?_)); simp only [Act.put, List.setIfInBounds_toArray, List.set_cons_zero, List.set_cons_succ]; go_big_quiet_on) | (go_big_quiet_op; first | go_big_quiet_on | go_big_quiet_call ((exact Calls.lat (Hcy.out _))))))
                          refine wpQuiet_nil ?_
                          rintro W4 ⟨⟨_, hb4⟩, rfl⟩
                          have hB4 := Below.then hBx hb4 hBx.size
                          have HR4 := Lib.hid (rangeAt_below HRx.out hb4 (Nat.lt_trans lrr lX))
                          have HX4 := Lib.hid (rangeAt_below HX.out hb4 lX)
                          have Hb4 := Lib.hid (Below.trans Hbx.out (hb4.mono Hbx.out.size))
                          clear cQ hb4
                          cases hi : insB r.low r.high x
                          · have Hres : Hid (oneE r = 2) := Lib.hid (by rw [Hone.out, ← Hst.out, Hnx.out, Hany.out, hi]; rfl)
                            go_wp2_with (first
                              | (refine wpList_load_mid rfl 41 (.tmp 1) rfl w.heap.size 0 rfl (r.cells (.slice (some ⟨b, off, none⟩) n c)) _ HR4.out Tryz.underlying41 rfl (by rw [sizeRg, Hrl.out]) ?_)
                              | (refine wpList_load_mid rfl 39 (.tmp 4) rfl wr.heap.size 0 rfl (bytesV x) _ HX4.out Tryz.underlying39 rfl (by rw [sizeDg, Hxl.out]) ?_))
                            refine (Hin.out _).mono ?_
                            rintro e w5 ⟨rfl, hb5⟩
                            rw [hi]
                            have hB5 := Below.then hB4 hb5 hB4.size
                            go_wp2
                            go_ret
                            exact ⟨by rw [Hres.out]; rfl, hB5⟩
                          · go_wp2_with (first
                              | (refine wpList_load_mid rfl 41 (.tmp 1) rfl w.heap.size 0 rfl (r.cells (.slice (some ⟨b, off, none⟩) n c)) _ HR4.out Tryz.underlying41 rfl (by rw [sizeRg, Hrl.out]) ?_)
                              | (refine wpList_load_mid rfl 39 (.tmp 4) rfl wr.heap.size 0 rfl (bytesV x) _ HX4.out Tryz.underlying39 rfl (by rw [sizeDg, Hxl.out]) ?_))
                            refine (Hin.out _).mono ?_
                            rintro e w5 ⟨rfl, hb5⟩
                            rw [hi]
                            have hB5 := Lib.hid (Below.then Hb4.out hb5 Hb4.out.size)
                            have Hst2 := Hnx.out
                            rw [Hany.out, hi, Hst.out] at Hst2
                            have Hst3 := Lib.hid Hst2
                            clear Hst2
                            go_wp2
                            go_roundw
                            case rel => exact ⟨_, hlt2, by go_num, Lib.hid Hst3.out.symm, hB5.out⟩
                            case measure => simp [intOf]; omega
                        · have Hres : Hid (oneE r = 9) := Lib.hid (by rw [Hone.out, ← Hst.out, Hnx.out, Hpv.out, hq]; rfl)
                          generalize r.ids[m + 1] = x at *
                          generalize r.ids[m] = y at *
                          go_wp2_with (first
                          | (refine wpList_load_mid rfl 39 (.tmp 60) rfl b (off + (m + 1) * 32) (by first | rfl | (simp)) (bytesV x) _ (by simpa using Hra.out) Tryz.underlying39 rfl (by rw [sizeDg, Hxl.out]) ?_)
                          | (refine wpList_alloc_row rfl 39 rfl z0 Hzi.out ?_)
                          | (refine wpList_store_mid rfl 39 (.tmp 4) (.tmp 61) rfl wr.heap.size 0 (bytesV x).toArray rfl rfl (there_bx (Bx.new wr z0 39) (by rw [Hzl.out, List.size_toArray, Hxl.out]; exact Nat.le_refl _)) (by rw [sizeDg, List.size_toArray, Hxl.out]) (by simpa using Hone1.out) ?_; generalize (wr.alloc (.cells z0 39)).setCells wr.heap.size 0 (bytesV x).toArray.toList = w6 at *))
                          (try simp only [Act.put])
                          have cQ := Lat.cells w6
                          refine wp_region_lat (by kernel_rfl) (by kernel_rfl) ?_
                          repeat (first | go_big_quiet_skip | (go_big_quiet_want; first | ((first | (refine quiet_load_row 39 (.tmp 69) rfl b (off + m * 32) rfl (bytesV y) _ (lat_range Hry.out lb6) Tryz.underlying39 rfl (by rw [sizeDg, Hyl.out]) ?_) | (refine quiet_load_row 39 (.tmp 4) rfl wr.heap.size 0 rfl (bytesV x) _ (lat_range HX.out lX) Tryz.underlying39 rfl (by rw [sizeDg, Hxl.out]) ?_)); simp only [Act.put, List.setIfInBounds_toArray, List.set_cons_zero, List.set_cons_succ]; go_big_quiet_on) | (go_big_quiet_op; first | go_big_quiet_on | go_big_quiet_call ((exact Calls.lat (Hcy.out _))))))
                          refine wpQuiet_nil ?_
                          rintro W4 ⟨⟨_, hb4⟩, rfl⟩
                          have hB4 := Below.then hBx hb4 hBx.size
                          clear cQ
                          go_wp2
                          go_ret
                          exact ⟨by rw [Hres.out]; rfl, hB4⟩
                    · obtain rfl : k = n := by omega
                      have hlt' : ¬ (k : Int) < (k : Int) := by omega
                      have hBr := Below.then hBa hbr hBa.size
                      have Hres : Hid (oneE r = 0) := Lib.hid (by rw [Hone.out, ← Hst.out, List.drop_eq_nil_of_le (by rw [Hn.out]; exact Nat.le_refl _)]; cases prevO r.ids k <;> rfl)
                      go_wp2
                      go_ret
                      exact ⟨by rw [Hres.out]; rfl, hBr⟩
        · have Hres : Hid (oneE r = 1) := Lib.hid (by unfold oneE; rw [E1.out, hl, hcz]; rfl)
          go_wp2
          go_ret
          exact ⟨by rw [Hres.out]; rfl, hBa⟩
    · have Hres : Hid (oneE r = 9) := Lib.hid (by unfold oneE; rw [ho, hq]; rfl)
      go_wp2
      go_ret
      exact ⟨by rw [Hres.out]; rfl, hBa⟩
  · generalize hwe : w2 = wa at *
    clear hwe
    have hBa := hB2
    have Hxa := HR2
    have lra := lr2
    have HDa := HD2
    clear HR2 hB2 lr2 HD2
    have E1 : Hid ((!openB r.high && decide (0 ≤ cmpD r.low r.high)) = false) := Lib.hid (by rw [ho]; rfl)
    have c64 : wa.cell? ⟨w.heap.size, 64, none⟩ = some (.bool r.listed) := by simpa using Rg.listed_at Hok.out Hxa.out
    have c65 : wa.cell? ⟨w.heap.size, 65, none⟩ = some (.int .i64 r.count) := by simpa using Rg.count_at Hok.out Hxa.out
    have c98 : wa.cell? ⟨w.heap.size, 98, none⟩ = some (.slice o n c) := by simpa using Rg.ids_at Hok.out Hxa.out
    have Hpr := Lib.hid (Rg.print_at Hok.out Hxa.out)
    cases hl : r.listed
    · rw [hl] at c64
      by_cases hn : 0 < n
      · have Hres : Hid (oneE r = 1) := Lib.hid (by unfold oneE; rw [E1.out, hl, Hn.out, decide_eq_true (hn)]; rfl)
        go_wp2
        go_ret
        exact ⟨by rw [Hres.out]; rfl, hBa⟩
      · have E2 : Hid (((r.listed && (r.count != 0 || !decide (r.print = zeroD))) || (!r.listed && decide (0 < r.ids.length))) = false) := Lib.hid (by rw [hl, Hn.out, decide_eq_false hn]; rfl)
        obtain rfl : n = 0 := by omega
        by_cases hc0 : r.count < 0
        · have Hres : Hid (oneE r = 2) := Lib.hid (by unfold oneE; rw [E1.out, E2.out, decide_eq_true hc0]; rfl)
          go_wp2
          go_ret
          exact ⟨by rw [Hres.out]; rfl, hBa⟩
        · by_cases hc1 : 1099511627776 < r.count
          · have Hres : Hid (oneE r = 2) := Lib.hid (by unfold oneE; rw [E1.out, E2.out, decide_eq_false hc0, decide_eq_true hc1]; rfl)
            go_wp2
            go_ret
            exact ⟨by rw [Hres.out]; rfl, hBa⟩
          · have E3 : Hid ((decide (r.count < 0) || decide (1099511627776 < r.count)) = false) := Lib.hid (by rw [decide_eq_false hc0, decide_eq_false hc1]; rfl)
            have Hres : Hid (oneE r = 0) := Lib.hid (by
              unfold oneE
              rw [E1.out, E2.out, E3.out, if_neg (by decide), if_neg (by decide), if_neg (by decide), if_neg (by rw [Hn.out]; decide), List.length_eq_zero_iff.1 Hn.out]
              rfl)
            go_wp2
            go_loopw [57] (fun i wr => i = .int .i64 0 ∧ Below wa.heap.size wa wr) (fun _ _ => 0)
            case atStart => exact ⟨rfl, Below.refl _ _⟩
            case round =>
              obtain ⟨rfl, hbr⟩ := hrel
              have hBr := Below.then hBa hbr hBa.size
              go_wp2
              go_ret
              exact ⟨by rw [Hres.out]; rfl, hBr⟩
    · rw [hl] at c64
      cases hcz : (r.count != 0)
      · cases hpz : decide (r.print = zeroD)
        · have Hres : Hid (oneE r = 1) := Lib.hid (by unfold oneE; rw [E1.out, hl, hcz, hpz]; rfl)
          go_wp2_with (first
            | (refine wpList_load_want (by rfl) 39 (.tmp 25) rfl w.heap.size 66 (by first | rfl | (simp)) (bytesV r.print) _ (by simpa using Hpr.out) Tryz.underlying39 rfl (by rw [sizeDg, bytesV_len, Hok.out.2.2.1]) ?_)
            | (refine wpList_value_want (by rfl) (.bool (!decide (r.print = zeroD))) (run_neq_dg _ (.tmp 26) (.tmp 27) rfl r.print zeroD Hok.out.2.2.1 rfl rfl rfl) ?_; rw [hpz]))
          go_ret
          exact ⟨by rw [Hres.out]; rfl, hBa⟩
        · have E2 : Hid (((r.listed && (r.count != 0 || !decide (r.print = zeroD))) || (!r.listed && decide (0 < r.ids.length))) = false) := Lib.hid (by rw [hl, hcz, hpz]; rfl)
          by_cases hc0 : r.count < 0
          · have Hres : Hid (oneE r = 2) := Lib.hid (by unfold oneE; rw [E1.out, E2.out, decide_eq_true hc0]; rfl)
            go_wp2_with (first
                  | (refine wpList_load_want (by rfl) 39 (.tmp 25) rfl w.heap.size 66 (by first | rfl | (simp)) (bytesV r.print) _ (by simpa using Hpr.out) Tryz.underlying39 rfl (by rw [sizeDg, bytesV_len, Hok.out.2.2.1]) ?_)
                  | (refine wpList_value_want (by rfl) (.bool (!decide (r.print = zeroD))) (run_neq_dg _ (.tmp 26) (.tmp 27) rfl r.print zeroD Hok.out.2.2.1 rfl rfl rfl) ?_; rw [hpz]))
            go_ret
            exact ⟨by rw [Hres.out]; rfl, hBa⟩
          · by_cases hc1 : 1099511627776 < r.count
            · have Hres : Hid (oneE r = 2) := Lib.hid (by unfold oneE; rw [E1.out, E2.out, decide_eq_false hc0, decide_eq_true hc1]; rfl)
              go_wp2_with (first
                  | (refine wpList_load_want (by rfl) 39 (.tmp 25) rfl w.heap.size 66 (by first | rfl | (simp)) (bytesV r.print) _ (by simpa using Hpr.out) Tryz.underlying39 rfl (by rw [sizeDg, bytesV_len, Hok.out.2.2.1]) ?_)
                  | (refine wpList_value_want (by rfl) (.bool (!decide (r.print = zeroD))) (run_neq_dg _ (.tmp 26) (.tmp 27) rfl r.print zeroD Hok.out.2.2.1 rfl rfl rfl) ?_; rw [hpz]))
              go_ret
              exact ⟨by rw [Hres.out]; rfl, hBa⟩
            · have E3 : Hid ((decide (r.count < 0) || decide (1099511627776 < r.count)) = false) := Lib.hid (by rw [decide_eq_false hc0, decide_eq_false hc1]; rfl)
              by_cases h400 : 400 < n
              · have h400' : (400 : Int) < (n : Int) := by omega
                have Hres : Hid (oneE r = 4) := Lib.hid (by unfold oneE; rw [E1.out, E2.out, E3.out, if_neg (by decide), if_neg (by decide), if_neg (by decide), if_pos (by rw [Hn.out]; omega)])
                go_wp2_with (first
                  | (refine wpList_load_want (by rfl) 39 (.tmp 25) rfl w.heap.size 66 (by first | rfl | (simp)) (bytesV r.print) _ (by simpa using Hpr.out) Tryz.underlying39 rfl (by rw [sizeDg, bytesV_len, Hok.out.2.2.1]) ?_)
                  | (refine wpList_value_want (by rfl) (.bool (!decide (r.print = zeroD))) (run_neq_dg _ (.tmp 26) (.tmp 27) rfl r.print zeroD Hok.out.2.2.1 rfl rfl rfl) ?_; rw [hpz]))
                go_ret
                exact ⟨by rw [Hres.out]; rfl, hBa⟩
              · have h400' : ¬ (400 : Int) < (n : Int) := by omega
                have Hone : Hid (oneE r = idsE r.low r.high none r.ids) := Lib.hid (by unfold oneE; rw [E1.out, E2.out, E3.out, if_neg (by decide), if_neg (by decide), if_neg (by decide), if_neg (by have := h400; rw [Hn.out]; omega)])
                clear E1 E2 E3
                go_wp2_with (first
                        | (refine wpList_load_want (by rfl) 39 (.tmp 25) rfl w.heap.size 66 (by first | rfl | (simp)) (bytesV r.print) _ (by simpa using Hpr.out) Tryz.underlying39 rfl (by rw [sizeDg, bytesV_len, Hok.out.2.2.1]) ?_)
                        | (refine wpList_value_want (by rfl) (.bool (!decide (r.print = zeroD))) (run_neq_dg _ (.tmp 26) (.tmp 27) rfl r.print zeroD Hok.out.2.2.1 rfl rfl rfl) ?_; rw [hpz]))
                go_loopw [57] (fun i wr => ∃ k : Nat, k ≤ n ∧ i = .int .i64 k ∧ Hid (idsE r.low r.high (prevO r.ids k) (r.ids.drop k) = idsE r.low r.high none r.ids) ∧ Below wa.heap.size wa wr) (fun i _ => n - (intOf i).toNat)
                case atStart => exact ⟨0, by omega, rfl, Lib.hid rfl, Below.refl _ _⟩
                case round =>
                  clear c64 c65 c98
                  obtain ⟨k, hk, rfl, Hst, hbr⟩ := hrel
                  by_cases hltn : k < n
                  · have hlt : k < r.ids.length := by rw [Hn.out]; exact hltn
                    have hlt' : (k : Int) < (n : Int) := by omega
                    have Hnx := Lib.hid (idsE_next (low := r.low) (high := r.high) hlt)
                    have hDr := HDa.out.below hbr
                    obtain ⟨b, off, c', e', _, _, _, hb, hra⟩ := hDr.at hlt
                    rw [Hn.out] at e'
                    obtain ⟨rfl, rfl⟩ : o = some ⟨b, off, none⟩ ∧ c = c' := by simpa using e'
                    have hxl : r.ids[k].length = 32 := HDa.out.2 _ (List.getElem_mem hlt)
                    have Hxl : Hid ((bytesV r.ids[k]).length = 32) := Lib.hid (by rw [bytesV_len, hxl])
                    have Hin := Lib.hid (fun W => rc_inside r (.slice (some ⟨b, off, none⟩) n c) Hok.out r.ids[k] hxl W)
                    have Hra := Lib.hid hra
                    have hb6 : Below wr.heap.size wr ((wr.alloc (.cells z0 39)).setCells wr.heap.size 0 (bytesV r.ids[k]).toArray.toList) := below_setCells (Nat.le_refl _) _ _ _ (Below.one wr (.cells z0 39))
                    have xd := (Bx.new wr z0 39).setAll (cx := (bytesV r.ids[k]).toArray) (by rw [Hzl.out, List.size_toArray, Hxl.out])
                    have HX : Hid (((wr.alloc (.cells z0 39)).setCells wr.heap.size 0 (bytesV r.ids[k]).toArray.toList).rangeAt wr.heap.size 0 (bytesV r.ids[k])) := Lib.hid (by simpa using xd.range)
                    have lX := xd.lt
                    have Hone1 : Hid (∀ u ∈ bytesV r.ids[k], u.oneCell' = true) := Lib.hid (bytesV_one _)
                    have hBr := Below.then hBa hbr hBa.size
                    have hBx := Below.then hBr hb6 hBr.size
                    have HRr := rangeAt_below Hxa.out hbr lra
                    have lrr : w.heap.size < wr.heap.size := Nat.lt_of_lt_of_le lra hbr.size
                    have HRx := Lib.hid (rangeAt_below HRr hb6 lrr)
                    have hDx := Lib.hid (hDr.below hb6)
                    have hsx := hb6.size
                    have Hbx := Lib.hid (Below.trans hbr (hb6.mono hbr.size))
                    clear hra e' xd hDr hBr HRr hb6
                    have Hxl32 := Lib.hid hxl
                    clear hxl
                    rcases Nat.eq_zero_or_pos k with rfl | hpos
                    · have Hany : Hid ((prevO r.ids 0).any (fun y => decide ((0 : Int) ≤ cmpD y r.ids[0])) = false) := Lib.hid rfl
                      generalize r.ids[0] = x at *
                      go_wp2_with (first
                        | (refine wpList_load_mid rfl 39 (.tmp 60) rfl b off (by first | rfl | (simp)) (bytesV x) _ (by simpa using Hra.out) Tryz.underlying39 rfl (by rw [sizeDg, Hxl.out]) ?_)
                        | (refine wpList_alloc_row rfl 39 rfl z0 Hzi.out ?_)
                        | (refine wpList_store_mid rfl 39 (.tmp 4) (.tmp 61) rfl wr.heap.size 0 (bytesV x).toArray rfl rfl (there_bx (Bx.new wr z0 39) (by rw [Hzl.out, List.size_toArray, Hxl.out]; exact Nat.le_refl _)) (by rw [sizeDg, List.size_toArray, Hxl.out]) (by simpa using Hone1.out) ?_; generalize (wr.alloc (.cells z0 39)).setCells wr.heap.size 0 (bytesV x).toArray.toList = w6 at *))
                      (try simp only [Act.put])
                      have cQ := Lat.cells w6
                      refine wp_region_lat (by kernel_rfl) (by kernel_rfl) ?_
                      repeat (first | go_big_quiet_skip | (go_big_quiet_want; first | ((fail); simp only [Act.put, List.setIfInBounds_toArray, List.set_cons_zero, List.set_cons_succ]; go_big_quiet_on) | (go_big_quiet_op; first | go_big_quiet_on | go_big_quiet_call ((fail)))))
                      refine wpQuiet_nil ?_
                      rintro W4 ⟨⟨_, hb4⟩, rfl⟩
                      have hlt2 : 0 + 1 ≤ n := by omega
                      have hB4 := Below.then hBx hb4 hBx.size
                      have HR4 := Lib.hid (rangeAt_below HRx.out hb4 (Nat.lt_trans lrr lX))
                      have HX4 := Lib.hid (rangeAt_below HX.out hb4 lX)
                      have Hb4 := Lib.hid (Below.trans Hbx.out (hb4.mono Hbx.out.size))
                      clear cQ hb4
                      cases hi : insB r.low r.high x
                      · have Hres : Hid (oneE r = 2) := Lib.hid (by rw [Hone.out, ← Hst.out, Hnx.out, Hany.out, hi]; rfl)
                        go_wp2_with (first
                          | (refine wpList_load_mid rfl 41 (.tmp 1) rfl w.heap.size 0 rfl (r.cells (.slice (some ⟨b, off, none⟩) n c)) _ HR4.out Tryz.underlying41 rfl (by rw [sizeRg, Hrl.out]) ?_)
                          | (refine wpList_load_mid rfl 39 (.tmp 4) rfl wr.heap.size 0 rfl (bytesV x) _ HX4.out Tryz.underlying39 rfl (by rw [sizeDg, Hxl.out]) ?_))
                        refine (Hin.out _).mono ?_
                        rintro e w5 ⟨rfl, hb5⟩
                        rw [hi]
                        have hB5 := Below.then hB4 hb5 hB4.size
                        go_wp2
                        go_ret
                        exact ⟨by rw [Hres.out]; rfl, hB5⟩
                      · go_wp2_with (first
                          | (refine wpList_load_mid rfl 41 (.tmp 1) rfl w.heap.size 0 rfl (r.cells (.slice (some ⟨b, off, none⟩) n c)) _ HR4.out Tryz.underlying41 rfl (by rw [sizeRg, Hrl.out]) ?_)
                          | (refine wpList_load_mid rfl 39 (.tmp 4) rfl wr.heap.size 0 rfl (bytesV x) _ HX4.out Tryz.underlying39 rfl (by rw [sizeDg, Hxl.out]) ?_))
                        refine (Hin.out _).mono ?_
                        rintro e w5 ⟨rfl, hb5⟩
                        rw [hi]
                        have hB5 := Lib.hid (Below.then Hb4.out hb5 Hb4.out.size)
                        have Hst2 := Hnx.out
                        rw [Hany.out, hi, Hst.out] at Hst2
                        have Hst3 := Lib.hid Hst2
                        clear Hst2
                        go_wp2
                        go_roundw
                        case rel => exact ⟨_, hlt2, by go_num, Lib.hid Hst3.out.symm, hB5.out⟩
                        case measure => simp [intOf]; omega
                    · obtain ⟨m, rfl⟩ : ∃ m, k = m + 1 := ⟨k - 1, by omega⟩
                      have hltm : m < r.ids.length := by omega
                      obtain ⟨b', off', c', e', _, _, _, _, hry⟩ := hDx.out.at hltm
                      rw [Hn.out] at e'
                      obtain ⟨⟨rfl, rfl⟩, rfl⟩ : (b = b' ∧ off = off') ∧ c = c' := by simpa using e'
                      have hyl : r.ids[m].length = 32 := HDa.out.2 _ (List.getElem_mem hltm)
                      have Hyl : Hid ((bytesV r.ids[m]).length = 32) := Lib.hid (by rw [bytesV_len, hyl])
                      have Hcy := Lib.hid (fun W => sha_compare r.ids[m] r.ids[m + 1] hyl Hxl32.out W)
                      have Hry := Lib.hid hry
                      have hpv : (prevO r.ids (m + 1)).any (fun y => decide (0 ≤ cmpD y r.ids[m + 1])) = decide (0 ≤ cmpD r.ids[m] r.ids[m + 1]) := by
                        rw [show prevO r.ids (m + 1) = some r.ids[m] from List.getElem?_eq_getElem hltm]; rfl
                      have Hpv := Lib.hid hpv
                      have lb6 : b < ((wr.alloc (.cells z0 39)).setCells wr.heap.size 0 (bytesV r.ids[m + 1]).toArray.toList).heap.size := Nat.lt_of_lt_of_le hb (Nat.le_trans (Nat.le_refl _) hsx)
                      have c98 : ((wr.alloc (.cells z0 39)).setCells wr.heap.size 0 (bytesV r.ids[m + 1]).toArray.toList).cell? ⟨w.heap.size, 98, none⟩ = some (.slice (some ⟨b, off, none⟩) n c) := by simpa using Rg.ids_at Hok.out HRx.out
                      have lr6 := Nat.lt_trans lrr lX
                      have hlt2 : m + 1 + 1 ≤ n := by omega
                      clear hry hpv hyl e' hpos
                      cases hq : decide (0 ≤ cmpD r.ids[m] r.ids[m + 1])
                      · have Hany := Hpv
                        rw [hq] at Hany
                        generalize r.ids[m + 1] = x at *
                        generalize r.ids[m] = y at *
                        go_wp2_with (first
                        | (refine wpList_load_mid rfl 39 (.tmp 60) rfl b (off + (m + 1) * 32) (by first | rfl | (simp)) (bytesV x) _ (by simpa using Hra.out) Tryz.underlying39 rfl (by rw [sizeDg, Hxl.out]) ?_)
                        | (refine wpList_alloc_row rfl 39 rfl z0 Hzi.out ?_)
                        | (refine wpList_store_mid rfl 39 (.tmp 4) (.tmp 61) rfl wr.heap.size 0 (bytesV x).toArray rfl rfl (there_bx (Bx.new wr z0 39) (by rw [Hzl.out, List.size_toArray, Hxl.out]; exact Nat.le_refl _)) (by rw [sizeDg, List.size_toArray, Hxl.out]) (by simpa using Hone1.out) ?_; generalize (wr.alloc (.cells z0 39)).setCells wr.heap.size 0 (bytesV x).toArray.toList = w6 at *))
                        (try simp only [Act.put])
                        have cQ := Lat.cells w6
                        refine wp_region_lat (by kernel_rfl) (by kernel_rfl) ?_
                        repeat (first | go_big_quiet_skip | (go_big_quiet_want; first | ((first | (refine quiet_load_row 39 (.tmp 69) rfl b (off + m * 32) rfl (bytesV y) _ (lat_range Hry.out lb6) Tryz.underlying39 rfl (by rw [sizeDg, Hyl.out]) ?_) | (refine quiet_load_row 39 (.tmp 4) rfl wr.heap.size 0 rfl (bytesV x) _ (lat_range HX.out lX) Tryz.underlying39 rfl (by rw [sizeDg, Hxl.out]) ?_)); simp only [Act.put, List.setIfInBounds_toArray, List.set_cons_zero, List.set_cons_succ]; go_big_quiet_on) | (go_big_quiet_op; first | go_big_quiet_on | go_big_quiet_call ((exact Calls.lat (Hcy.out _))))))
                        refine wpQuiet_nil ?_
                        rintro W4 ⟨⟨_, hb4⟩, rfl⟩
                        have hB4 := Below.then hBx hb4 hBx.size
                        have HR4 := Lib.hid (rangeAt_below HRx.out hb4 (Nat.lt_trans lrr lX))
                        have HX4 := Lib.hid (rangeAt_below HX.out hb4 lX)
                        have Hb4 := Lib.hid (Below.trans Hbx.out (hb4.mono Hbx.out.size))
                        clear cQ hb4
                        cases hi : insB r.low r.high x
                        · have Hres : Hid (oneE r = 2) := Lib.hid (by rw [Hone.out, ← Hst.out, Hnx.out, Hany.out, hi]; rfl)
                          go_wp2_with (first
                            | (refine wpList_load_mid rfl 41 (.tmp 1) rfl w.heap.size 0 rfl (r.cells (.slice (some ⟨b, off, none⟩) n c)) _ HR4.out Tryz.underlying41 rfl (by rw [sizeRg, Hrl.out]) ?_)
                            | (refine wpList_load_mid rfl 39 (.tmp 4) rfl wr.heap.size 0 rfl (bytesV x) _ HX4.out Tryz.underlying39 rfl (by rw [sizeDg, Hxl.out]) ?_))
                          refine (Hin.out _).mono ?_
                          rintro e w5 ⟨rfl, hb5⟩
                          rw [hi]
                          have hB5 := Below.then hB4 hb5 hB4.size
                          go_wp2
                          go_ret
                          exact ⟨by rw [Hres.out]; rfl, hB5⟩
                        · go_wp2_with (first
                            | (refine wpList_load_mid rfl 41 (.tmp 1) rfl w.heap.size 0 rfl (r.cells (.slice (some ⟨b, off, none⟩) n c)) _ HR4.out Tryz.underlying41 rfl (by rw [sizeRg, Hrl.out]) ?_)
                            | (refine wpList_load_mid rfl 39 (.tmp 4) rfl wr.heap.size 0 rfl (bytesV x) _ HX4.out Tryz.underlying39 rfl (by rw [sizeDg, Hxl.out]) ?_))
                          refine (Hin.out _).mono ?_
                          rintro e w5 ⟨rfl, hb5⟩
                          rw [hi]
                          have hB5 := Lib.hid (Below.then Hb4.out hb5 Hb4.out.size)
                          have Hst2 := Hnx.out
                          rw [Hany.out, hi, Hst.out] at Hst2
                          have Hst3 := Lib.hid Hst2
                          clear Hst2
                          go_wp2
                          go_roundw
                          case rel => exact ⟨_, hlt2, by go_num, Lib.hid Hst3.out.symm, hB5.out⟩
                          case measure => simp [intOf]; omega
                      · have Hres : Hid (oneE r = 9) := Lib.hid (by rw [Hone.out, ← Hst.out, Hnx.out, Hpv.out, hq]; rfl)
                        generalize r.ids[m + 1] = x at *
                        generalize r.ids[m] = y at *
                        go_wp2_with (first
                        | (refine wpList_load_mid rfl 39 (.tmp 60) rfl b (off + (m + 1) * 32) (by first | rfl | (simp)) (bytesV x) _ (by simpa using Hra.out) Tryz.underlying39 rfl (by rw [sizeDg, Hxl.out]) ?_)
                        | (refine wpList_alloc_row rfl 39 rfl z0 Hzi.out ?_)
                        | (refine wpList_store_mid rfl 39 (.tmp 4) (.tmp 61) rfl wr.heap.size 0 (bytesV x).toArray rfl rfl (there_bx (Bx.new wr z0 39) (by rw [Hzl.out, List.size_toArray, Hxl.out]; exact Nat.le_refl _)) (by rw [sizeDg, List.size_toArray, Hxl.out]) (by simpa using Hone1.out) ?_; generalize (wr.alloc (.cells z0 39)).setCells wr.heap.size 0 (bytesV x).toArray.toList = w6 at *))
                        (try simp only [Act.put])
                        have cQ := Lat.cells w6
                        refine wp_region_lat (by kernel_rfl) (by kernel_rfl) ?_
                        repeat (first | go_big_quiet_skip | (go_big_quiet_want; first | ((first | (refine quiet_load_row 39 (.tmp 69) rfl b (off + m * 32) rfl (bytesV y) _ (lat_range Hry.out lb6) Tryz.underlying39 rfl (by rw [sizeDg, Hyl.out]) ?_) | (refine quiet_load_row 39 (.tmp 4) rfl wr.heap.size 0 rfl (bytesV x) _ (lat_range HX.out lX) Tryz.underlying39 rfl (by rw [sizeDg, Hxl.out]) ?_)); simp only [Act.put, List.setIfInBounds_toArray, List.set_cons_zero, List.set_cons_succ]; go_big_quiet_on) | (go_big_quiet_op; first | go_big_quiet_on | go_big_quiet_call ((exact Calls.lat (Hcy.out _))))))
                        refine wpQuiet_nil ?_
                        rintro W4 ⟨⟨_, hb4⟩, rfl⟩
                        have hB4 := Below.then hBx hb4 hBx.size
                        clear cQ
                        go_wp2
                        go_ret
                        exact ⟨by rw [Hres.out]; rfl, hB4⟩
                  · obtain rfl : k = n := by omega
                    have hlt' : ¬ (k : Int) < (k : Int) := by omega
                    have hBr := Below.then hBa hbr hBa.size
                    have Hres : Hid (oneE r = 0) := Lib.hid (by rw [Hone.out, ← Hst.out, List.drop_eq_nil_of_le (by rw [Hn.out]; exact Nat.le_refl _)]; cases prevO r.ids k <;> rfl)
                    go_wp2
                    go_ret
                    exact ⟨by rw [Hres.out]; rfl, hBr⟩
      · have Hres : Hid (oneE r = 1) := Lib.hid (by unfold oneE; rw [E1.out, hl, hcz]; rfl)
        go_wp2
        go_ret
        exact ⟨by rw [Hres.out]; rfl, hBa⟩
end Go.Proofs.YtebgopdmeghmhaaGreat
namespace Go.Proofs.YtebgopdmeghmhaaGreat
open Go.RowKit

theorem infoRg : (Tryz.prog.info? 41).map (fun i => (i.zero, i.size)) = some (some (.agg ((⟨zeroD, zeroD, false, 0, zeroD, []⟩ : Rg).cells (.slice none 0 0)).toArray), 99) := by kernel_rfl
def prevR (l : List Rg) : Nat → Option Rg
  | 0 => none
  | m + 1 => l[m]?
def clashB (p : Option Rg) (r : Rg) : Bool := p.any (fun x => openB x.high || decide (0 < cmpD x.high r.low))
theorem rgsE_next {l : List Rg} {k : Nat} (hk : k < l.length) : rgsE (prevR l k) (l.drop k) = if oneE l[k] = 0 then (if clashB (prevR l k) l[k] then 9 else rgsE (prevR l (k + 1)) (l.drop (k + 1))) else oneE l[k] := by
  rw [List.drop_eq_getElem_cons hk]
  show (if _ then _ else _) = _
  rw [show prevR l (k + 1) = some l[k] from List.getElem?_eq_getElem hk]
  rfl
set_option maxRecDepth 100000 in
set_option maxHeartbeats 4000000 in
theorem rc_Check {S : Nat → Prop} (w : World) (v : Value) (l : List Rg) (h : RgsR S w v l) (hm : l.length ≤ 4611686018427387904) (hmi : ∀ r ∈ l, r.ids.length ≤ 1000000) :
    Calls Tryz.prog 26 #[v] w fun e w' => e = .returned (.int .i64 (checkR l)) ∧ Below w.heap.size w w' := by
  obtain ⟨o, c, rfl⟩ := h.slice
  obtain ⟨z1, hz1⟩ : ∃ z, ((⟨zeroD, zeroD, false, 0, zeroD, []⟩ : Rg).cells (.slice none 0 0)).toArray = z := ⟨_, rfl⟩
  have hzl : z1.size = 99 := by rw [← hz1]; rfl
  have Hzi : Hid ((Tryz.prog.info? 41).map (·.zero) = some (some (.agg z1))) := Lib.hid (by
    have := infoRg
    rw [hz1] at this
    obtain ⟨i, hi, hj⟩ := Option.map_eq_some_iff.1 this
    rw [hi]
    simp only [Option.map_some]
    rw [(Prod.mk.inj hj).1])
  have Hzl := Lib.hid hzl
  have HD := Lib.hid h
  have Hmi := Lib.hid hmi
  clear h hz1 hzl hmi
  obtain ⟨n, hln⟩ : ∃ n, l.length = n := ⟨_, rfl⟩
  have Hn := Lib.hid hln
  rw [hln] at HD hm ⊢
  clear hln
  go_enter Tryz.func26, Tryz.ntmps26
  by_cases hg : 1000 < n
  · have hg' : (1000 : Int) < (n : Int) := by omega
    have Hres : Hid (checkR l = 4) := Lib.hid (by unfold checkR; rw [if_pos (by rw [Hn.out]; exact hg)])
    go_wp2
    go_ret
    exact ⟨by rw [Hres.out]; rfl, Below.refl _ _⟩
  · have hg' : ¬ (1000 : Int) < (n : Int) := by omega
    have Hone : Hid (checkR l = rgsE none l) := Lib.hid (by unfold checkR; rw [if_neg (by rw [Hn.out]; exact hg)])
    go_wp2
    go_loopw [11] (fun i wr => ∃ k : Nat, k ≤ n ∧ i = .int .i64 k ∧ Hid (rgsE (prevR l k) (l.drop k) = rgsE none l) ∧ Below w.heap.size w wr) (fun i _ => n - (intOf i).toNat)
    case atStart => exact ⟨0, by omega, rfl, Lib.hid rfl, Below.refl _ _⟩
    case round =>
      obtain ⟨k, hk, rfl, Hst, hB⟩ := hrel
      by_cases hlt : k < n
      · have hltl : k < l.length := by rw [Hn.out]; exact hlt
        have hlt' : (k : Int) < (n : Int) := by omega
        have hDr := HD.out.below hB
        obtain ⟨b, off, c', vi, e', _, _, _, hb, hra, hd, hok⟩ := hDr.at hltl
        rw [Hn.out] at e'
        obtain ⟨rfl, rfl⟩ : o = some ⟨b, off, none⟩ ∧ c = c' := by simpa using e'
        have hvi : vi.oneCell' = true := by obtain ⟨⟨o, c, e, _⟩, _⟩ := hd; rw [e]; rfl
        have Hnx := Lib.hid (rgsE_next hltl)
        have Hlen := Lib.hid (Rg.len hok vi)
        have Hone1 := Lib.hid (Rg.one l[k] vi hvi)
        have Hra := Lib.hid hra
        have hb6 : Below wr.heap.size wr ((wr.alloc (.cells z1 41)).setCells wr.heap.size 0 (l[k].cells vi).toArray.toList) := below_setCells (Nat.le_refl _) _ _ _ (Below.one wr (.cells z1 41))
        have xd := (Bx.new wr z1 41).setAll (cx := (l[k].cells vi).toArray) (by rw [Hzl.out, List.size_toArray, Hlen.out])
        have HX : Hid (((wr.alloc (.cells z1 41)).setCells wr.heap.size 0 (l[k].cells vi).toArray.toList).rangeAt wr.heap.size 0 (l[k].cells vi)) := Lib.hid (by simpa using xd.range)
        have lX := xd.lt
        have Hd6 := Lib.hid (hd.below hb6)
        have HD6 := Lib.hid (hDr.below hb6)
        have Hb6 := Lib.hid (Below.then hB hb6 hB.size)
        have Hok := Lib.hid hok
        have Hml : Hid (l[k].ids.length ≤ 1000000) := Lib.hid (Hmi.out _ (List.getElem_mem hltl))
        have hsz6 := hb6.size
        clear hra hd hok e' hvi xd hb6 hDr
        generalize hx : l[k] = x at *
        go_wp2_with (first
          | (refine wpList_load_mid rfl 41 (.tmp 14) rfl b (off + k * 99) rfl (x.cells vi) _ Hra.out Tryz.underlying41 rfl (by rw [sizeRg, Hlen.out]) ?_)
          | (refine wpList_alloc_row rfl 41 rfl z1 Hzi.out ?_)
          | (refine wpList_store_mid rfl 41 (.tmp 4) (.tmp 15) rfl wr.heap.size 0 (x.cells vi).toArray rfl rfl (there_bx (Bx.new wr z1 41) (by rw [Hzl.out, List.size_toArray, Hlen.out]; exact Nat.le_refl _)) (by rw [sizeRg, List.size_toArray, Hlen.out]) (by simpa using Hone1.out) ?_; generalize (wr.alloc (.cells z1 41)).setCells wr.heap.size 0 (x.cells vi).toArray.toList = w6 at *)
          | (refine wpList_load_mid rfl 41 (.tmp 4) rfl wr.heap.size 0 rfl (x.cells vi) _ HX.out Tryz.underlying41 rfl (by rw [sizeRg, Hlen.out]) ?_))
        refine (rc_checkOne x vi Hok.out w6 Hd6.out Hml.out).mono ?_
        rintro e w7 ⟨rfl, hb7⟩
        have Hb7 := Lib.hid (Below.then Hb6.out hb7 Hb6.out.size)
        have HX7 := Lib.hid (rangeAt_below HX.out hb7 lX)
        have HD7 := Lib.hid (HD6.out.below hb7)
        have lX7 : wr.heap.size < w7.heap.size := Nat.lt_of_lt_of_le lX hb7.size
        clear Hb6 HX HD6 lX hb7 Hd6 Hra
        cases he : (oneE x != 0)
        · rcases Nat.eq_zero_or_pos k with rfl | hpos
          · have Hcl : Hid (clashB (prevR l 0) x = false) := Lib.hid rfl
            go_wp2_with fail
            have cQ := Lat.cells w7
            refine wp_region_lat (by kernel_rfl) (by kernel_rfl) ?_
            repeat (first | go_big_quiet_skip | (go_big_quiet_want; first | ((fail); simp only [Act.put, List.setIfInBounds_toArray, List.set_cons_zero, List.set_cons_succ]; go_big_quiet_on) | (go_big_quiet_op; first | go_big_quiet_on | go_big_quiet_call ((fail)))))
            refine wpQuiet_nil ?_
            rintro W8 ⟨⟨_, hb8⟩, rfl⟩
            have Hst2 : Hid (rgsE (prevR l (0 + 1)) (l.drop (0 + 1)) = rgsE none l) := Lib.hid (by
              have h := Hnx.out
              rw [if_pos (by simpa using he), Hcl.out, Hst.out] at h
              exact h.symm)
            have hb9 := Below.trans Hb7.out (hb8.mono Hb7.out.size)
            clear cQ
            go_wp2
            go_roundw
            case rel => exact ⟨0 + 1, by omega, by go_num, Hst2, hb9⟩
            case measure => simp [intOf]; omega
          · obtain ⟨m, rfl⟩ : ∃ m, k = m + 1 := ⟨k - 1, by omega⟩
            have hltm : m < l.length := by omega
            obtain ⟨b', off', c', vy, e', _, _, _, hb7, hry, _, hoky⟩ := HD7.out.at hltm
            rw [Hn.out] at e'
            obtain ⟨⟨rfl, rfl⟩, rfl⟩ : (b = b' ∧ off = off') ∧ c = c' := by simpa using e'
            have hpv : prevR l (m + 1) = some l[m] := List.getElem?_eq_getElem hltm
            have hcl : clashB (prevR l (m + 1)) x = (openB l[m].high || decide (0 < cmpD l[m].high x.low)) := by rw [hpv]; rfl
            have Hclq := Lib.hid hcl
            have Hry := Lib.hid hry
            have Hryh := Lib.hid (Rg.high_at hoky hry)
            have Hlx := Lib.hid (Rg.low_at Hok.out HX7.out)
            have Hylen := Lib.hid (Rg.len hoky vy)
            have Hyh : Hid ((bytesV l[m].high).length = 32) := Lib.hid (by rw [bytesV_len, hoky.2.1])
            have Hxl : Hid ((bytesV x.low).length = 32) := Lib.hid (by rw [bytesV_len, Hok.out.1])
            have Hop := Lib.hid (fun W => rc_open l[m] vy hoky W)
            have Hcm := Lib.hid (fun W => sha_compare l[m].high x.low hoky.2.1 Hok.out.1 W)
            clear hpv hcl hry hoky e' hpos
            generalize l[m] = y at *
            cases hoy : openB y.high
            · rw [hoy] at Hop
              cases hc : decide (0 < cmpD y.high x.low)
              · have Hcl : Hid (clashB (prevR l (m + 1)) x = false) := Lib.hid (by rw [Hclq.out, hoy, hc]; rfl)
                go_wp2_with fail
                have cQ := Lat.cells w7
                refine wp_region_lat (by kernel_rfl) (by kernel_rfl) ?_
                repeat (first | go_big_quiet_skip | (go_big_quiet_want; first | ((first | (refine quiet_load_row 41 (.tmp 27) rfl b (off + m * 99) rfl (y.cells vy) _ (lat_range Hry.out hb7) Tryz.underlying41 rfl (by rw [sizeRg, Hylen.out]) ?_) | (refine quiet_load_row 39 (.tmp 35) rfl b (off + m * 99 + 32) rfl (bytesV y.high) _ (lat_range Hryh.out hb7) Tryz.underlying39 rfl (by rw [sizeDg, Hyh.out]) ?_) | (refine quiet_load_row 39 (.tmp 37) rfl wr.heap.size 0 rfl (bytesV x.low) _ (lat_range Hlx.out lX7) Tryz.underlying39 rfl (by rw [sizeDg, Hxl.out]) ?_)); simp only [Act.put, List.setIfInBounds_toArray, List.set_cons_zero, List.set_cons_succ]; go_big_quiet_on) | (go_big_quiet_op; first | go_big_quiet_on | go_big_quiet_call ((first | exact Calls.lat (Hop.out _) | exact Calls.lat (Hcm.out _))))))
                refine wpQuiet_nil ?_
                rintro W8 ⟨⟨_, hb8⟩, rfl⟩
                have Hst2 : Hid (rgsE (prevR l (m + 1 + 1)) (l.drop (m + 1 + 1)) = rgsE none l) := Lib.hid (by
                  have h := Hnx.out
                  rw [if_pos (by simpa using he), Hcl.out, Hst.out] at h
                  exact h.symm)
                have hb9 := Below.trans Hb7.out (hb8.mono Hb7.out.size)
                clear cQ
                go_wp2
                go_roundw
                case rel => exact ⟨m + 1 + 1, by omega, by go_num, Hst2, hb9⟩
                case measure => simp [intOf]; omega
              · have Hcl : Hid (clashB (prevR l (m + 1)) x = true) := Lib.hid (by rw [Hclq.out, hoy, hc]; rfl)
                go_wp2_with fail
                have cQ := Lat.cells w7
                refine wp_region_lat (by kernel_rfl) (by kernel_rfl) ?_
                repeat (first | go_big_quiet_skip | (go_big_quiet_want; first | ((first | (refine quiet_load_row 41 (.tmp 27) rfl b (off + m * 99) rfl (y.cells vy) _ (lat_range Hry.out hb7) Tryz.underlying41 rfl (by rw [sizeRg, Hylen.out]) ?_) | (refine quiet_load_row 39 (.tmp 35) rfl b (off + m * 99 + 32) rfl (bytesV y.high) _ (lat_range Hryh.out hb7) Tryz.underlying39 rfl (by rw [sizeDg, Hyh.out]) ?_) | (refine quiet_load_row 39 (.tmp 37) rfl wr.heap.size 0 rfl (bytesV x.low) _ (lat_range Hlx.out lX7) Tryz.underlying39 rfl (by rw [sizeDg, Hxl.out]) ?_)); simp only [Act.put, List.setIfInBounds_toArray, List.set_cons_zero, List.set_cons_succ]; go_big_quiet_on) | (go_big_quiet_op; first | go_big_quiet_on | go_big_quiet_call ((first | exact Calls.lat (Hop.out _) | exact Calls.lat (Hcm.out _))))))
                refine wpQuiet_nil ?_
                rintro W8 ⟨⟨_, hb8⟩, rfl⟩
                have Hres : Hid (checkR l = 9) := Lib.hid (by
                  have h := Hnx.out
                  rw [if_pos (by simpa using he), Hcl.out, if_pos rfl] at h
                  rw [Hone.out, ← Hst.out]
                  exact h)
                have hB9 := Below.then Hb7.out hb8 Hb7.out.size
                clear cQ
                go_wp2
                go_ret
                exact ⟨by rw [Hres.out]; rfl, hB9⟩
            · rw [hoy] at Hop
              have Hcl : Hid (clashB (prevR l (m + 1)) x = true) := Lib.hid (by rw [Hclq.out, hoy]; rfl)
              go_wp2_with fail
              have cQ := Lat.cells w7
              refine wp_region_lat (by kernel_rfl) (by kernel_rfl) ?_
              repeat (first | go_big_quiet_skip | (go_big_quiet_want; first | ((first | (refine quiet_load_row 41 (.tmp 27) rfl b (off + m * 99) rfl (y.cells vy) _ (lat_range Hry.out hb7) Tryz.underlying41 rfl (by rw [sizeRg, Hylen.out]) ?_) | (refine quiet_load_row 39 (.tmp 35) rfl b (off + m * 99 + 32) rfl (bytesV y.high) _ (lat_range Hryh.out hb7) Tryz.underlying39 rfl (by rw [sizeDg, Hyh.out]) ?_) | (refine quiet_load_row 39 (.tmp 37) rfl wr.heap.size 0 rfl (bytesV x.low) _ (lat_range Hlx.out lX7) Tryz.underlying39 rfl (by rw [sizeDg, Hxl.out]) ?_)); simp only [Act.put, List.setIfInBounds_toArray, List.set_cons_zero, List.set_cons_succ]; go_big_quiet_on) | (go_big_quiet_op; first | go_big_quiet_on | go_big_quiet_call ((first | exact Calls.lat (Hop.out _) | exact Calls.lat (Hcm.out _))))))
              refine wpQuiet_nil ?_
              rintro W8 ⟨⟨_, hb8⟩, rfl⟩
              have Hres : Hid (checkR l = 9) := Lib.hid (by
                have h := Hnx.out
                rw [if_pos (by simpa using he), Hcl.out, if_pos rfl] at h
                rw [Hone.out, ← Hst.out]
                exact h)
              have hB9 := Below.then Hb7.out hb8 Hb7.out.size
              clear cQ
              go_wp2
              go_ret
              exact ⟨by rw [Hres.out]; rfl, hB9⟩
        · have Hres : Hid (checkR l = oneE x) := Lib.hid (by rw [Hone.out, ← Hst.out, Hnx.out, if_neg (by simpa using he)])
          go_wp2
          go_ret
          exact ⟨by rw [Hres.out]; rfl, Hb7.out⟩
      · obtain rfl : k = n := by omega
        have hlt' : ¬ (k : Int) < (k : Int) := by omega
        have Hres : Hid (checkR l = 0) := Lib.hid (by rw [Hone.out, ← Hst.out, List.drop_eq_nil_of_le (by rw [Hn.out]; exact Nat.le_refl _)]; cases prevR l k <;> rfl)
        go_wp2
        go_ret
        exact ⟨by rw [Hres.out]; rfl, hB⟩
end Go.Proofs.YtebgopdmeghmhaaGreat
namespace Go.Proofs.YtebgopdmeghmhaaGreat
open Go.RowKit

theorem placesRg : ∃ fs, Tryz.prog.underlying 41 = some (.struct fs) ∧ (fs.toList.mapM fun f => (Tryz.prog.info? f.type).map fun i => (f.offset, i.size)) = some [(0, 32), (32, 32), (64, 1), (65, 1), (66, 32), (98, 1)] := ⟨_, Tryz.underlying41, by kernel_rfl⟩
def Rg.zero : Rg := ⟨zeroD, zeroD, false, 0, zeroD, []⟩
section
variable {a b p : List UInt8} {vi : Value} {c : Int}
theorem rg_fill_listed (ha : a.length = 32) (hb : b.length = 32) (hv : vi.cells = #[vi]) :
    Instr.fill (([(0, 32), (32, 32), (64, 1), (65, 1), (66, 32), (98, 1)] : List (Nat × Nat)).toArray[·]?) (Rg.zero.cells (.slice none 0 0)).toArray [(0, dgV a), (1, dgV b), (2, .bool true), (5, vi)] = some ((⟨a, b, true, 0, zeroD, []⟩ : Rg).cells vi).toArray := by
  have hav : (bytesV a).length = 32 := by rw [bytesV_len, ha]
  have hbv : (bytesV b).length = 32 := by rw [bytesV_len, hb]
  have hz : (bytesV zeroD).length = 32 := by rw [bytesV_len]; rfl
  generalize hzz : bytesV zeroD = z at hz
  have e0 : Rg.zero.cells (.slice none 0 0) = [] ++ z ++ (z ++ (.bool false :: .int .i64 0 :: (z ++ [Value.slice none 0 0]))) := by unfold Rg.zero Rg.cells; rw [hzz]; rfl
  have e1 : [] ++ bytesV a ++ (z ++ (.bool false :: .int .i64 0 :: (z ++ [Value.slice none 0 0]))) = bytesV a ++ z ++ (.bool false :: .int .i64 0 :: (z ++ [Value.slice none 0 0])) := by simp
  have e2 : bytesV a ++ bytesV b ++ (.bool false :: .int .i64 0 :: (z ++ [Value.slice none 0 0])) = (bytesV a ++ bytesV b) ++ [Value.bool false] ++ (.int .i64 0 :: (z ++ [Value.slice none 0 0])) := by simp
  have e3 : (bytesV a ++ bytesV b) ++ [Value.bool true] ++ (.int .i64 0 :: (z ++ [Value.slice none 0 0])) = (bytesV a ++ bytesV b ++ [Value.bool true] ++ [Value.int .i64 0] ++ z) ++ [Value.slice none 0 0] ++ [] := by simp
  rw [e0, fill_step [] z (bytesV a) _ (by rw [hz]; rfl) rfl (by rw [hz, hav]), e1,
    fill_step (bytesV a) z (bytesV b) _ (by rw [hz, hav]; rfl) rfl (by rw [hz, hbv]), e2,
    fill_step (bytesV a ++ bytesV b) [Value.bool false] [Value.bool true] _ (by rw [List.length_append, hav, hbv]; rfl) rfl rfl, e3,
    fill_step (bytesV a ++ bytesV b ++ [Value.bool true] ++ [Value.int .i64 0] ++ z) [Value.slice none 0 0] [vi] _ (by simp only [List.length_append, hav, hbv, hz]; rfl) (by rw [hv]) rfl]
  rw [Instr.fill]
  simp [Rg.cells, hzz]
theorem rg_fill_marked (ha : a.length = 32) (hb : b.length = 32) (hp : p.length = 32) :
    Instr.fill (([(0, 32), (32, 32), (64, 1), (65, 1), (66, 32), (98, 1)] : List (Nat × Nat)).toArray[·]?) (Rg.zero.cells (.slice none 0 0)).toArray [(0, dgV a), (1, dgV b), (3, .int .i64 c), (4, dgV p)] = some ((⟨a, b, false, c, p, []⟩ : Rg).cells (.slice none 0 0)).toArray := by
  have hav : (bytesV a).length = 32 := by rw [bytesV_len, ha]
  have hbv : (bytesV b).length = 32 := by rw [bytesV_len, hb]
  have hpv : (bytesV p).length = 32 := by rw [bytesV_len, hp]
  have hz : (bytesV zeroD).length = 32 := by rw [bytesV_len]; rfl
  generalize hzz : bytesV zeroD = z at hz
  have e0 : Rg.zero.cells (.slice none 0 0) = [] ++ z ++ (z ++ (.bool false :: .int .i64 0 :: (z ++ [Value.slice none 0 0]))) := by unfold Rg.zero Rg.cells; rw [hzz]; rfl
  have e1 : [] ++ bytesV a ++ (z ++ (.bool false :: .int .i64 0 :: (z ++ [Value.slice none 0 0]))) = bytesV a ++ z ++ (.bool false :: .int .i64 0 :: (z ++ [Value.slice none 0 0])) := by simp
  have e2 : bytesV a ++ bytesV b ++ (.bool false :: .int .i64 0 :: (z ++ [Value.slice none 0 0])) = (bytesV a ++ bytesV b ++ [Value.bool false]) ++ [Value.int .i64 0] ++ (z ++ [Value.slice none 0 0]) := by simp
  have e3 : (bytesV a ++ bytesV b ++ [Value.bool false]) ++ [Value.int .i64 c] ++ (z ++ [Value.slice none 0 0]) = (bytesV a ++ bytesV b ++ [Value.bool false] ++ [Value.int .i64 c]) ++ z ++ [Value.slice none 0 0] := by simp
  rw [e0, fill_step [] z (bytesV a) _ (by rw [hz]; rfl) rfl (by rw [hz, hav]), e1,
    fill_step (bytesV a) z (bytesV b) _ (by rw [hz, hav]; rfl) rfl (by rw [hz, hbv]), e2,
    fill_step (bytesV a ++ bytesV b ++ [Value.bool false]) [Value.int .i64 0] [Value.int .i64 c] _ (by simp only [List.length_append, hav, hbv]; rfl) rfl rfl, e3,
    fill_step (bytesV a ++ bytesV b ++ [Value.bool false] ++ [Value.int .i64 c]) z (bytesV p) _ (by simp only [List.length_append, hav, hbv, hz]; rfl) rfl (by rw [hz, hpv])]
  rw [Instr.fill]
  simp [Rg.cells]
theorem built_rg {fs : List (Nat × Value)} {r : Array Value} (h : Instr.fill (([(0, 32), (32, 32), (64, 1), (65, 1), (66, 32), (98, 1)] : List (Nat × Nat)).toArray[·]?) (Rg.zero.cells (.slice none 0 0)).toArray fs = some r) (w : World) :
    (Instr.build 41 fs.toArray).run Tryz.prog w = .ok (.agg r) w := by
  refine run_build w _ _ _ ?_
  have hz := infoRg
  unfold Program.built
  cases hi : Tryz.prog.info? 41 with
  | none => rw [hi] at hz; cases hz
  | some it =>
    rw [hi] at hz
    have hz' : it.zero = some (.agg (Rg.zero.cells (.slice none 0 0)).toArray) := (Prod.mk.inj (Option.some.inj hz)).1
    obtain ⟨ts, hu, hp⟩ := placesRg
    simp only [hu, hz', hp]
    show Instr.fill _ (Rg.zero.cells (.slice none 0 0)).toArray _ = _
    simpa using h
end
end Go.Proofs.YtebgopdmeghmhaaGreat
namespace Go.Proofs.YtebgopdmeghmhaaGreat
open Go.RowKit

theorem run_build_op {a : Act} {o : Oper} {w : World} (xs : Array (Nat × Operand)) (ho : o.op = .build 41 xs) {fs : List (Nat × Value)} {r : Array Value} (hfs : (xs.map fun q => (q.1, a.eval q.2)) = fs.toArray)
    (h : Instr.fill (([(0, 32), (32, 32), (64, 1), (65, 1), (66, 32), (98, 1)] : List (Nat × Nat)).toArray[·]?) (Rg.zero.cells (.slice none 0 0)).toArray fs = some r) : (execOp a.eval o).run Tryz.prog w = .ok (.value (.agg r)) w := by
  unfold execOp
  rw [ho]
  simp only [hfs, Sem.run_bind, built_rg h, Result.andThen_ok, Sem.run_pure]
set_option maxRecDepth 100000 in
set_option maxHeartbeats 2000000 in
theorem rf_listed (w : World) (x y : List UInt8) (hx : x.length = 32) (hy : y.length = 32) (o : Option Addr) (n c : Nat) :
    Calls Tryz.prog 36 #[dgV x, dgV y, .slice o n c] w fun e w' => e = .returned ((listR x y []).V (.slice o n c)) ∧ Below w.heap.size w w' := by
  obtain ⟨z1, hz1⟩ : ∃ z, ((⟨zeroD, zeroD, false, 0, zeroD, []⟩ : Rg).cells (.slice none 0 0)).toArray = z := ⟨_, rfl⟩
  have hzl : z1.size = 99 := by rw [← hz1]; rfl
  have Hzi : Hid ((Tryz.prog.info? 41).map (·.zero) = some (some (.agg z1))) := Lib.hid (by
    have := infoRg
    rw [hz1] at this
    obtain ⟨i, hi, hj⟩ := Option.map_eq_some_iff.1 this
    rw [hi]
    simp only [Option.map_some]
    rw [(Prod.mk.inj hj).1])
  have Hzl := Lib.hid hzl
  have hok : (listR x y []).ok := ⟨hx, hy, (rfl : zeroD.length = 32), fun _ h => by cases h⟩
  have Hlen := Lib.hid (Rg.len hok (.slice o n c))
  have Hone := Lib.hid (Rg.one (listR x y []) (.slice o n c) rfl)
  have Hfill := Lib.hid (rg_fill_listed hx hy (vi := .slice o n c) rfl)
  have Hxl : Hid ((bytesV x).length = 32) := Lib.hid (by rw [bytesV_len, hx])
  have Hyl : Hid ((bytesV y).length = 32) := Lib.hid (by rw [bytesV_len, hy])
  have xx := ((Bx.new w (bytesV x).toArray 39).alloc (.cells (bytesV y).toArray 39)).alloc (.cells z1 41)
  have xy := (Bx.newAt (w.alloc (.cells (bytesV x).toArray 39)) (bytesV y).toArray 39 (w.heap.size + 1) (by simp)).alloc (.cells z1 41)
  have xz := Bx.newAt ((w.alloc (.cells (bytesV x).toArray 39)).alloc (.cells (bytesV y).toArray 39)) z1 41 (w.heap.size + 2) (by simp)
  have hB3 : Below w.heap.size w (((w.alloc (.cells (bytesV x).toArray 39)).alloc (.cells (bytesV y).toArray 39)).alloc (.cells z1 41)) := ((Below.one w _).alloc (by simp) _).alloc (by simp; omega) _
  have HXx : Hid ((((w.alloc (.cells (bytesV x).toArray 39)).alloc (.cells (bytesV y).toArray 39)).alloc (.cells z1 41)).rangeAt w.heap.size 0 (bytesV x)) := Lib.hid (by simpa using xx.range)
  have HXy : Hid ((((w.alloc (.cells (bytesV x).toArray 39)).alloc (.cells (bytesV y).toArray 39)).alloc (.cells z1 41)).rangeAt (w.heap.size + 1) 0 (bytesV y)) := Lib.hid (by simpa using xy.range)
  have HXz := Lib.hid xz
  have hs2 : ((w.alloc (.cells (bytesV x).toArray 39)).alloc (.cells (bytesV y).toArray 39)).heap.size = w.heap.size + 2 := by simp
  have Hs2 := Lib.hid hs2
  obtain ⟨cx, hcx⟩ : ∃ c, (bytesV x).toArray = c := ⟨_, rfl⟩
  obtain ⟨cy, hcy⟩ : ∃ c, (bytesV y).toArray = c := ⟨_, rfl⟩
  have Hcx : Hid (dgV x = .agg cx) := Lib.hid (by unfold dgV; rw [hcx])
  have Hcy : Hid (dgV y = .agg cy) := Lib.hid (by unfold dgV; rw [hcy])
  rw [Hcx.out, Hcy.out]
  rw [hcx, hcy] at hB3 HXx HXy HXz Hs2
  clear xx xy xz hcx hcy hz1 hzl hs2 hok hx hy
  go_enter Tryz.func36, Tryz.ntmps36
  go_wp2_with (first
    | (refine wpList_alloc_row rfl 41 rfl z1 Hzi.out ?_; rw [Hs2.out]; generalize ((w.alloc (.cells cx 39)).alloc (.cells cy 39)).alloc (.cells z1 41) = w3 at *)
    | (refine wpList_load_mid rfl 39 (.tmp 3) rfl w.heap.size 0 rfl (bytesV x) _ HXx.out Tryz.underlying39 rfl (by rw [sizeDg, Hxl.out]) ?_)
    | (refine wpList_load_mid rfl 39 (.tmp 4) rfl (w.heap.size + 1) 0 rfl (bytesV y) _ HXy.out Tryz.underlying39 rfl (by rw [sizeDg, Hyl.out]) ?_)
    | (refine wpList_value rfl _ (run_build_op _ rfl (fs := [(0, dgV x), (1, dgV y), (2, .bool true), (5, .slice o n c)]) (by simp [Act.eval, dgV]) Hfill.out) ?_)
    | (refine wpList_store_mid rfl 41 (.tmp 6) (.tmp 10) rfl (w.heap.size + 2) 0 ((listR x y []).cells (.slice o n c)).toArray rfl rfl (there_bx HXz.out (by rw [Hzl.out, List.size_toArray, Hlen.out]; exact Nat.le_refl _)) (by rw [sizeRg, List.size_toArray, Hlen.out]) (by simpa using Hone.out) ?_))
  have xd2 := HXz.out.setAll (cx := ((listR x y []).cells (.slice o n c)).toArray) (by rw [Hzl.out, List.size_toArray, Hlen.out])
  refine bodyPost_ret (v := (listR x y []).V (.slice o n c)) (results_cell_row (d := .struct (Tryz.prog.fieldsOf 41)) Tryz.results36 _ _ (w.heap.size + 2) _ _ _ rfl xd2 (by kernel_rfl) rfl (by rw [sizeRg, List.size_toArray, Hlen.out])) rfl ?_
  exact ⟨rfl, below_setCells (by omega) _ _ _ hB3⟩
end Go.Proofs.YtebgopdmeghmhaaGreat
