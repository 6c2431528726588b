/- quiltref47.Subtract. -/
import Derived.Test.YtebgopdmeghmhaaGreatIbSub
import Derived.Test.YtebgopdmeghmhaaGreatRfIns
import Derived.Test.YtebgopdmeghmhaaGreatLAw
namespace Go.Proofs.YtebgopdmeghmhaaGreat
open Go.RowKit

theorem subT_ref {a b : List Cl} (ha : checkT a = 0) (hb : checkT b = 0) (hl : a.length = b.length) : subT a b = if checkT (subL a b) = 0 then (subL a b, 0) else ([], 4) := by
  have hal := (checkT_len ha).1
  unfold subT
  rw [ha, hb, if_pos rfl, if_pos rfl, if_pos hl]
  unfold checkT
  rw [show (subL a b).length = a.length by simp [subL, hl], if_pos hal]
  cases (subL a b).any (fun c => !countsB c.n) <;> rfl
set_option maxRecDepth 100000 in
set_option maxHeartbeats 2000000 in
theorem ref47_Subtract {S : Nat → Prop} (w : World) (va vb : Value) (a b : List Cl) (ha : TabR S w va a) (hb : TabR S w vb b) (hma : a.length ≤ 1000000) (hmb : b.length ≤ 1000000) :
    Calls Tryz.prog 23 #[va, vb] w (TabE w (subT a b)) := by
  obtain ⟨oa, ca, rfl⟩ : ∃ o c, va = .slice o a.length c := by obtain ⟨⟨o, c, e, _⟩, _⟩ := ha; rw [tabC_size] at e; exact ⟨o, c, e⟩
  obtain ⟨ob, cb, rfl⟩ : ∃ o c, vb = .slice o b.length c := by obtain ⟨⟨o, c, e, _⟩, _⟩ := hb; rw [tabC_size] at e; exact ⟨o, c, e⟩
  obtain ⟨ic, hic, hz, hs, hby⟩ := info_parts infoCl
  rw [zeroCl'] at hz
  have Hz := Lib.hid hz
  have Hic := Lib.hid (And.intro hic (And.intro hs hby))
  have Ha := Lib.hid ha
  have Hb := Lib.hid hb
  clear hz ha hb hic hs hby
  go_enter Tryz.func23, Tryz.ntmps23
  go_wp2_with fail
  refine (ref47_Check _ _ a Ha.out hma).mono ?_
  rintro e w1 ⟨rfl, rfl⟩
  rcases checkT_cases a with hca | hca
  · rw [hca]
    go_wp2_with fail
    refine (ref47_Check _ _ b Hb.out hmb).mono ?_
    rintro e w2 ⟨rfl, rfl⟩
    rcases checkT_cases b with hcb | hcb
    · rw [hcb]
      by_cases hlen : a.length = b.length
      · have hlen' : ((a.length : Int) != (b.length : Int)) = false := by rw [bne_eq_false_iff_eq]; omega
        have Hres := Lib.hid (subT_ref hca hcb hlen)
        have hal := allowedB_iff.1 (checkT_len hca).1
        have hpos : 0 < a.length := by omega
        have Hlen := Lib.hid hlen
        obtain ⟨na, hna⟩ : ∃ n, a.length = n := ⟨_, rfl⟩
        rw [← hlen, hna] at hlen' ⊢
        rw [hna] at hma hpos
        have Hna := Lib.hid hna
        have ho0 := ownsRow_empty w w.heap.size w.heap.size 67 65 rfl (Nat.le_refl _)
        have hB0 := Below.one w (.cells #[] 67)
        clear hca hcb hlen hal hna
        go_wp2
        go_loopw [8, 9] (fun v i wr => ∃ k : Nat, k ≤ na ∧ i = .int .i64 k ∧ wr.ownsRow w.heap.size 67 65 v k (tabC ((subL a b).take k)).flatten ∧ Below w.heap.size w wr) (fun _ i _ => na - (intOf i).toNat)
        case atStart => exact ⟨0, by omega, rfl, ho0, hB0⟩
        case round =>
          clear ho0 hB0
          obtain ⟨k, hk, rfl, ho, hB⟩ := hrel
          obtain ⟨oo, co, rfl, _, _, _⟩ := ownsRow_at ho
          by_cases hlt : k < na
          · have hlt' : (k : Int) < (na : Int) := by omega
            have hka : k < a.length := by rw [Hna.out]; exact hlt
            have hkb : k < b.length := by rw [← Hlen.out]; exact hka
            obtain ⟨ba, fa, ca', ea, _, _, _, hba, hra⟩ := Ha.out.at hka
            obtain ⟨bb, fb, cb', eb, _, _, _, hbb, hrb⟩ := Hb.out.at hkb
            obtain ⟨rfl, rfl⟩ : oa = some ⟨ba, fa, none⟩ ∧ ca = ca' := by simpa using ea
            obtain ⟨rfl, rfl⟩ : ob = some ⟨bb, fb, none⟩ ∧ cb = cb' := by simpa using eb
            have hxo : a[k].ok := Ha.out.2 _ (List.getElem_mem hka)
            have hyo : b[k].ok := Hb.out.2 _ (List.getElem_mem hkb)
            have htk : (subL a b).take (k + 1) = (subL a b).take k ++ [subC a[k] b[k]] := by
              have hl : k < (subL a b).length := by simp [subL]; omega
              rw [List.take_succ_eq_append_getElem hl]
              simp [subL]
            generalize a[k] = x at *
            generalize b[k] = y at *
            have hra' := rangeAt_below hra hB hba
            have hrb' := rangeAt_below hrb hB hbb
            have lba : ba < wr.heap.size := Nat.lt_of_lt_of_le hba hB.size
            have lbb : bb < wr.heap.size := Nat.lt_of_lt_of_le hbb hB.size
            have cX := Cl.count_at hra'
            have cY := Cl.count_at hrb'
            have HxK := Lib.hid (Cl.keys_at hxo hra')
            have HxS := Lib.hid (Cl.sums_at hxo hra')
            have HyK := Lib.hid (Cl.keys_at hyo hrb')
            have HyS := Lib.hid (Cl.sums_at hyo hrb')
            have HxKl : Hid ((bytesV x.k).length = 32) := Lib.hid (by rw [bytesV_len, hxo.1])
            have HxSl : Hid ((bytesV x.s).length = 32) := Lib.hid (by rw [bytesV_len, hxo.2])
            have HyKl : Hid ((bytesV y.k).length = 32) := Lib.hid (by rw [bytesV_len, hyo.1])
            have HySl : Hid ((bytesV y.s).length = 32) := Lib.hid (by rw [bytesV_len, hyo.2])
            have HX1 := Lib.hid (ref02_xor x.k y.k hxo.1 hyo.1)
            have HX2 := Lib.hid (ref02_xor x.s y.s hxo.2 hyo.2)
            have Hbd := Lib.hid (run_buildCl (wrap64 (x.n - y.n)) (xorD x.k y.k) (xorD x.s y.s) (xorD_len hxo.1 hyo.1) (xorD_len hxo.2 hyo.2))
            have Hcok : Hid (Cl.ok ⟨wrap64 (x.n - y.n), xorD x.k y.k, xorD x.s y.s⟩) := Lib.hid (subC_ok hxo hyo)
            have Hcl : Hid ((Cl.cells ⟨wrap64 (x.n - y.n), xorD x.k y.k, xorD x.s y.s⟩).length = 65) := Lib.hid (Cl.len Hcok.out)
            have Ho := Lib.hid ho
            have Htk := Lib.hid htk
            have cQ := Lat.cells wr
            clear hra hrb hra' hrb' hxo hyo ea eb ho hba hbb htk
            go_wp2
            refine wp_region_lz 36 2 #[true, true, true, true, true, true, true, true, true, true, true, true, true, true, true, true, true, true, true, true, true, true, true, true, true, true, true, true, true, true, true, true, true, true, true, true, false, false] (fun i => if i = 22 then some (annK (dgV (xorD x.k y.k))) else if i = 33 then some (annK (dgV (xorD x.s y.s))) else if i = 34 then some (annK (Cl.V ⟨wrap64 (x.n - y.n), xorD x.k y.k, xorD x.s y.s⟩)) else if i = 35 then some ⟨fun r => .slice (some ⟨r.lo, 0, none⟩) 1 1, fun r w => Bx w r.lo (Cl.cells ⟨wrap64 (x.n - y.n), xorD x.k y.k, xorD x.s y.s⟩).toArray 67⟩ else none) (by kernel_rfl) (by rfl) (by rfl) (by kernel_rfl) ?_
            simp only [List.take_succ_cons, List.take_zero]
            refine LW.block 22 22 (by rfl) (by kernel_rfl) (by kernel_rfl) ?_
            simp only [List.take_succ_cons, List.take_zero, List.drop_succ_cons, List.drop_zero]
            repeat (first | go_big_quiet_skip | (go_big_quiet_want; first | ((first | (refine quiet_load_row 39 (.tmp 50) rfl ba (fa + k * 65 + 1) (by first | rfl | (simp)) (bytesV x.k) _ (lat_range HxK.out lba) Tryz.underlying39 rfl (by rw [sizeDg, HxKl.out]) ?_) | (refine quiet_load_row 39 (.tmp 55) rfl bb (fb + k * 65 + 1) (by first | rfl | (simp)) (bytesV y.k) _ (lat_range HyK.out lbb) Tryz.underlying39 rfl (by rw [sizeDg, HyKl.out]) ?_)); simp only [Act.put, List.setIfInBounds_toArray, List.set_cons_zero, List.set_cons_succ]; go_big_quiet_on) | (go_big_quiet_op; go_big_quiet_on)))
            refine wpQuiet_nil ?_
            refine LW.lzy _ (by rfl) (by rfl) ?_ ?_
            · intro yL _
              unfold lzAt
              go_simp
              exact lz_constB (HX1.out _)
            intro _
            simp only [Act.put, List.setIfInBounds_toArray, List.set_cons_zero, List.set_cons_succ]
            (try simp only [annK])
            refine LW.block 10 33 (by rfl) (by kernel_rfl) (by kernel_rfl) ?_
            simp only [List.take_succ_cons, List.take_zero, List.drop_succ_cons, List.drop_zero]
            repeat (first | go_big_quiet_skip | (go_big_quiet_want; first | ((first | (refine quiet_load_row 39 (.tmp 61) rfl ba (fa + k * 65 + 33) (by first | rfl | (simp)) (bytesV x.s) _ (lat_range HxS.out lba) Tryz.underlying39 rfl (by rw [sizeDg, HxSl.out]) ?_) | (refine quiet_load_row 39 (.tmp 66) rfl bb (fb + k * 65 + 33) (by first | rfl | (simp)) (bytesV y.s) _ (lat_range HyS.out lbb) Tryz.underlying39 rfl (by rw [sizeDg, HySl.out]) ?_)); simp only [Act.put, List.setIfInBounds_toArray, List.set_cons_zero, List.set_cons_succ]; go_big_quiet_on) | (go_big_quiet_op; go_big_quiet_on)))
            refine wpQuiet_nil ?_
            refine LW.lzy _ (by rfl) (by rfl) ?_ ?_
            · intro yL _
              unfold lzAt
              go_simp
              exact lz_constB (HX2.out _)
            intro _
            simp only [Act.put, List.setIfInBounds_toArray, List.set_cons_zero, List.set_cons_succ]
            (try simp only [annK])
            refine LW.lzy _ (by rfl) (by rfl) ?_ ?_
            · intro yL _
              exact lz_value (exec_build 67 _ rfl #[(0, .int .i64 (wrap64 (x.n - y.n))), (1, dgV (xorD x.k y.k)), (2, dgV (xorD x.s y.s))] (by kernel_rfl) (Hbd.out _))
            intro _
            simp only [Act.put, List.setIfInBounds_toArray, List.set_cons_zero, List.set_cons_succ]
            (try simp only [annK])
            refine LW.lzy _ (by rfl) (by rfl) ?_ ?_
            · intro y' _
              exact lz_build1 24 (.tmp 69) rfl 67 ic Cl.zero.cells 65 Tryz.underlying24 Hic.out.1 Hz.out Hic.out.2.1 (Cl.len Cl.zero_ok) (by decide) (Cl.cells ⟨wrap64 (x.n - y.n), xorD x.k y.k, xorD x.s y.s⟩) Hcl.out rfl
            intro r35
            simp only [Act.put, List.setIfInBounds_toArray, List.set_cons_zero, List.set_cons_succ]
            refine LW.done ?_
            intro W' hG
            have hbx : Bx W' r35.lo (Cl.cells ⟨wrap64 (x.n - y.n), xorD x.k y.k, xorD x.s y.s⟩).toArray 67 := hG.get 35 rfl rfl
            have ho2 := ownsRow_belowAll Ho.out hG.below
            have hB2 := Below.then hB hG.below hB.size
            have hBz := hB2.size
            refine wpAny_ready (rs := [36]) (by kernel_rfl) (by simp) ?_
            refine AllReady.cons rfl (fun K hK => ?_) AllReady.nil
            refine wp_app (S := (· = r35.lo)) (.tmp 35) (.tmp 70) 24 rfl w.heap.size 67 ic (.agg Cl.zero.cells.toArray) 65 72 Tryz.underlying24 Hic.out.1 Hz.out Hic.out.2.1 Hic.out.2.2 (Cl.len Cl.zero_ok) (by decide) (.slice oo k co) k (tabC ((subL a b).take k)).flatten rfl ho2 (some ⟨r35.lo, 0, none⟩) 1 1 (Cl.cells ⟨wrap64 (x.n - y.n), xorD x.k y.k, xorD x.s y.s⟩) rfl (by simp) (by rw [Hcl.out]) (by have := RowAt.bx hbx; simpa using this) (by have := Cl.one ⟨wrap64 (x.n - y.n), xorD x.k y.k, xorD x.s y.s⟩; simpa using this) (by unfold maxLen; omega) (by omega) hBz ?_
            intro v4 w4 ho4 hg4
            refine hK _ _ ?_
            clear hK K
            refine wpAny_ready (rs := [37]) (by kernel_rfl) (by simp) ?_
            refine AllReady.cons rfl (fun K hK => ?_) AllReady.nil
            go_simp
            refine hK _ _ ?_
            clear hK K
            refine wpAny_done (by kernel_rfl) ?_ _
            have e5 : (tabC ((subL a b).take (k + 1))).flatten = (tabC ((subL a b).take k)).flatten ++ Cl.cells ⟨wrap64 (x.n - y.n), xorD x.k y.k, xorD x.s y.s⟩ := by rw [Htk.out, tabC_snoc]; rfl
            rw [← e5] at ho4
            have hB4 := hB2.grown hg4 hBz (fun b hb => (ho2.lt b hb).1)
            have Ho4 := Lib.hid ho4
            clear cQ cX cY ho4 e5
            go_wp2
            go_roundw
            case rel => exact ⟨k + 1, by omega, by go_num, Ho4.out, hB4⟩
            case measure => simp [intOf]; omega
          · obtain rfl : na = k := by omega
            have hlt' : ¬ (na : Int) < (na : Int) := by omega
            have hsl : (subL a b).length = na := by rw [← Hna.out]; simp [subL, Hlen.out]
            rw [List.take_of_length_le (by omega)] at ho
            have Hsl := Lib.hid hsl
            have hT := TabR.owns (t := subL a b) (by rw [hsl]; exact ho) (subL_ok Ha.out.2 Hb.out.2)
            have HT := Lib.hid hT
            have Hck := Lib.hid (ref47_Check wr _ _ hT (by omega))
            clear hT ho hsl
            go_wp2_with fail
            refine Hck.out.mono ?_
            rintro e w5 ⟨rfl, rfl⟩
            rcases checkT_cases (subL a b) with hcs | hcs
            · have Hres2 : Hid (subT a b = (subL a b, 0)) := Lib.hid (by rw [Hres.out, if_pos hcs])
              rw [hcs]
              clear hcs Hres
              go_wp2
              refine bodyPost_ret (v := .tuple #[.slice oo na co, .int .i64 0]) (by simp [results, Tryz.results23, go_sem]) rfl ?_
              exact ⟨.slice oo na co, by rw [Hres2.out], by rw [Hres2.out]; exact HT.out, hB⟩
            · have Hres2 : Hid (subT a b = ([], 4)) := Lib.hid (by rw [Hres.out, if_neg (by rw [hcs]; decide)])
              rw [hcs]
              clear hcs Hres
              have HE := Lib.hid (TabR.empty (w := wr) (base := w.heap.size) hB.size)
              have hB3 := hB.alloc hB.size (.cells #[] 67)
              go_wp2
              refine bodyPost_ret (v := .tuple #[.slice (some ⟨wr.heap.size, 0, none⟩) 0 0, .int .i64 4]) (by simp [results, Tryz.results23, go_sem]) rfl ?_
              exact ⟨_, by rw [Hres2.out], by rw [Hres2.out]; exact HE.out, hB3⟩
      · have hlen' : ((a.length : Int) != (b.length : Int)) = true := by rw [bne_iff_ne]; omega
        have hres : subT a b = ([], 10) := by unfold subT; rw [hca, hcb, if_pos rfl, if_pos rfl, if_neg hlen]
        have Hres := Lib.hid hres
        clear hres
        have HE := Lib.hid (TabR.empty (w := w) (base := w.heap.size) (Nat.le_refl _))
        have hB3 := Below.one w (.cells #[] 67)
        go_wp2
        refine bodyPost_ret (v := .tuple #[.slice (some ⟨w.heap.size, 0, none⟩) 0 0, .int .i64 10]) (by simp [results, Tryz.results23, go_sem]) rfl ?_
        exact ⟨_, by rw [Hres.out], by rw [Hres.out]; exact HE.out, hB3⟩
    · have hres : subT a b = ([], 2) := by unfold subT; rw [hca, hcb]; rfl
      rw [hcb]
      have Hres := Lib.hid hres
      clear hres
      have HE := Lib.hid (TabR.empty (w := w) (base := w.heap.size) (Nat.le_refl _))
      have hB3 := Below.one w (.cells #[] 67)
      go_wp2
      refine bodyPost_ret (v := .tuple #[.slice (some ⟨w.heap.size, 0, none⟩) 0 0, .int .i64 2]) (by simp [results, Tryz.results23, go_sem]) rfl ?_
      exact ⟨_, by rw [Hres.out], by rw [Hres.out]; exact HE.out, hB3⟩
  · have hres : subT a b = ([], 2) := by unfold subT; rw [hca]; rfl
    rw [hca]
    have Hres := Lib.hid hres
    clear hres
    have HE := Lib.hid (TabR.empty (w := w) (base := w.heap.size) (Nat.le_refl _))
    have hB3 := Below.one w (.cells #[] 67)
    go_wp2
    refine bodyPost_ret (v := .tuple #[.slice (some ⟨w.heap.size, 0, none⟩) 0 0, .int .i64 2]) (by simp [results, Tryz.results23, go_sem]) rfl ?_
    exact ⟨_, by rw [Hres.out], by rw [Hres.out]; exact HE.out, hB3⟩
end Go.Proofs.YtebgopdmeghmhaaGreat
