/- quiltref47.pure. -/
import Derived.Test.YtfligkncdlocaaaIbPure
import Derived.Test.YtfligkncdlocaaaRfAdd
namespace Go.Proofs.Ytfligkncdlocaaa
open Go.RowKit

def purR (t : List Cl) (i : Nat) : Bool := ((t.getD i Cl.zero).n == 1 || (t.getD i Cl.zero).n == -1) && (decide ((t.getD i Cl.zero).s = sumL (t.getD i Cl.zero).k) && decide (posN (t.getD i Cl.zero).k t.length (i / (t.length / 3)) = i))
set_option maxRecDepth 100000 in
set_option maxHeartbeats 1600000 in
theorem ref47_pure {S : Nat → Prop} (w : World) (v : Value) (t : List Cl) (i : Nat) (h : TabR S w v t) (hl3 : 3 ≤ t.length) (hm : t.length ≤ 1000000) (hm3 : t.length % 3 = 0) (hi : i < t.length) :
    Calls Try.prog 50 #[v, .int .i64 i] w fun e w' => e = .returned (.bool (purR t i)) ∧ Below w.heap.size w w' := by
  obtain ⟨b, off, c, rfl, _, _, _, hb, hra⟩ := h.at hi
  obtain ⟨ic, hic, hz, hs, hby⟩ := info_parts infoCl
  obtain ⟨z0, hz0⟩ : ∃ z, (.agg (#[.int .i64 0] ++ Array.replicate 64 (.int .u8 0)) : Value) = .agg z := ⟨_, rfl⟩
  have hzl : z0.size = 65 := by injection hz0 with e; rw [← e]; simp
  rw [hz0] at hz
  have hgd : t.getD i Cl.zero = t[i] := by simp [List.getD_eq_getElem?_getD, List.getElem?_eq_getElem hi]
  have hck : t[i].ok := h.2 _ (List.getElem_mem hi)
  have hpe : purR t i = ((t[i].n == 1 || t[i].n == -1) && (decide (t[i].s = sumL t[i].k) && decide (posN t[i].k t.length (i / (t.length / 3)) = i))) := by unfold purR; rw [hgd]
  generalize t[i] = ck at *
  have hi' : (i : Int) < (t.length : Int) := by omega
  obtain ⟨m, hm0⟩ : ∃ m, t.length / 3 = m := ⟨_, rfl⟩
  obtain ⟨p, hp0⟩ : ∃ p, i / m = p := ⟨_, rfl⟩
  have hm1 : 1 ≤ m := by omega
  have hdiv : p < 3 := by rw [← hp0, Nat.div_lt_iff_lt_mul (by omega)]; omega
  rw [hm0, hp0] at hpe
  have hidx := ref47_index ck.k hck.1 t.length p hl3 hm hdiv
  have hq1 : (t.length : Int).tdiv 3 = (m : Int) := by rw [Int.tdiv_eq_ediv_of_nonneg (by omega)]; omega
  have hq1' : (t.length : Int) / 3 = (m : Int) := by omega
  have hq2' : (i : Int) / (m : Int) = (p : Int) := by rw [← hp0]; exact (Int.natCast_ediv _ _).symm
  have hq2 : (i : Int).tdiv (m : Int) = (p : Int) := by rw [Int.tdiv_eq_ediv_of_nonneg (by omega)]; exact hq2'
  have hm00 : ¬ (m : Int) = 0 := by omega
  have hm2 : m ≤ 1000000 := by omega
  clear hp0 hm0
  have hchk := ref47_value ck.k hck.1
  have Hck := Lib.hid hck
  have Hra := Lib.hid hra
  have Hzl := Lib.hid hzl
  have Hpe := Lib.hid hpe
  have Hidx := Lib.hid hidx
  have Hchk := Lib.hid hchk
  have Hcl := Lib.hid (Cl.len hck)
  have Hck1 := Lib.hid (Cl.one ck)
  have Hzi : Hid ((Try.prog.info? 50).map (·.zero) = some (some (.agg z0))) := Lib.hid (by rw [hic]; simp [hz])
  have hkl : (bytesV ck.k).length = 32 := by rw [bytesV_len, hck.1]
  have hsl : (bytesV ck.s).length = 32 := by rw [bytesV_len, hck.2]
  have Hkl := Lib.hid hkl
  have Hsl := Lib.hid hsl
  clear h hra hck hz hz0 hzl hgd hpe hidx hchk hkl hsl hs hby hic hb
  go_enter Try.func50, Try.ntmps50
  go_wp2_with (first
    | (refine wpList_load_mid rfl 50 (.tmp 8) rfl b (off + i * 65) (by first | rfl | (simp)) ck.cells _ Hra.out Try.underlying50 rfl (by rw [sizeCl, Hcl.out]) ?_)
    | (refine wpList_alloc_row rfl 50 rfl z0 Hzi.out ?_)
    | (refine wpList_store_mid rfl 50 (.tmp 5) (.tmp 9) rfl w.heap.size 0 ck.cells.toArray rfl rfl (there_bx (Bx.new _ z0 50) (by rw [Hzl.out, List.size_toArray, Hcl.out]; exact Nat.le_refl _)) (by rw [sizeCl, List.size_toArray, Hcl.out]) Hck1.out ?_))
  simp only [Act.put, List.setIfInBounds_toArray, List.set_cons_zero, List.set_cons_succ]
  have xc := (Bx.new w z0 50).setAll (cx := ck.cells.toArray) (by rw [Hzl.out, List.size_toArray, Hcl.out])
  have hB := below_setCells (b := w.heap.size) (Nat.le_refl _) ck.cells.toArray.toList 0 _ (Below.one w (.cells z0 50))
  generalize (w.alloc (.cells z0 50)).setCells w.heap.size 0 ck.cells.toArray.toList = W3 at *
  obtain ⟨n, hnn⟩ : ∃ n, w.heap.size = n := ⟨_, rfl⟩
  rw [hnn] at xc ⊢
  have hr0 : W3.rangeAt n 0 ck.cells := xc.range
  have cN := Cl.count_at hr0
  have HkR := Lib.hid (Cl.keys_at Hck.out hr0)
  have HsR := Lib.hid (Cl.sums_at Hck.out hr0)
  have ln := xc.lt
  obtain ⟨sb, hsb⟩ : ∃ sb, (!decide (ck.s = sumL ck.k)) = sb := ⟨_, rfl⟩
  have Hsb := Lib.hid hsb
  have Hnn := Lib.hid hnn
  clear hr0 hsb hnn
  have cQ := Lat.cells W3
  cases g1 : (ck.n != 1)
  · cases sb
    · refine wp_region_lat (by kernel_rfl) (by kernel_rfl) ?_
      repeat (first | go_big_quiet_skip | (go_big_quiet_want; first | ((first | (refine quiet_load_row 31 (.tmp 19) rfl n 33 rfl (bytesV ck.s) _ (lat_range HsR.out ln) Try.underlying31 rfl (by rw [sizeDg, Hsl.out]) ?_) | (refine quiet_load_row 31 (.tmp 21) rfl n 1 rfl (bytesV ck.k) _ (lat_range HkR.out ln) Try.underlying31 rfl (by rw [sizeDg, Hkl.out]) ?_) | (refine quiet_run (.bool false) (fun w => by rw [run_neq_dg _ (.tmp 20) (.tmp 23) rfl ck.s (sumL ck.k) Hck.out.2 (sumL_len _) rfl rfl, Hsb.out]) ?_)); simp only [Act.put, List.setIfInBounds_toArray, List.set_cons_zero, List.set_cons_succ]; go_big_quiet_on) | (go_big_quiet_op; first | go_big_quiet_on | go_big_quiet_call ((exact Calls.lat (Hchk.out _))))))
      refine wpQuiet_nil ?_
      rintro W4 ⟨⟨_, hb4⟩, rfl⟩
      have HkR4 := Lib.hid (rangeAt_below HkR.out hb4 xc.lt)
      have ln4 : n < W4.heap.size := Nat.lt_of_lt_of_le xc.lt hb4.size
      have hB4 := Below.then hB hb4 hB.size
      have hs2 : ck.s = sumL ck.k := by have := Hsb.out; simpa using this
      have hpf : purR t i = decide (posN ck.k t.length p = i) := by rw [Hpe.out]; simp at g1; simp [g1, hs2]
      have Hpf := Lib.hid hpf
      clear hpf hs2 cN cQ ln
      go_wp2_with fail
      refine wp_region_lat (by kernel_rfl) (by kernel_rfl) ?_
      repeat (first | go_big_quiet_skip | (go_big_quiet_want; first | (((refine quiet_load_row 31 (.tmp 26) rfl n 1 rfl (bytesV ck.k) _ (lat_range HkR4.out ln4) Try.underlying31 rfl (by rw [sizeDg, Hkl.out]) ?_)); simp only [Act.put, List.setIfInBounds_toArray, List.set_cons_zero, List.set_cons_succ]; go_big_quiet_on) | (go_big_quiet_op; first | go_big_quiet_on | go_big_quiet_call ((exact Calls.lat (Hidx.out _))))))
      refine wpQuiet_nil ?_
      rintro W5 ⟨⟨_, hb5⟩, rfl⟩
      have hB5 := Below.then hB4 hb5 hB4.size
      go_wp2
      go_ret
      exact ⟨by rw [Hpf.out, show decide (posN ck.k t.length p = i) = ((posN ck.k t.length p : Int) == (i : Int)) by rw [Bool.eq_iff_iff]; simp; omega]; rfl, hB5⟩
    · have hpf : purR t i = false := by rw [Hpe.out]; have := Hsb.out; simp at this; simp [this]
      refine wp_region_lat (by kernel_rfl) (by kernel_rfl) ?_
      repeat (first | go_big_quiet_skip | (go_big_quiet_want; first | ((first | (refine quiet_load_row 31 (.tmp 19) rfl n 33 rfl (bytesV ck.s) _ (lat_range HsR.out ln) Try.underlying31 rfl (by rw [sizeDg, Hsl.out]) ?_) | (refine quiet_load_row 31 (.tmp 21) rfl n 1 rfl (bytesV ck.k) _ (lat_range HkR.out ln) Try.underlying31 rfl (by rw [sizeDg, Hkl.out]) ?_) | (refine quiet_run (.bool true) (fun w => by rw [run_neq_dg _ (.tmp 20) (.tmp 23) rfl ck.s (sumL ck.k) Hck.out.2 (sumL_len _) rfl rfl, Hsb.out]) ?_)); simp only [Act.put, List.setIfInBounds_toArray, List.set_cons_zero, List.set_cons_succ]; go_big_quiet_on) | (go_big_quiet_op; first | go_big_quiet_on | go_big_quiet_call ((exact Calls.lat (Hchk.out _))))))
      refine wpQuiet_nil ?_
      rintro W4 ⟨⟨_, hb4⟩, rfl⟩
      have hB4 := Below.then hB hb4 hB.size
      have Hpf := Lib.hid hpf
      clear hpf
      go_wp2
      go_ret
      exact ⟨by rw [Hpf.out]; rfl, hB4⟩
  · cases g2 : (ck.n != -1)
    · cases sb
      · refine wp_region_lat (by kernel_rfl) (by kernel_rfl) ?_
        repeat (first | go_big_quiet_skip | (go_big_quiet_want; first | ((first | (refine quiet_load_row 31 (.tmp 19) rfl n 33 rfl (bytesV ck.s) _ (lat_range HsR.out ln) Try.underlying31 rfl (by rw [sizeDg, Hsl.out]) ?_) | (refine quiet_load_row 31 (.tmp 21) rfl n 1 rfl (bytesV ck.k) _ (lat_range HkR.out ln) Try.underlying31 rfl (by rw [sizeDg, Hkl.out]) ?_) | (refine quiet_run (.bool false) (fun w => by rw [run_neq_dg _ (.tmp 20) (.tmp 23) rfl ck.s (sumL ck.k) Hck.out.2 (sumL_len _) rfl rfl, Hsb.out]) ?_)); simp only [Act.put, List.setIfInBounds_toArray, List.set_cons_zero, List.set_cons_succ]; go_big_quiet_on) | (go_big_quiet_op; first | go_big_quiet_on | go_big_quiet_call ((exact Calls.lat (Hchk.out _))))))
        refine wpQuiet_nil ?_
        rintro W4 ⟨⟨_, hb4⟩, rfl⟩
        have HkR4 := Lib.hid (rangeAt_below HkR.out hb4 xc.lt)
        have ln4 : n < W4.heap.size := Nat.lt_of_lt_of_le xc.lt hb4.size
        have hB4 := Below.then hB hb4 hB.size
        have hs2 : ck.s = sumL ck.k := by have := Hsb.out; simpa using this
        have hpf : purR t i = decide (posN ck.k t.length p = i) := by rw [Hpe.out]; simp at g2; simp [g2, hs2]
        have Hpf := Lib.hid hpf
        clear hpf hs2 cN cQ ln
        go_wp2_with fail
        refine wp_region_lat (by kernel_rfl) (by kernel_rfl) ?_
        repeat (first | go_big_quiet_skip | (go_big_quiet_want; first | (((refine quiet_load_row 31 (.tmp 26) rfl n 1 rfl (bytesV ck.k) _ (lat_range HkR4.out ln4) Try.underlying31 rfl (by rw [sizeDg, Hkl.out]) ?_)); simp only [Act.put, List.setIfInBounds_toArray, List.set_cons_zero, List.set_cons_succ]; go_big_quiet_on) | (go_big_quiet_op; first | go_big_quiet_on | go_big_quiet_call ((exact Calls.lat (Hidx.out _))))))
        refine wpQuiet_nil ?_
        rintro W5 ⟨⟨_, hb5⟩, rfl⟩
        have hB5 := Below.then hB4 hb5 hB4.size
        go_wp2
        go_ret
        exact ⟨by rw [Hpf.out, show decide (posN ck.k t.length p = i) = ((posN ck.k t.length p : Int) == (i : Int)) by rw [Bool.eq_iff_iff]; simp; omega]; rfl, hB5⟩
      · have hpf : purR t i = false := by rw [Hpe.out]; have := Hsb.out; simp at this; simp [this]
        refine wp_region_lat (by kernel_rfl) (by kernel_rfl) ?_
        repeat (first | go_big_quiet_skip | (go_big_quiet_want; first | ((first | (refine quiet_load_row 31 (.tmp 19) rfl n 33 rfl (bytesV ck.s) _ (lat_range HsR.out ln) Try.underlying31 rfl (by rw [sizeDg, Hsl.out]) ?_) | (refine quiet_load_row 31 (.tmp 21) rfl n 1 rfl (bytesV ck.k) _ (lat_range HkR.out ln) Try.underlying31 rfl (by rw [sizeDg, Hkl.out]) ?_) | (refine quiet_run (.bool true) (fun w => by rw [run_neq_dg _ (.tmp 20) (.tmp 23) rfl ck.s (sumL ck.k) Hck.out.2 (sumL_len _) rfl rfl, Hsb.out]) ?_)); simp only [Act.put, List.setIfInBounds_toArray, List.set_cons_zero, List.set_cons_succ]; go_big_quiet_on) | (go_big_quiet_op; first | go_big_quiet_on | go_big_quiet_call ((exact Calls.lat (Hchk.out _))))))
        refine wpQuiet_nil ?_
        rintro W4 ⟨⟨_, hb4⟩, rfl⟩
        have hB4 := Below.then hB hb4 hB.size
        have Hpf := Lib.hid hpf
        clear hpf
        go_wp2
        go_ret
        exact ⟨by rw [Hpf.out]; rfl, hB4⟩
    · have hpf : purR t i = false := by rw [Hpe.out]; simp at g1 g2; simp [g1, g2]
      have Hpf := Lib.hid hpf
      clear hpf
      refine wp_region_lat (by kernel_rfl) (by kernel_rfl) ?_
      repeat (first | go_big_quiet_skip | (go_big_quiet_want; first | ((first | (refine quiet_load_row 31 (.tmp 19) rfl n 33 rfl (bytesV ck.s) _ (lat_range HsR.out ln) Try.underlying31 rfl (by rw [sizeDg, Hsl.out]) ?_) | (refine quiet_load_row 31 (.tmp 21) rfl n 1 rfl (bytesV ck.k) _ (lat_range HkR.out ln) Try.underlying31 rfl (by rw [sizeDg, Hkl.out]) ?_) | (refine quiet_run (.bool false) (fun w => by rw [run_neq_dg _ (.tmp 20) (.tmp 23) rfl ck.s (sumL ck.k) Hck.out.2 (sumL_len _) rfl rfl, Hsb.out]) ?_)); simp only [Act.put, List.setIfInBounds_toArray, List.set_cons_zero, List.set_cons_succ]; go_big_quiet_on) | (go_big_quiet_op; first | go_big_quiet_on | go_big_quiet_call ((exact Calls.lat (Hchk.out _))))))
      refine wpQuiet_nil ?_
      rintro W4 ⟨⟨_, hb4⟩, rfl⟩
      have hB4 := Below.then hB hb4 hB.size
      go_wp2
      go_ret
      exact ⟨by rw [Hpf.out]; rfl, hB4⟩
end Go.Proofs.Ytfligkncdlocaaa
