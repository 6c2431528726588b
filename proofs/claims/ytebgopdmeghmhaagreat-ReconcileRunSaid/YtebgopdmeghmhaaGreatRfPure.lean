/- quiltref47.index: the cell of a digest. quiltref47.added: a digest counted in a table. quiltref47.pure. -/
import Derived.Test.YtebgopdmeghmhaaGreatIbPut
import Derived.Test.YtebgopdmeghmhaaGreatIbPure
namespace Go.Proofs.YtebgopdmeghmhaaGreat
open Go.RowKit

set_option maxRecDepth 100000 in
set_option maxHeartbeats 1200000 in
theorem ref47_index (d : List UInt8) (hd : d.length = 32) (n k : Nat) (hn3 : 3 ≤ n) (hn4 : n ≤ 1000000) (hk : k < 3) (w : World) :
    Calls Tryz.prog 77 #[dgV d, .int .i64 n, .int .i64 k] w fun e w' => e = .returned (.int .i64 (posN d n k)) ∧ Below w.heap.size w w' := by
  obtain ⟨cd, hcd⟩ : ∃ c, (bytesV d).toArray = c := ⟨_, rfl⟩
  unfold dgV
  rw [hcd]
  have xd := Bx.new w cd 39
  have hB := Below.one w (.cells cd 39)
  have Hd8 : Hid (8 * k + 8 ≤ d.length) := Lib.hid (by omega)
  have cD : ∀ j (hj : j < 8), (w.alloc (.cells cd 39)).cell? ⟨w.heap.size, 8 * k + j, none⟩ = some (.int .u8 ((d[8 * k + j]'(by have := Hd8.out; omega)).toNat : Int)) := fun j hj => by rw [xd.cell, ← hcd, bytesV_get (by have := Hd8.out; omega)]
  have HcD := Lib.hid cD
  have hld : w.heap.size < (w.alloc (.cells cd 39)).heap.size := xd.lt
  clear cD hcd xd
  go_enter Tryz.func77, Tryz.ntmps77
  go_wp2
  generalize w.alloc (.cells cd 39) = W2 at *
  go_loopw [7, 8] (fun x i wr => ∃ j : Nat, j ≤ 8 ∧ i = .int .i64 j ∧ x = .int .u64 (wq (keyP d k j)) ∧ wr = W2) (fun _ i _ => 8 - (intOf i).toNat)
  case atStart => exact ⟨0, by omega, rfl, rfl, rfl⟩
  case round =>
    obtain ⟨j, hj, rfl, rfl, rfl⟩ := hrel
    by_cases hlt2 : j < 8
    · have hltj : (j : Int) < 8 := by omega
      have i0 : (0 : Int) ≤ 8 * (k : Int) + (j : Int) := by omega
      have i1 : 8 * (k : Int) + (j : Int) < 32 := by omega
      have t0 : (8 * (k : Int) + (j : Int)).toNat = 8 * k + j := by omega
      have cx := HcD.out j hlt2
      have hsu := keyP_succ (d := d) (part := k) (j := j) (by have := Hd8.out; omega)
      generalize d[8 * k + j]'(by have := Hd8.out; omega) = c at *
      have Hsu := Lib.hid hsu
      clear hsu
      go_wp2
      rw [key_raw2, ← Hsu.out]
      go_roundw
      case rel => exact ⟨j + 1, by omega, by go_num, rfl, trivial⟩
      case measure => simp [intOf]; omega
    · obtain rfl : j = 8 := by omega
      have hltj : ¬ ((8 : Nat) : Int) < 8 := by omega
      obtain ⟨m, hm⟩ : ∃ m, n / 3 = m := ⟨_, rfl⟩
      have hx : posN d n k = k * m + (keyP d k 8).toNat % m := by unfold posN; rw [hm]
      have hm1 : 1 ≤ m := by omega
      have hm2 : m ≤ 1000000 := by omega
      have hq4 : (n : Int) / 3 = (m : Int) := by omega
      have hq3 : (n : Int).tdiv 3 = (m : Int) := by rw [Int.tdiv_eq_ediv_of_nonneg (by omega)]; omega
      have hkm : k * m ≤ 3 * m := Nat.mul_le_mul_right _ (by omega)
      have hw : IntKind.i64.wrap ((k : Int) * (m : Int)) = ((k * m : Nat) : Int) := by rw [← Int.natCast_mul]; exact IntWalk.i64_in _ (by omega)
      have hr1 := Nat.mod_lt (keyP d k 8).toNat (show 0 < m by omega)
      have hr2 : (wq (keyP d k 8)).tmod (m : Int) = (((keyP d k 8).toNat % m : Nat) : Int) := by unfold wq; rw [Int.tmod_eq_emod_of_nonneg (by omega)]; exact (Int.natCast_emod _ _).symm
      have hm0 : ¬ (m : Int) = 0 := by omega
      have hmw : IntKind.u64.wrap (m : Int) = (m : Int) := wrap_u64 m (by omega)
      have Hx := Lib.hid hx
      clear hx hm
      generalize (keyP d k 8).toNat % m = r at *
      generalize k * m = km at *
      go_wp2
      go_ret
      exact ⟨by rw [Hx.out, Int.natCast_add]; rfl, hB⟩
end Go.Proofs.YtebgopdmeghmhaaGreat
namespace Go.Proofs.YtebgopdmeghmhaaGreat
open Go.RowKit

set_option maxRecDepth 100000 in
set_option maxHeartbeats 1600000 in
theorem ref47_added {S : Nat → Prop} (w : World) (v : Value) (t : List Cl) (d : List UInt8) (q : Int) (h : TabR S w v t) (hl3 : 3 ≤ t.length) (hm : t.length ≤ 1000000) (hd : d.length = 32) :
    Calls Tryz.prog 52 #[v, dgV d, .int .i64 q] w fun e w' => ∃ g cap, e = .returned (.slice (some ⟨g, 0, none⟩) t.length cap) ∧ w'.ownsRow w.heap.size 67 65 (.slice (some ⟨g, 0, none⟩) t.length cap) t.length (tabC (putT t d q)).flatten ∧ Below w.heap.size w w' := by
  obtain ⟨o, c, rfl⟩ : ∃ o c, v = .slice o t.length c := by obtain ⟨⟨o, c, e, _⟩, _⟩ := h; rw [tabC_size] at e; exact ⟨o, c, e⟩
  obtain ⟨ic, hi, hz, hs, hby⟩ := info_parts infoCl
  obtain ⟨cd, hcd⟩ : ∃ c, (bytesV d).toArray = c := ⟨_, rfl⟩
  have hcl : cd.size = 32 := by rw [← hcd]; simp [bytesV, hd]
  have hidx : ∀ k : Nat, k < 3 → ∀ V, Calls Tryz.prog 77 #[dgV d, .int .i64 t.length, .int .i64 k] V fun e w' => e = .returned (.int .i64 (posN d t.length k)) ∧ Below V.heap.size V w' := fun k hk V => ref47_index d hd t.length k hl3 hm hk V
  obtain ⟨z0, hz0⟩ : ∃ z, (.agg (#[.int .i64 0] ++ Array.replicate 64 (.int .u8 0)) : Value) = .agg z := ⟨_, rfl⟩
  have hzl : z0.size = 65 := by injection hz0 with e; rw [← e]; simp
  rw [hz0] at hz
  unfold dgV at hidx ⊢
  rw [hcd] at hidx ⊢
  have hB0 := Below.one w (.cells cd 39)
  have xd := Bx.new w cd 39
  have h1 := h.below ((Below.refl _ _).alloc (Nat.le_refl _) (.cells cd 39))
  have hok := Lib.hid h.2
  have hB1 := hB0.alloc hB0.size (.cells #[] 67)
  have xd1 := xd.alloc (.cells #[] 67)
  have ho1 := ownsRow_empty (w.alloc (.cells cd 39)) (w.heap.size + 1) (w.heap.size + 1) 67 65 (by simp) (Nat.le_refl _)
  have h2 := h1.below ((Below.refl _ _).alloc (Nat.le_refl _) (.cells #[] 67))
  have hflen : (tabC t).flatten.length = t.length * 65 := by rw [flat_len (tabC_len h.2), tabC_size]
  have h1c : ∀ u ∈ (tabC t).flatten, u.oneCell' = true := fun u hu => by
    obtain ⟨x, hx, hu⟩ := List.mem_flatten.1 hu
    obtain ⟨c, _, rfl⟩ := List.mem_map.1 hx
    exact Array.all_eq_true_iff_forall_mem.1 (Cl.one c) u (by simpa using hu)
  have hrow : RowAt S ((w.alloc (.cells cd 39)).alloc (.cells #[] 67)) o (tabC t).flatten ∧ SlW o t.length c := by
    obtain ⟨⟨o', c', e', hs', hr⟩, _⟩ := h2
    rw [tabC_size] at e' hs'
    obtain ⟨rfl, rfl⟩ : o = o' ∧ c = c' := by simpa using e'
    exact ⟨hr, hs'⟩
  have hW1z : (w.alloc (.cells cd 39)).heap.size = w.heap.size + 1 := by simp
  have Hidx := Lib.hid hidx
  have Hcl := Lib.hid hcl
  have Hcd := Lib.hid hcd
  have Hz := Lib.hid hz
  have Hzl := Lib.hid hzl
  have Ho1 := Lib.hid ho1
  have Hrow := Lib.hid hrow
  have Hfl := Lib.hid hflen
  have H1c := Lib.hid h1c
  have HB1 := Lib.hid hB1
  clear hidx hcl hcd hz hz0 hzl h h1 h2 hB0 xd ho1 hrow hflen h1c hB1
  go_enter Tryz.func52, Tryz.ntmps52
  go_wp2_with (refine wpList_app rfl (.tmp 11) (.tmp 12) 24 rfl (w.heap.size + 1) 67 ic (.agg z0) 65 72 Tryz.underlying24 hi Hz.out hs hby Hzl.out (by decide) (.slice (some ⟨w.heap.size + 1, 0, none⟩) 0 0) 0 [] rfl Ho1.out o t.length c (tabC t).flatten rfl Hrow.out.2.nil Hfl.out Hrow.out.1 H1c.out (by unfold maxLen; omega) (by omega) (by simp) ?_; intro v4 w4 ho4 hg4)
  rw [List.nil_append, Nat.zero_add] at ho4
  have xd4 := xd1.grown hg4 (by simp [Value.ownBlock])
  have hB4 := HB1.out.grown hg4 (by simp; omega) (fun b hb => by simp [Value.ownBlock] at hb; omega)
  obtain ⟨g, cap, rfl⟩ : ∃ g cap, v4 = .slice (some ⟨g, 0, none⟩) t.length cap := by
    rcases ho4.2 with ⟨_, h0⟩ | ⟨g, cap, cur, rfl, _⟩
    · omega
    · exact ⟨g, cap, rfl⟩
  have hgl := (ho4.lt g rfl).1
  clear xd1 hg4
  go_wp2
  go_loopw [8] (fun i wr => ∃ k : Nat, k ≤ 3 ∧ i = .int .i64 k ∧ wr.ownsRow (w.heap.size + 1) 67 65 (.slice (some ⟨g, 0, none⟩) t.length cap) t.length (tabC ((List.range k).foldl (putAt d q) t)).flatten ∧ Bx wr w.heap.size cd 39 ∧ Below w.heap.size w wr) (fun i _ => 3 - (intOf i).toNat)
  case atStart => exact ⟨0, by omega, rfl, ho4, xd4, hB4⟩
  case round =>
    clear ho4 xd4 hB4
    obtain ⟨k, hk, rfl, ho, xd, hB⟩ := hrel
    by_cases hlt : k < 3
    · have hlt' : (k : Int) < 3 := by omega
      go_wp2_with (refine wpList_load_mid rfl 39 (.tmp 4) rfl w.heap.size 0 rfl cd.toList _ xd.range Tryz.underlying39 rfl (by rw [sizeDg]; simp [Hcl.out]) ?_)
      refine (Hidx.out k hlt _).mono ?_
      rintro e w5 ⟨rfl, hb5⟩
      have ho := ownsRow_belowAll ho hb5
      have xd := xd.belowAll hb5
      have hB := Below.then hB hb5 hB.size
      obtain ⟨tt, htt⟩ : ∃ tt, (List.range k).foldl (putAt d q) t = tt := ⟨_, rfl⟩
      have htl : tt.length = t.length := by rw [← htt]; exact foldP_len d q _ t
      have htk : Tok tt := by rw [← htt]; exact foldP_ok hd q _ hok.out
      have hnext : (List.range (k + 1)).foldl (putAt d q) t = putAt d q tt k := by rw [List.range_succ, List.foldl_append, htt]; rfl
      rw [htt] at ho
      have hp := posN_lt (d := d) hlt hl3
      have hpa : putAt d q tt k = tt.set (posN d t.length k) (addC (tt.getD (posN d t.length k) Cl.zero) d q) := by unfold putAt; rw [htl]
      have Hnext := Lib.hid (hnext.trans hpa)
      clear hnext hpa htt
      obtain ⟨p, hpe⟩ : ∃ p, posN d t.length k = p := ⟨_, rfl⟩
      rw [hpe] at hp Hnext
      rw [hpe]
      have hp' : (p : Int) < (t.length : Int) := by omega
      have hck := htk.get p
      have hrow : w5.rangeAt g (p * 65) (tt.getD p Cl.zero).cells := by
        obtain ⟨o', c', e', _, hr, _⟩ := ownsRow_at ho
        obtain ⟨rfl, rfl⟩ : some (⟨g, 0, none⟩ : Addr) = o' ∧ cap = c' := by simpa using e'
        have hsg := hr.seg (tabC_len htk) (i := p) (by rw [tabC_size, htl]; exact hp)
        rw [Nat.zero_add] at hsg
        have e2 : (tabC tt)[p]'(by rw [tabC_size, htl]; exact hp) = (tt.getD p Cl.zero).cells := by simp [tabC, List.getD_eq_getElem?_getD, List.getElem?_eq_getElem (show p < tt.length by omega)]
        rw [e2] at hsg
        exact hsg
      generalize tt.getD p Cl.zero = ck at *
      have Hrow5 := Lib.hid hrow
      have Hcl5 := Lib.hid (Cl.len hck)
      have Ho := Lib.hid ho
      have hg5 := (ho.lt g rfl).2
      have xc := (Bx.new w5 z0 67).setAll (cx := ck.cells.toArray) (by rw [Hzl.out, List.size_toArray, Hcl5.out])
      have xd6 := (xd.alloc (.cells z0 67)).setCellsO (b' := w5.heap.size) (by have := xd.lt; omega) ck.cells.toArray.toList 0
      have ho6 := ownsRow_setCells (ho.alloc (.cells z0 67)) (b := w5.heap.size) (by simp [Value.ownBlock]; omega) ck.cells.toArray.toList 0
      have hB6 := below_setCells (b := w5.heap.size) hB.size ck.cells.toArray.toList 0 _ (hB.alloc hB.size (.cells z0 67))
      have Hck1 := Lib.hid (Cl.one ck)
      have hzinfo : (Tryz.prog.info? 67).map (·.zero) = some (some (.agg z0)) := by rw [hi]; simp [Hz.out]
      have Hzi := Lib.hid hzinfo
      clear hrow ho xd hB hzinfo
      go_wp2_with (first
        | (refine wpList_load_mid rfl 67 (.tmp 25) rfl g (p * 65) (by first | rfl | (simp)) ck.cells _ Hrow5.out Tryz.underlying67 rfl (by rw [sizeCl, Hcl5.out]) ?_)
        | (refine wpList_alloc_row rfl 67 rfl z0 Hzi.out ?_)
        | (refine wpList_store_mid rfl 67 (.tmp 10) (.tmp 26) rfl w5.heap.size 0 ck.cells.toArray rfl rfl (there_bx (Bx.new w5 z0 67) (by rw [Hzl.out, List.size_toArray, Hcl5.out]; exact Nat.le_refl _)) (by rw [sizeCl, List.size_toArray, Hcl5.out]) Hck1.out ?_))
      simp only [Act.put, List.setIfInBounds_toArray, List.set_cons_zero, List.set_cons_succ]
      obtain ⟨nc, hnc⟩ : ∃ nc, w5.heap.size = nc := ⟨_, rfl⟩
      generalize (w5.alloc (.cells z0 67)).setCells w5.heap.size 0 ck.cells.toArray.toList = w6 at *
      rw [hnc] at xc hg5 ⊢
      have ho := ho6
      have xd := xd6
      have hB := hB6
      have hr0 : w6.rangeAt nc 0 ck.cells := xc.range
      have cN := Cl.count_at hr0
      have hkR := Cl.keys_at hck hr0
      have hsR := Cl.sums_at hck hr0
      have HkR := Lib.hid hkR
      have HsR := Lib.hid hsR
      have hxk : ∀ V, Calls Tryz.prog 54 #[dgV ck.k, .agg cd] V fun e w' => e = .returned (dgV (xorD ck.k d)) ∧ Below V.heap.size V w' := fun V => by
        have := ref02_xor ck.k d hck.1 hd V
        rw [show dgV d = .agg cd by unfold dgV; rw [Hcd.out]] at this
        exact this
      have hxs : ∀ V, Calls Tryz.prog 54 #[dgV ck.s, dgV (sumL d)] V fun e w' => e = .returned (dgV (xorD ck.s (sumL d))) ∧ Below V.heap.size V w' := fun V => ref02_xor ck.s (sumL d) hck.2 (sumL_len d) V
      have hxc : ∀ V, Calls Tryz.prog 78 #[.agg cd] V fun e w' => e = .returned (dgV (sumL d)) ∧ Below V.heap.size V w' := fun V => by
        have := ref47_value d hd V
        rw [show dgV d = .agg cd by unfold dgV; rw [Hcd.out]] at this
        exact this
      have Hxk := Lib.hid hxk
      have Hxs := Lib.hid hxs
      have Hxc := Lib.hid hxc
      have hbd := run_buildCl (wrap64 (ck.n + q)) (xorD ck.k d) (xorD ck.s (sumL d)) (xorD_len hck.1 hd) (xorD_len hck.2 (sumL_len d))
      have Hbd := Lib.hid hbd
      have Hck := Lib.hid hck
      have Htl := Lib.hid htl
      have Htk := Lib.hid htk
      have hkl : (bytesV ck.k).length = 32 := by rw [bytesV_len, hck.1]
      have hsl : (bytesV ck.s).length = 32 := by rw [bytesV_len, hck.2]
      have Hkl := Lib.hid hkl
      have Hsl := Lib.hid hsl
      have Ho6 := Lib.hid ho
      have lg : g < w6.heap.size := (ho.lt g rfl).2
      have lc := xc.lt
      have ld := xd.lt
      clear hxk hxs hxc hbd hck htl htk hkl hsl hkR hsR hr0 hpe ho ho6 xd6 hB6 Ho Hrow5
      have cQ := Lat.cells w6
      refine wp_region_lz 17 1 #[true, true, true, true, true, true, true, true, true, true, true, true, true, true, true, true, true, false] (fun i => if i = 9 then some (annK (dgV (xorD ck.k d))) else if i = 13 then some (annK (dgV (sumL d))) else if i = 14 then some (annK (dgV (xorD ck.s (sumL d)))) else if i = 15 then some (annK (Cl.V ⟨wrap64 (ck.n + q), xorD ck.k d, xorD ck.s (sumL d)⟩)) else none) (by kernel_rfl) (by rfl) (by rfl) (by kernel_rfl) ?_
      simp only [List.take_succ_cons, List.take_zero]
      refine LW.block 9 9 (by rfl) (by kernel_rfl) (by kernel_rfl) ?_
      simp only [List.take_succ_cons, List.take_zero, List.drop_succ_cons, List.drop_zero]
      repeat (first | go_big_quiet_skip | (go_big_quiet_want; first | ((first | (refine quiet_load_row 39 (.tmp 33) rfl nc 1 rfl (bytesV ck.k) _ (lat_range HkR.out lc) Tryz.underlying39 rfl (by rw [sizeDg, Hkl.out]) ?_) | (refine quiet_load_row 39 (.tmp 4) rfl w.heap.size 0 rfl cd.toList _ (lat_range xd.range ld) Tryz.underlying39 rfl (by rw [sizeDg]; simp [Hcl.out]) ?_)); simp only [Act.put, List.setIfInBounds_toArray, List.set_cons_zero, List.set_cons_succ]; go_big_quiet_on) | (go_big_quiet_op; go_big_quiet_on)))
      refine wpQuiet_nil ?_
      refine LW.lzy _ (by rfl) (by rfl) ?_ ?_
      · intro yL _
        unfold lzAt
        go_simp
        exact lz_constB (Hxk.out _)
      intro _
      simp only [Act.put, List.setIfInBounds_toArray, List.set_cons_zero, List.set_cons_succ]
      (try simp only [annK])
      refine LW.block 3 13 (by rfl) (by kernel_rfl) (by kernel_rfl) ?_
      simp only [List.take_succ_cons, List.take_zero, List.drop_succ_cons, List.drop_zero]
      repeat (first | go_big_quiet_skip | (go_big_quiet_want; first | ((first | (refine quiet_load_row 39 (.tmp 37) rfl nc 33 rfl (bytesV ck.s) _ (lat_range HsR.out lc) Tryz.underlying39 rfl (by rw [sizeDg, Hsl.out]) ?_) | (refine quiet_load_row 39 (.tmp 4) rfl w.heap.size 0 rfl cd.toList _ (lat_range xd.range ld) Tryz.underlying39 rfl (by rw [sizeDg]; simp [Hcl.out]) ?_)); simp only [Act.put, List.setIfInBounds_toArray, List.set_cons_zero, List.set_cons_succ]; go_big_quiet_on) | (go_big_quiet_op; go_big_quiet_on)))
      refine wpQuiet_nil ?_
      refine LW.lzy _ (by rfl) (by rfl) ?_ ?_
      · intro yL _
        unfold lzAt
        go_simp
        exact lz_constB (Hxc.out _)
      intro _
      simp only [Act.put, List.setIfInBounds_toArray, List.set_cons_zero, List.set_cons_succ]
      (try simp only [annK])
      refine LW.lzy _ (by rfl) (by rfl) ?_ ?_
      · intro yL _
        unfold lzAt
        go_simp
        exact lz_constB (Hxs.out _)
      intro _
      simp only [Act.put, List.setIfInBounds_toArray, List.set_cons_zero, List.set_cons_succ]
      (try simp only [annK])
      refine LW.lzy _ (by rfl) (by rfl) ?_ ?_
      · intro yL _
        exact lz_value (exec_build 67 _ rfl #[(0, .int .i64 (wrap64 (ck.n + q))), (1, dgV (xorD ck.k d)), (2, dgV (xorD ck.s (sumL d)))] (by kernel_rfl) (Hbd.out _))
      intro _
      simp only [Act.put, List.setIfInBounds_toArray, List.set_cons_zero, List.set_cons_succ]
      (try simp only [annK])
      refine LW.block 1 17 (by rfl) (by kernel_rfl) (by kernel_rfl) ?_
      simp only [List.take_succ_cons, List.take_zero, List.drop_succ_cons, List.drop_zero]
      repeat (first | go_big_quiet_skip | (go_big_quiet_want; go_big_quiet_op; go_big_quiet_on))
      refine wpQuiet_nil ?_
      refine LW.done ?_
      intro W' hG
      have ho2 := ownsRow_belowAll Ho6.out hG.below
      have hcl2 : (Cl.cells ⟨wrap64 (ck.n + q), xorD ck.k d, xorD ck.s (sumL d)⟩).length = 65 := Cl.len (addC_ok Hck.out hd q)
      have ho2' : W'.ownsRow (w.heap.size + 1) 67 65 (.slice (some ⟨g, 0, none⟩) (tabC tt).length cap) (tabC tt).length (tabC tt).flatten := by rw [tabC_size, Htl.out]; exact ho2
      obtain ⟨hset, hthere⟩ := ownsRow_seg (tabC_len Htk.out) ho2' (i := p) (by rw [tabC_size, Htl.out]; exact hp) hcl2 (by decide)
      rw [tabC_set, tabC_size, Htl.out] at hset
      have xd2 := xd.belowAll hG.below
      have hB2 := Below.then hB hG.below hB.size
      refine wpAny_ready (rs := [17]) (by kernel_rfl) (by simp) ?_
      refine AllReady.cons rfl (fun K hK => ?_) AllReady.nil
      refine wp_store_mid 67 (.tmp 43) (.tmp 42) rfl g (p * 65) (Cl.cells ⟨wrap64 (ck.n + q), xorD ck.k d, xorD ck.s (sumL d)⟩).toArray rfl rfl (by rw [List.size_toArray, hcl2]; exact hthere) (by rw [sizeCl, List.size_toArray, hcl2]) (Cl.one _) ?_
      refine hK _ _ ?_
      clear hK K
      refine wpAny_done (by kernel_rfl) ?_ _
      clear cQ cN
      go_wp2
      go_roundw
      case rel =>
        refine ⟨k + 1, by omega, by go_num, ?_, xd2.setCellsO (by omega) _ _, below_setCells (by omega) _ _ _ hB2⟩
        rw [Hnext.out]
        exact hset
      case measure => simp [intOf]; omega
    · obtain rfl : k = 3 := by omega
      have hlt' : ¬ ((3 : Nat) : Int) < 3 := by omega
      have hput : (List.range 3).foldl (putAt d q) t = putT t d q := rfl
      rw [hput] at ho
      go_wp2
      go_ret
      refine ⟨g, cap, rfl, ?_, hB⟩
      rcases ho with ⟨l1, l2⟩
      refine ⟨l1, ?_⟩
      rcases l2 with h | ⟨g', cap', cur, e1, e2, e3⟩
      · exact .inl h
      · exact .inr ⟨g', cap', cur, e1, by omega, e3⟩
end Go.Proofs.YtebgopdmeghmhaaGreat
namespace Go.Proofs.YtebgopdmeghmhaaGreat
open Go.RowKit

def purR (t : List Cl) (i : Nat) : Bool := ((t.getD i Cl.zero).n == 1 || (t.getD i Cl.zero).n == -1) && (decide ((t.getD i Cl.zero).s = sumL (t.getD i Cl.zero).k) && decide (posN (t.getD i Cl.zero).k t.length (i / (t.length / 3)) = i))
set_option maxRecDepth 100000 in
set_option maxHeartbeats 1600000 in
theorem ref47_pure {S : Nat → Prop} (w : World) (v : Value) (t : List Cl) (i : Nat) (h : TabR S w v t) (hl3 : 3 ≤ t.length) (hm : t.length ≤ 1000000) (hm3 : t.length % 3 = 0) (hi : i < t.length) :
    Calls Tryz.prog 79 #[v, .int .i64 i] w fun e w' => e = .returned (.bool (purR t i)) ∧ Below w.heap.size w w' := by
  obtain ⟨b, off, c, rfl, _, _, _, hb, hra⟩ := h.at hi
  obtain ⟨ic, hic, hz, hs, hby⟩ := info_parts infoCl
  obtain ⟨z0, hz0⟩ : ∃ z, (.agg (#[.int .i64 0] ++ Array.replicate 64 (.int .u8 0)) : Value) = .agg z := ⟨_, rfl⟩
  have hzl : z0.size = 65 := by injection hz0 with e; rw [← e]; simp
  rw [hz0] at hz
  have hgd : t.getD i Cl.zero = t[i] := by simp [List.getD_eq_getElem?_getD, List.getElem?_eq_getElem hi]
  have hck : t[i].ok := h.2 _ (List.getElem_mem hi)
  have hpe : purR t i = ((t[i].n == 1 || t[i].n == -1) && (decide (t[i].s = sumL t[i].k) && decide (posN t[i].k t.length (i / (t.length / 3)) = i))) := by unfold purR; rw [hgd]
  generalize t[i] = ck at *
  have hi' : (i : Int) < (t.length : Int) := by omega
  obtain ⟨m, hm0⟩ : ∃ m, t.length / 3 = m := ⟨_, rfl⟩
  obtain ⟨p, hp0⟩ : ∃ p, i / m = p := ⟨_, rfl⟩
  have hm1 : 1 ≤ m := by omega
  have hdiv : p < 3 := by rw [← hp0, Nat.div_lt_iff_lt_mul (by omega)]; omega
  rw [hm0, hp0] at hpe
  have hidx := ref47_index ck.k hck.1 t.length p hl3 hm hdiv
  have hq1 : (t.length : Int).tdiv 3 = (m : Int) := by rw [Int.tdiv_eq_ediv_of_nonneg (by omega)]; omega
  have hq1' : (t.length : Int) / 3 = (m : Int) := by omega
  have hq2' : (i : Int) / (m : Int) = (p : Int) := by rw [← hp0]; exact (Int.natCast_ediv _ _).symm
  have hq2 : (i : Int).tdiv (m : Int) = (p : Int) := by rw [Int.tdiv_eq_ediv_of_nonneg (by omega)]; exact hq2'
  have hm00 : ¬ (m : Int) = 0 := by omega
  have hm2 : m ≤ 1000000 := by omega
  clear hp0 hm0
  have hchk := ref47_value ck.k hck.1
  have Hck := Lib.hid hck
  have Hra := Lib.hid hra
  have Hzl := Lib.hid hzl
  have Hpe := Lib.hid hpe
  have Hidx := Lib.hid hidx
  have Hchk := Lib.hid hchk
  have Hcl := Lib.hid (Cl.len hck)
  have Hck1 := Lib.hid (Cl.one ck)
  have Hzi : Hid ((Tryz.prog.info? 67).map (·.zero) = some (some (.agg z0))) := Lib.hid (by rw [hic]; simp [hz])
  have hkl : (bytesV ck.k).length = 32 := by rw [bytesV_len, hck.1]
  have hsl : (bytesV ck.s).length = 32 := by rw [bytesV_len, hck.2]
  have Hkl := Lib.hid hkl
  have Hsl := Lib.hid hsl
  clear h hra hck hz hz0 hzl hgd hpe hidx hchk hkl hsl hs hby hic hb
  go_enter Tryz.func79, Tryz.ntmps79
  go_wp2_with (first
    | (refine wpList_load_mid rfl 67 (.tmp 8) rfl b (off + i * 65) (by first | rfl | (simp)) ck.cells _ Hra.out Tryz.underlying67 rfl (by rw [sizeCl, Hcl.out]) ?_)
    | (refine wpList_alloc_row rfl 67 rfl z0 Hzi.out ?_)
    | (refine wpList_store_mid rfl 67 (.tmp 5) (.tmp 9) rfl w.heap.size 0 ck.cells.toArray rfl rfl (there_bx (Bx.new _ z0 67) (by rw [Hzl.out, List.size_toArray, Hcl.out]; exact Nat.le_refl _)) (by rw [sizeCl, List.size_toArray, Hcl.out]) Hck1.out ?_))
  simp only [Act.put, List.setIfInBounds_toArray, List.set_cons_zero, List.set_cons_succ]
  have xc := (Bx.new w z0 67).setAll (cx := ck.cells.toArray) (by rw [Hzl.out, List.size_toArray, Hcl.out])
  have hB := below_setCells (b := w.heap.size) (Nat.le_refl _) ck.cells.toArray.toList 0 _ (Below.one w (.cells z0 67))
  generalize (w.alloc (.cells z0 67)).setCells w.heap.size 0 ck.cells.toArray.toList = W3 at *
  obtain ⟨n, hnn⟩ : ∃ n, w.heap.size = n := ⟨_, rfl⟩
  rw [hnn] at xc ⊢
  have hr0 : W3.rangeAt n 0 ck.cells := xc.range
  have cN := Cl.count_at hr0
  have HkR := Lib.hid (Cl.keys_at Hck.out hr0)
  have HsR := Lib.hid (Cl.sums_at Hck.out hr0)
  have ln := xc.lt
  obtain ⟨sb, hsb⟩ : ∃ sb, (!decide (ck.s = sumL ck.k)) = sb := ⟨_, rfl⟩
  have Hsb := Lib.hid hsb
  have Hnn := Lib.hid hnn
  clear hr0 hsb hnn
  have cQ := Lat.cells W3
  cases g1 : (ck.n != 1)
  · cases sb
    · refine wp_region_lat (by kernel_rfl) (by kernel_rfl) ?_
      repeat (first | go_big_quiet_skip | (go_big_quiet_want; first | ((first | (refine quiet_load_row 39 (.tmp 19) rfl n 33 rfl (bytesV ck.s) _ (lat_range HsR.out ln) Tryz.underlying39 rfl (by rw [sizeDg, Hsl.out]) ?_) | (refine quiet_load_row 39 (.tmp 21) rfl n 1 rfl (bytesV ck.k) _ (lat_range HkR.out ln) Tryz.underlying39 rfl (by rw [sizeDg, Hkl.out]) ?_) | (refine quiet_run (.bool false) (fun w => by rw [run_neq_dg _ (.tmp 20) (.tmp 23) rfl ck.s (sumL ck.k) Hck.out.2 (sumL_len _) rfl rfl, Hsb.out]) ?_)); simp only [Act.put, List.setIfInBounds_toArray, List.set_cons_zero, List.set_cons_succ]; go_big_quiet_on) | (go_big_quiet_op; first | go_big_quiet_on | go_big_quiet_call ((exact Calls.lat (Hchk.out _))))))
      refine wpQuiet_nil ?_
      rintro W4 ⟨⟨_, hb4⟩, rfl⟩
      have HkR4 := Lib.hid (rangeAt_below HkR.out hb4 xc.lt)
      have ln4 : n < W4.heap.size := Nat.lt_of_lt_of_le xc.lt hb4.size
      have hB4 := Below.then hB hb4 hB.size
      have hs2 : ck.s = sumL ck.k := by have := Hsb.out; simpa using this
      have hpf : purR t i = decide (posN ck.k t.length p = i) := by rw [Hpe.out]; simp at g1; simp [g1, hs2]
      have Hpf := Lib.hid hpf
      clear hpf hs2 cN cQ ln
      go_wp2_with fail
      refine wp_region_lat (by kernel_rfl) (by kernel_rfl) ?_
      repeat (first | go_big_quiet_skip | (go_big_quiet_want; first | (((refine quiet_load_row 39 (.tmp 26) rfl n 1 rfl (bytesV ck.k) _ (lat_range HkR4.out ln4) Tryz.underlying39 rfl (by rw [sizeDg, Hkl.out]) ?_)); simp only [Act.put, List.setIfInBounds_toArray, List.set_cons_zero, List.set_cons_succ]; go_big_quiet_on) | (go_big_quiet_op; first | go_big_quiet_on | go_big_quiet_call ((exact Calls.lat (Hidx.out _))))))
      refine wpQuiet_nil ?_
      rintro W5 ⟨⟨_, hb5⟩, rfl⟩
      have hB5 := Below.then hB4 hb5 hB4.size
      go_wp2
      go_ret
      exact ⟨by rw [Hpf.out, show decide (posN ck.k t.length p = i) = ((posN ck.k t.length p : Int) == (i : Int)) by rw [Bool.eq_iff_iff]; simp; omega]; rfl, hB5⟩
    · have hpf : purR t i = false := by rw [Hpe.out]; have := Hsb.out; simp at this; simp [this]
      refine wp_region_lat (by kernel_rfl) (by kernel_rfl) ?_
      repeat (first | go_big_quiet_skip | (go_big_quiet_want; first | ((first | (refine quiet_load_row 39 (.tmp 19) rfl n 33 rfl (bytesV ck.s) _ (lat_range HsR.out ln) Tryz.underlying39 rfl (by rw [sizeDg, Hsl.out]) ?_) | (refine quiet_load_row 39 (.tmp 21) rfl n 1 rfl (bytesV ck.k) _ (lat_range HkR.out ln) Tryz.underlying39 rfl (by rw [sizeDg, Hkl.out]) ?_) | (refine quiet_run (.bool true) (fun w => by rw [run_neq_dg _ (.tmp 20) (.tmp 23) rfl ck.s (sumL ck.k) Hck.out.2 (sumL_len _) rfl rfl, Hsb.out]) ?_)); simp only [Act.put, List.setIfInBounds_toArray, List.set_cons_zero, List.set_cons_succ]; go_big_quiet_on) | (go_big_quiet_op; first | go_big_quiet_on | go_big_quiet_call ((exact Calls.lat (Hchk.out _))))))
      refine wpQuiet_nil ?_
      rintro W4 ⟨⟨_, hb4⟩, rfl⟩
      have hB4 := Below.then hB hb4 hB.size
      have Hpf := Lib.hid hpf
      clear hpf
      go_wp2
      go_ret
      exact ⟨by rw [Hpf.out]; rfl, hB4⟩
  · cases g2 : (ck.n != -1)
    · cases sb
      · refine wp_region_lat (by kernel_rfl) (by kernel_rfl) ?_
        repeat (first | go_big_quiet_skip | (go_big_quiet_want; first | ((first | (refine quiet_load_row 39 (.tmp 19) rfl n 33 rfl (bytesV ck.s) _ (lat_range HsR.out ln) Tryz.underlying39 rfl (by rw [sizeDg, Hsl.out]) ?_) | (refine quiet_load_row 39 (.tmp 21) rfl n 1 rfl (bytesV ck.k) _ (lat_range HkR.out ln) Tryz.underlying39 rfl (by rw [sizeDg, Hkl.out]) ?_) | (refine quiet_run (.bool false) (fun w => by rw [run_neq_dg _ (.tmp 20) (.tmp 23) rfl ck.s (sumL ck.k) Hck.out.2 (sumL_len _) rfl rfl, Hsb.out]) ?_)); simp only [Act.put, List.setIfInBounds_toArray, List.set_cons_zero, List.set_cons_succ]; go_big_quiet_on) | (go_big_quiet_op; first | go_big_quiet_on | go_big_quiet_call ((exact Calls.lat (Hchk.out _))))))
        refine wpQuiet_nil ?_
        rintro W4 ⟨⟨_, hb4⟩, rfl⟩
        have HkR4 := Lib.hid (rangeAt_below HkR.out hb4 xc.lt)
        have ln4 : n < W4.heap.size := Nat.lt_of_lt_of_le xc.lt hb4.size
        have hB4 := Below.then hB hb4 hB.size
        have hs2 : ck.s = sumL ck.k := by have := Hsb.out; simpa using this
        have hpf : purR t i = decide (posN ck.k t.length p = i) := by rw [Hpe.out]; simp at g2; simp [g2, hs2]
        have Hpf := Lib.hid hpf
        clear hpf hs2 cN cQ ln
        go_wp2_with fail
        refine wp_region_lat (by kernel_rfl) (by kernel_rfl) ?_
        repeat (first | go_big_quiet_skip | (go_big_quiet_want; first | (((refine quiet_load_row 39 (.tmp 26) rfl n 1 rfl (bytesV ck.k) _ (lat_range HkR4.out ln4) Tryz.underlying39 rfl (by rw [sizeDg, Hkl.out]) ?_)); simp only [Act.put, List.setIfInBounds_toArray, List.set_cons_zero, List.set_cons_succ]; go_big_quiet_on) | (go_big_quiet_op; first | go_big_quiet_on | go_big_quiet_call ((exact Calls.lat (Hidx.out _))))))
        refine wpQuiet_nil ?_
        rintro W5 ⟨⟨_, hb5⟩, rfl⟩
        have hB5 := Below.then hB4 hb5 hB4.size
        go_wp2
        go_ret
        exact ⟨by rw [Hpf.out, show decide (posN ck.k t.length p = i) = ((posN ck.k t.length p : Int) == (i : Int)) by rw [Bool.eq_iff_iff]; simp; omega]; rfl, hB5⟩
      · have hpf : purR t i = false := by rw [Hpe.out]; have := Hsb.out; simp at this; simp [this]
        refine wp_region_lat (by kernel_rfl) (by kernel_rfl) ?_
        repeat (first | go_big_quiet_skip | (go_big_quiet_want; first | ((first | (refine quiet_load_row 39 (.tmp 19) rfl n 33 rfl (bytesV ck.s) _ (lat_range HsR.out ln) Tryz.underlying39 rfl (by rw [sizeDg, Hsl.out]) ?_) | (refine quiet_load_row 39 (.tmp 21) rfl n 1 rfl (bytesV ck.k) _ (lat_range HkR.out ln) Tryz.underlying39 rfl (by rw [sizeDg, Hkl.out]) ?_) | (refine quiet_run (.bool true) (fun w => by rw [run_neq_dg _ (.tmp 20) (.tmp 23) rfl ck.s (sumL ck.k) Hck.out.2 (sumL_len _) rfl rfl, Hsb.out]) ?_)); simp only [Act.put, List.setIfInBounds_toArray, List.set_cons_zero, List.set_cons_succ]; go_big_quiet_on) | (go_big_quiet_op; first | go_big_quiet_on | go_big_quiet_call ((exact Calls.lat (Hchk.out _))))))
        refine wpQuiet_nil ?_
        rintro W4 ⟨⟨_, hb4⟩, rfl⟩
        have hB4 := Below.then hB hb4 hB.size
        have Hpf := Lib.hid hpf
        clear hpf
        go_wp2
        go_ret
        exact ⟨by rw [Hpf.out]; rfl, hB4⟩
    · have hpf : purR t i = false := by rw [Hpe.out]; simp at g1 g2; simp [g1, g2]
      have Hpf := Lib.hid hpf
      clear hpf
      refine wp_region_lat (by kernel_rfl) (by kernel_rfl) ?_
      repeat (first | go_big_quiet_skip | (go_big_quiet_want; first | ((first | (refine quiet_load_row 39 (.tmp 19) rfl n 33 rfl (bytesV ck.s) _ (lat_range HsR.out ln) Tryz.underlying39 rfl (by rw [sizeDg, Hsl.out]) ?_) | (refine quiet_load_row 39 (.tmp 21) rfl n 1 rfl (bytesV ck.k) _ (lat_range HkR.out ln) Tryz.underlying39 rfl (by rw [sizeDg, Hkl.out]) ?_) | (refine quiet_run (.bool false) (fun w => by rw [run_neq_dg _ (.tmp 20) (.tmp 23) rfl ck.s (sumL ck.k) Hck.out.2 (sumL_len _) rfl rfl, Hsb.out]) ?_)); simp only [Act.put, List.setIfInBounds_toArray, List.set_cons_zero, List.set_cons_succ]; go_big_quiet_on) | (go_big_quiet_op; first | go_big_quiet_on | go_big_quiet_call ((exact Calls.lat (Hchk.out _))))))
      refine wpQuiet_nil ?_
      rintro W4 ⟨⟨_, hb4⟩, rfl⟩
      have hB4 := Below.then hB hb4 hB.size
      go_wp2
      go_ret
      exact ⟨by rw [Hpf.out]; rfl, hB4⟩
end Go.Proofs.YtebgopdmeghmhaaGreat
