/- iblt.pure: whether a cell holds a single digest. -/
import Derived.Test.YtebgopdmeghmhaaGreatIbPut
import Derived.RangeFuncFrom
namespace Go.Proofs.YtebgopdmeghmhaaGreat
open Go.RowKit Go.Shelf

def pureB (t : List Cl) (i : Nat) : Bool := ((t.getD i Cl.zero).n == 1 || (t.getD i Cl.zero).n == -1) && (decide ((t.getD i Cl.zero).s = sumL (t.getD i Cl.zero).k) && (List.range 3).any fun p => posN (t.getD i Cl.zero).k t.length p == i)
theorem mem_parts (p : Fin 3) : p ∈ parts 3 := by unfold parts; rw [List.take_of_length_le (by simp)]; exact List.mem_finRange _
section
attribute [local go_sem] Oper.semAt_some
set_option maxRecDepth 100000 in
set_option maxHeartbeats 1600000 in
theorem iblt_pure {S : Nat → Prop} (w : World) (v : Value) (t : List Cl) (i : Nat) (h : TabR S w v t) (hl3 : 3 ≤ t.length) (hm : t.length ≤ 1000000) (hi : i < t.length) :
    Calls Tryz.prog 48 #[v, .int .i64 i] w fun e w' => e = .returned (.bool (pureB t i)) ∧ Below w.heap.size w w' := by
  obtain ⟨b, off, c, rfl, _, _, _, hb, hra⟩ := h.at hi
  obtain ⟨ic, hic, hz, hs, hby⟩ := info_parts infoCl
  obtain ⟨z0, hz0⟩ : ∃ z, (.agg (#[.int .i64 0] ++ Array.replicate 64 (.int .u8 0)) : Value) = .agg z := ⟨_, rfl⟩
  have hzl : z0.size = 65 := by injection hz0 with e; rw [← e]; simp
  rw [hz0] at hz
  have hgd : t.getD i Cl.zero = t[i] := by simp [List.getD_eq_getElem?_getD, List.getElem?_eq_getElem hi]
  have hck : t[i].ok := h.2 _ (List.getElem_mem hi)
  have hpe : pureB t i = ((t[i].n == 1 || t[i].n == -1) && (decide (t[i].s = sumL t[i].k) && (List.range 3).any fun p => posN t[i].k t.length p == i)) := by unfold pureB; rw [hgd]
  generalize t[i] = ck at *
  have hi' : (i : Int) < (t.length : Int) := by omega
  have hB1 := (Below.one w (.cells #[.int .i64 i] 3)).alloc (by simp) (.cells #[.bool false] 4)
  have xi := (Bx.new w #[.int .i64 i] 3).alloc (.cells #[.bool false] 4)
  have xr := Bx.new (w.alloc (.cells #[.int .i64 i] 3)) #[.bool false] 4
  simp only [World.size_alloc] at xr
  have hW2z : ((w.alloc (.cells #[.int .i64 i] 3)).alloc (.cells #[.bool false] 4)).heap.size = w.heap.size + 2 := by simp
  have hra2 := rangeAt_below (rangeAt_below hra ((Below.refl w.heap.size w).alloc (Nat.le_refl _) (.cells #[.int .i64 i] 3)) hb) ((Below.refl w.heap.size (w.alloc (.cells #[.int .i64 i] 3))).alloc (by simp) (.cells #[.bool false] 4)) hb
  have hcells := fun F nF hF hro => cells_in F nF hF hro ck.k (t.length : Int)
  have hchk := iblt_check ck.k hck.1
  have Hck := Lib.hid hck
  have Hra := Lib.hid hra2
  have Hzl := Lib.hid hzl
  have Hpe := Lib.hid hpe
  have Hcells := Lib.hid hcells
  have Hchk := Lib.hid hchk
  have Hcl := Lib.hid (Cl.len hck)
  have Hck1 := Lib.hid (Cl.one ck)
  have Hzi : Hid ((Tryz.prog.info? 67).map (·.zero) = some (some (.agg z0))) := Lib.hid (by rw [hic]; simp [hz])
  have hkl : (bytesV ck.k).length = 32 := by rw [bytesV_len, hck.1]
  have hsl : (bytesV ck.s).length = 32 := by rw [bytesV_len, hck.2]
  have Hkl := Lib.hid hkl
  have Hsl := Lib.hid hsl
  have Hi := Lib.hid hi
  have Hhb := Lib.hid hb
  have cI := xi.cell 0
  simp at cI
  clear h hra hra2 hck hz hz0 hzl hgd hpe hcells hchk hkl hsl hs hby hic hi hb
  obtain ⟨nF, hn⟩ : ∃ n, 9 ≤ n := ⟨9, Nat.le_refl _⟩
  refine (callsIn_wide (n := nF)).1 ?_
  have hro : Fence.wide.round = none := rfl
  have hn1 : 1 ≤ nF := by omega
  refine callsIn_of_wp_marks Tryz.func48 rfl trivial ?_ hro
  simp only [Tryz.ntmps48, List.size_toArray, List.length_cons, List.length_nil, Nat.reduceAdd, Nat.reduceSub, Array.replicate_succ, Array.replicate_zero, List.push_toArray, List.append_toArray, List.nil_append, List.cons_append]
  gi_wp2_with (first
    | (refine wpListIn_load_mid rfl 67 (.tmp 9) rfl b (off + i * 65) (by first | rfl | (simp)) ck.cells _ Hra.out Tryz.underlying67 rfl (by rw [sizeCl, Hcl.out]) ?_)
    | (refine wpListIn_alloc_row rfl 67 rfl z0 Hzi.out ?_)
    | (refine wpListIn_store_mid rfl 67 (.tmp 5) (.tmp 10) rfl ((w.alloc (.cells #[.int .i64 i] 3)).alloc (.cells #[.bool false] 4)).heap.size 0 ck.cells.toArray rfl rfl (there_bx (Bx.new _ z0 67) (by rw [Hzl.out, List.size_toArray, Hcl.out]; exact Nat.le_refl _)) (by rw [sizeCl, List.size_toArray, Hcl.out]) Hck1.out ?_))
  simp only [Act.put, List.setIfInBounds_toArray, List.set_cons_zero, List.set_cons_succ]
  have xc := (Bx.new ((w.alloc (.cells #[.int .i64 i] 3)).alloc (.cells #[.bool false] 4)) z0 67).setAll (cx := ck.cells.toArray) (by rw [Hzl.out, List.size_toArray, Hcl.out])
  have xi := (xi.alloc (.cells z0 67)).setCellsO (b' := w.heap.size + 2) (by omega) ck.cells.toArray.toList 0
  have xr := (xr.alloc (.cells z0 67)).setCellsO (b' := w.heap.size + 2) (by omega) ck.cells.toArray.toList 0
  have hB := below_setCells (b := w.heap.size + 2) (by omega) ck.cells.toArray.toList 0 _ (hB1.alloc (by omega) (.cells z0 67))
  rw [hW2z] at xc ⊢
  generalize (((w.alloc (.cells #[.int .i64 i] 3)).alloc (.cells #[.bool false] 4)).alloc (.cells z0 67)).setCells (w.heap.size + 2) 0 ck.cells.toArray.toList = W3 at *
  obtain ⟨n, hnn⟩ : ∃ n, w.heap.size + 2 = n := ⟨_, rfl⟩
  rw [hnn] at xc ⊢
  have hr0 : W3.rangeAt n 0 ck.cells := xc.range
  have cN := Cl.count_at hr0
  have HkR := Lib.hid (Cl.keys_at Hck.out hr0)
  have HsR := Lib.hid (Cl.sums_at Hck.out hr0)
  have ln := xc.lt
  have lr := xr.lt
  have li := xi.lt
  obtain ⟨sb, hsb⟩ : ∃ sb, (!decide (ck.s = sumL ck.k)) = sb := ⟨_, rfl⟩
  have Hsb := Lib.hid hsb
  have Hnn := Lib.hid hnn
  have cR := xr.cell 0
  have fR := xr.free 0
  simp at cR
  have hdead : ∀ W, Bx W (w.heap.size + 1) #[.bool false] 4 → Bx (W.setCell ⟨w.heap.size + 1, 0, none⟩ (.bool false)) (w.heap.size + 1) #[.bool false] 4 := fun W h => by simpa using h.set 0 (.bool false)
  clear hr0 hsb hnn hB1 hW2z cI
  have cQ := Lat.cells W3
  cases g1 : (ck.n != 1)
  · cases sb
    · refine wpIn_wide.2 ?_
      refine wp_region_lat (by kernel_rfl) (by kernel_rfl) ?_
      repeat (first | go_big_quiet_skip | (go_big_quiet_want; first | ((first | (refine quiet_load_row 39 (.tmp 20) rfl n 33 rfl (bytesV ck.s) _ (lat_range HsR.out ln) Tryz.underlying39 rfl (by rw [sizeDg, Hsl.out]) ?_) | (refine quiet_load_row 39 (.tmp 22) rfl n 1 rfl (bytesV ck.k) _ (lat_range HkR.out ln) Tryz.underlying39 rfl (by rw [sizeDg, Hkl.out]) ?_) | (refine quiet_run (.bool false) (fun w => by rw [run_neq_dg _ (.tmp 21) (.tmp 24) rfl ck.s (sumL ck.k) Hck.out.2 (sumL_len _) rfl rfl, Hsb.out]) ?_)); simp only [Act.put, List.setIfInBounds_toArray, List.set_cons_zero, List.set_cons_succ]; go_big_quiet_on) | (go_big_quiet_op; first | go_big_quiet_on | go_big_quiet_call ((exact Calls.lat (Hchk.out _))))))
      refine wpQuiet_nil ?_
      rintro W4 ⟨⟨_, hb4⟩, rfl⟩
      have xr4 := xr.belowAll hb4
      have xi4 := xi.belowAll hb4
      have xc4 := xc.belowAll hb4
      have hB4 := Below.then hB hb4 hB.size
      have cR4 := xr4.cell 0
      have fR4 := xr4.free 0
      have lr4 := xr4.lt
      simp at cR4
      clear cR fR cN cQ lr li ln
      have hkR := rangeAt_below HkR.out hb4 xc.lt
      have HkR4 := Lib.hid hkR
      clear hkR
      gi_wp2_with (first
        | (refine wpListIn_load_mid rfl 39 (.tmp 27) rfl n 1 (by first | rfl | (simp)) (bytesV ck.k) _ HkR4.out Tryz.underlying39 rfl (by rw [sizeDg, Hkl.out]) ?_)
        | (refine ⟨trivial, ?_⟩; gi_at_call 72; refine (Hcells.out Fence.wide _ trivial hro _).mono ?_; rintro e w' ⟨rfl, rfl⟩))
      have yn := Bx.newAt (W4.alloc (.cells (bytesV ck.k).toArray 39)) #[.int .i64 t.length] 3 (W4.heap.size + 1) (by simp)
      have yd := (Bx.newAt W4 (bytesV ck.k).toArray 39 W4.heap.size rfl).alloc (.cells #[.int .i64 t.length] 3)
      have xr5 := (xr4.alloc (.cells (bytesV ck.k).toArray 39)).alloc (.cells #[.int .i64 t.length] 3)
      have xi5 := (xi4.alloc (.cells (bytesV ck.k).toArray 39)).alloc (.cells #[.int .i64 t.length] 3)
      have hB5 := (hB4.alloc hB4.size (.cells (bytesV ck.k).toArray 39)).alloc (by have := hB4.size; simp; omega) (.cells #[.int .i64 t.length] 3)
      have hz5 : ((W4.alloc (.cells (bytesV ck.k).toArray 39)).alloc (.cells #[.int .i64 t.length] 3)).heap.size = W4.heap.size + 2 := by simp
      generalize (W4.alloc (.cells (bytesV ck.k).toArray 39)).alloc (.cells #[.int .i64 t.length] 3) = W0 at *
      refine wpIn_rangeFunc_ownH hro hn1 (gf := 97) (lb := #[.pointer (some ⟨W4.heap.size + 1, 0, none⟩), .pointer (some ⟨W4.heap.size, 0, none⟩)]) rfl trivial (enters_of Tryz.func97 (by kernel_rfl) rfl)
        (cells_stops Fence.wide (nF - 1) trivial hro (by omega) ck.k Hck.out.1 t.length hl3 hm (W4.heap.size + 1) W4.heap.size (fun b => b = W4.heap.size ∨ b = W4.heap.size + 1) (.inr rfl) (.inl rfl) W0 yn yd) KeepT.trans
        (fun W l o o' hl _ _ _ => KeepT.put W o' (by rintro (h | h) <;> omega)) (Below.refl _ _) (fun _ => rfl)
        (fun (pre : List (Fin 3)) W => (∀ p ∈ pre, posN ck.k t.length p.1 ≠ i) ∧ Bx W (w.heap.size + 1) #[.bool false] 4 ∧ Bx W w.heap.size #[.int .i64 i] 3 ∧ Below w.heap.size w W)
        (fun cc (pre : List (Fin 3)) W => cc = .ret ∧ (∃ p ∈ pre, posN ck.k t.length p.1 = i) ∧ Bx W (w.heap.size + 1) #[.bool true] 4 ∧ Below w.heap.size w W)
        (fun s A B row hs hg' hr => ⟨hs.1, bx_own hs.2.1 hg' (fun r e => (hr r e).2), bx_own hs.2.2.1 hg' (fun r e => (hr r e).2), hs.2.2.2.grown hg' hs.2.2.2.size (fun k e => by have := (hr k e).1; omega)⟩)
        (fun cc => fun s A B row hs hg' hr => ⟨hs.1, hs.2.1, bx_own hs.2.2.1 hg' (fun r e => (hr r e).2), hs.2.2.2.grown hg' hs.2.2.2.size (fun k e => by have := (hr k e).1; omega)⟩)
        ⟨by simp, xr5, xi5, hB5⟩
        (fun (x : Fin 3) a' _ => a' = { tmps := #[.slice (some ⟨b, off, none⟩) t.length c, .int .i64 i, undef, .pointer (some ⟨w.heap.size, 0, none⟩), .pointer (some ⟨w.heap.size + 1, 0, none⟩), .pointer (some ⟨n, 0, none⟩), .int .i64 (posN ck.k t.length x.1), .slice (some ⟨b, off, none⟩) t.length c, .int .i64 i, .pointer (some ⟨b, off + i * 65, none⟩), .agg ck.cells.toArray, .pointer (some ⟨n, 0, none⟩), .int .i64 ck.n, .bool false, .bool false, undef, undef, undef, .bool false, .bool false, .pointer (some ⟨n, 33, none⟩), .agg (bytesV ck.s).toArray, .pointer (some ⟨n, 1, none⟩), .agg (bytesV ck.k).toArray, dgV (sumL ck.k), .bool false, .bool false, .pointer (some ⟨n, 1, none⟩), .agg (bytesV ck.k).toArray, .slice (some ⟨b, off, none⟩) t.length c, .int .i64 t.length, .func (.func 97) #[] #[.pointer (some ⟨W4.heap.size + 1, 0, none⟩), .pointer (some ⟨W4.heap.size, 0, none⟩)], .int .i64 (posN ck.k t.length x.1), undef, undef, undef], defers := [] })
        (fun x a' _ _ _ _ h _ _ => h)
        ?assign ?body ?done ?stop
      case assign =>
        intro l pre x W K hI hK
        gi_wp2
        exact hK _ _ (KeepsFrom.refl _ _) (KeepT.refl _ _) hI rfl
      case body =>
        rintro l pre x a' W hl hrec ⟨hne, xr, xi, hB⟩ rfl hlt
        have cI := xi.cell 0
        have cR := xr.cell 0
        have fR := xr.free 0
        have li := xi.lt
        have lr := xr.lt
        simp at cI cR
        cases hx : ((posN ck.k t.length x.1 : Int) == (i : Int))
        · gi_wp2
          exact ⟨KeepsFrom.refl _ _, KeepT.refl _ _, fun p hp' => (List.mem_append.1 hp').elim (hne p) (fun e => by simp at e; subst e; have := hx; simp at this; omega), xr, xi, hB⟩
        · gi_wp2
          refine ⟨(KeepsOthers.setCell _ _ _).from _, rfl, ⟨x, by simp, by have := hx; simp at this; omega⟩, ?_, below_set1 (b := w.heap.size + 1) hB (by omega)⟩
          simpa using xr.set 0 (.bool true)
      case done =>
        rintro D ys W hD rfl ⟨hne, xr, xi, hB⟩ hK
        have hpf : pureB t i = false := by
          rw [Hpe.out]
          have : ((List.range 3).any fun p => posN ck.k t.length p == i) = false := by
            rw [List.any_eq_false]
            intro p hp
            have := hne ⟨p, List.mem_range.1 hp⟩ (mem_parts _)
            simpa using this
          rw [this]; simp
        have Hpf := Lib.hid hpf
        have cR := xr.cell 0
        have fR := xr.free 0
        have lr := xr.lt
        simp at cR
        clear hpf
        gi_wp2
        have hK' := (KeepsOthers.setCell W ⟨w.heap.size + 1, 0, none⟩ (.bool false)).same D _ hK rfl
        refine ⟨by simp, .inl ⟨_, _, rfl, run_takeDeferred hK', ?_⟩⟩
        have c5 := (bx_own (hdead _ xr) (grownBy_putObj' _ D (.deferred none)) (fun r e => by cases e; exact ⟨_, hK', rfl⟩)).cell 0
        simp at c5
        refine ⟨.bool false, ?_, by rw [Hpf.out], (below_set1 (b := w.heap.size + 1) hB (by omega)).trans (belowK_b (w := w) (Nat.le_refl _) _ D _ _ (by have := hB4.size; omega) hK' rfl rfl)⟩
        simp [results, Tryz.results48, go_sem, c5]
      case stop =>
        rintro D cc pre W hD _ ⟨rfl, ⟨p, hp, hpi⟩, xr, hB⟩ hK
        have hpf : pureB t i = true := by
          rw [Hpe.out]
          have hany : ((List.range 3).any fun p => posN ck.k t.length p == i) = true := by
            rw [List.any_eq_true]
            exact ⟨p.1, List.mem_range.2 p.2, by simpa using hpi⟩
          have hs2 : ck.s = sumL ck.k := by have := Hsb.out; simpa using this
          rw [hany]
          simp at g1; simp [g1, hs2]
        have Hpf := Lib.hid hpf
        clear hpf
        gi_wp2
        refine ⟨by simp, .inl ⟨_, _, rfl, run_takeDeferred hK, ?_⟩⟩
        have c5 := (bx_own xr (grownBy_putObj' _ D (.deferred none)) (fun r e => by cases e; exact ⟨_, hK, rfl⟩)).cell 0
        simp at c5
        refine ⟨.bool true, ?_, by rw [Hpf.out], hB.trans (belowK_b (w := w) (Nat.le_refl _) _ D _ _ (by have := hB4.size; omega) hK rfl rfl)⟩
        simp [results, Tryz.results48, go_sem, c5]
    · have hpf : pureB t i = false := by rw [Hpe.out]; have := Hsb.out; simp at this; simp [this]
      have Hpf := Lib.hid hpf
      clear hpf
      refine wpIn_wide.2 ?_
      refine wp_region_lat (by kernel_rfl) (by kernel_rfl) ?_
      repeat (first | go_big_quiet_skip | (go_big_quiet_want; first | ((first | (refine quiet_load_row 39 (.tmp 20) rfl n 33 rfl (bytesV ck.s) _ (lat_range HsR.out ln) Tryz.underlying39 rfl (by rw [sizeDg, Hsl.out]) ?_) | (refine quiet_load_row 39 (.tmp 22) rfl n 1 rfl (bytesV ck.k) _ (lat_range HkR.out ln) Tryz.underlying39 rfl (by rw [sizeDg, Hkl.out]) ?_) | (refine quiet_run (.bool true) (fun w => by rw [run_neq_dg _ (.tmp 21) (.tmp 24) rfl ck.s (sumL ck.k) Hck.out.2 (sumL_len _) rfl rfl, Hsb.out]) ?_)); simp only [Act.put, List.setIfInBounds_toArray, List.set_cons_zero, List.set_cons_succ]; go_big_quiet_on) | (go_big_quiet_op; first | go_big_quiet_on | go_big_quiet_call ((exact Calls.lat (Hchk.out _))))))
      refine wpQuiet_nil ?_
      rintro W4 ⟨⟨_, hb4⟩, rfl⟩
      have xr4 := xr.belowAll hb4
      have xi4 := xi.belowAll hb4
      have xc4 := xc.belowAll hb4
      have hB4 := Below.then hB hb4 hB.size
      have cR4 := xr4.cell 0
      have fR4 := xr4.free 0
      have lr4 := xr4.lt
      simp at cR4
      gi_wp2
      have xr5 := hdead _ xr4
      refine ⟨.bool false, ?_, by rw [Hpf.out], below_set1 (b := w.heap.size + 1) hB4 (by omega)⟩
      have c5 := xr5.cell 0
      simp at c5
      simp [results, Tryz.results48, go_sem, c5]
  · cases g2 : (ck.n != -1)
    · cases sb
      · refine wpIn_wide.2 ?_
        refine wp_region_lat (by kernel_rfl) (by kernel_rfl) ?_
        repeat (first | go_big_quiet_skip | (go_big_quiet_want; first | ((first | (refine quiet_load_row 39 (.tmp 20) rfl n 33 rfl (bytesV ck.s) _ (lat_range HsR.out ln) Tryz.underlying39 rfl (by rw [sizeDg, Hsl.out]) ?_) | (refine quiet_load_row 39 (.tmp 22) rfl n 1 rfl (bytesV ck.k) _ (lat_range HkR.out ln) Tryz.underlying39 rfl (by rw [sizeDg, Hkl.out]) ?_) | (refine quiet_run (.bool false) (fun w => by rw [run_neq_dg _ (.tmp 21) (.tmp 24) rfl ck.s (sumL ck.k) Hck.out.2 (sumL_len _) rfl rfl, Hsb.out]) ?_)); simp only [Act.put, List.setIfInBounds_toArray, List.set_cons_zero, List.set_cons_succ]; go_big_quiet_on) | (go_big_quiet_op; first | go_big_quiet_on | go_big_quiet_call ((exact Calls.lat (Hchk.out _))))))
        refine wpQuiet_nil ?_
        rintro W4 ⟨⟨_, hb4⟩, rfl⟩
        have xr4 := xr.belowAll hb4
        have xi4 := xi.belowAll hb4
        have xc4 := xc.belowAll hb4
        have hB4 := Below.then hB hb4 hB.size
        have cR4 := xr4.cell 0
        have fR4 := xr4.free 0
        have lr4 := xr4.lt
        simp at cR4
        clear cR fR cN cQ lr li ln
        have hkR := rangeAt_below HkR.out hb4 xc.lt
        have HkR4 := Lib.hid hkR
        clear hkR
        gi_wp2_with (first
          | (refine wpListIn_load_mid rfl 39 (.tmp 27) rfl n 1 (by first | rfl | (simp)) (bytesV ck.k) _ HkR4.out Tryz.underlying39 rfl (by rw [sizeDg, Hkl.out]) ?_)
          | (refine ⟨trivial, ?_⟩; gi_at_call 72; refine (Hcells.out Fence.wide _ trivial hro _).mono ?_; rintro e w' ⟨rfl, rfl⟩))
        have yn := Bx.newAt (W4.alloc (.cells (bytesV ck.k).toArray 39)) #[.int .i64 t.length] 3 (W4.heap.size + 1) (by simp)
        have yd := (Bx.newAt W4 (bytesV ck.k).toArray 39 W4.heap.size rfl).alloc (.cells #[.int .i64 t.length] 3)
        have xr5 := (xr4.alloc (.cells (bytesV ck.k).toArray 39)).alloc (.cells #[.int .i64 t.length] 3)
        have xi5 := (xi4.alloc (.cells (bytesV ck.k).toArray 39)).alloc (.cells #[.int .i64 t.length] 3)
        have hB5 := (hB4.alloc hB4.size (.cells (bytesV ck.k).toArray 39)).alloc (by have := hB4.size; simp; omega) (.cells #[.int .i64 t.length] 3)
        have hz5 : ((W4.alloc (.cells (bytesV ck.k).toArray 39)).alloc (.cells #[.int .i64 t.length] 3)).heap.size = W4.heap.size + 2 := by simp
        generalize (W4.alloc (.cells (bytesV ck.k).toArray 39)).alloc (.cells #[.int .i64 t.length] 3) = W0 at *
        refine wpIn_rangeFunc_ownH hro hn1 (gf := 97) (lb := #[.pointer (some ⟨W4.heap.size + 1, 0, none⟩), .pointer (some ⟨W4.heap.size, 0, none⟩)]) rfl trivial (enters_of Tryz.func97 (by kernel_rfl) rfl)
          (cells_stops Fence.wide (nF - 1) trivial hro (by omega) ck.k Hck.out.1 t.length hl3 hm (W4.heap.size + 1) W4.heap.size (fun b => b = W4.heap.size ∨ b = W4.heap.size + 1) (.inr rfl) (.inl rfl) W0 yn yd) KeepT.trans
          (fun W l o o' hl _ _ _ => KeepT.put W o' (by rintro (h | h) <;> omega)) (Below.refl _ _) (fun _ => rfl)
          (fun (pre : List (Fin 3)) W => (∀ p ∈ pre, posN ck.k t.length p.1 ≠ i) ∧ Bx W (w.heap.size + 1) #[.bool false] 4 ∧ Bx W w.heap.size #[.int .i64 i] 3 ∧ Below w.heap.size w W)
          (fun cc (pre : List (Fin 3)) W => cc = .ret ∧ (∃ p ∈ pre, posN ck.k t.length p.1 = i) ∧ Bx W (w.heap.size + 1) #[.bool true] 4 ∧ Below w.heap.size w W)
          (fun s A B row hs hg' hr => ⟨hs.1, bx_own hs.2.1 hg' (fun r e => (hr r e).2), bx_own hs.2.2.1 hg' (fun r e => (hr r e).2), hs.2.2.2.grown hg' hs.2.2.2.size (fun k e => by have := (hr k e).1; omega)⟩)
          (fun cc => fun s A B row hs hg' hr => ⟨hs.1, hs.2.1, bx_own hs.2.2.1 hg' (fun r e => (hr r e).2), hs.2.2.2.grown hg' hs.2.2.2.size (fun k e => by have := (hr k e).1; omega)⟩)
          ⟨by simp, xr5, xi5, hB5⟩
          (fun (x : Fin 3) a' _ => a' = { tmps := #[.slice (some ⟨b, off, none⟩) t.length c, .int .i64 i, undef, .pointer (some ⟨w.heap.size, 0, none⟩), .pointer (some ⟨w.heap.size + 1, 0, none⟩), .pointer (some ⟨n, 0, none⟩), .int .i64 (posN ck.k t.length x.1), .slice (some ⟨b, off, none⟩) t.length c, .int .i64 i, .pointer (some ⟨b, off + i * 65, none⟩), .agg ck.cells.toArray, .pointer (some ⟨n, 0, none⟩), .int .i64 ck.n, .bool true, .bool true, .pointer (some ⟨n, 0, none⟩), .int .i64 ck.n, .bool false, .bool false, .bool false, .pointer (some ⟨n, 33, none⟩), .agg (bytesV ck.s).toArray, .pointer (some ⟨n, 1, none⟩), .agg (bytesV ck.k).toArray, dgV (sumL ck.k), .bool false, .bool false, .pointer (some ⟨n, 1, none⟩), .agg (bytesV ck.k).toArray, .slice (some ⟨b, off, none⟩) t.length c, .int .i64 t.length, .func (.func 97) #[] #[.pointer (some ⟨W4.heap.size + 1, 0, none⟩), .pointer (some ⟨W4.heap.size, 0, none⟩)], .int .i64 (posN ck.k t.length x.1), undef, undef, undef], defers := [] })
          (fun x a' _ _ _ _ h _ _ => h)
          ?assign ?body ?done ?stop
        case assign =>
          intro l pre x W K hI hK
          gi_wp2
          exact hK _ _ (KeepsFrom.refl _ _) (KeepT.refl _ _) hI rfl
        case body =>
          rintro l pre x a' W hl hrec ⟨hne, xr, xi, hB⟩ rfl hlt
          have cI := xi.cell 0
          have cR := xr.cell 0
          have fR := xr.free 0
          have li := xi.lt
          have lr := xr.lt
          simp at cI cR
          cases hx : ((posN ck.k t.length x.1 : Int) == (i : Int))
          · gi_wp2
            exact ⟨KeepsFrom.refl _ _, KeepT.refl _ _, fun p hp' => (List.mem_append.1 hp').elim (hne p) (fun e => by simp at e; subst e; have := hx; simp at this; omega), xr, xi, hB⟩
          · gi_wp2
            refine ⟨(KeepsOthers.setCell _ _ _).from _, rfl, ⟨x, by simp, by have := hx; simp at this; omega⟩, ?_, below_set1 (b := w.heap.size + 1) hB (by omega)⟩
            simpa using xr.set 0 (.bool true)
        case done =>
          rintro D ys W hD rfl ⟨hne, xr, xi, hB⟩ hK
          have hpf : pureB t i = false := by
            rw [Hpe.out]
            have : ((List.range 3).any fun p => posN ck.k t.length p == i) = false := by
              rw [List.any_eq_false]
              intro p hp
              have := hne ⟨p, List.mem_range.1 hp⟩ (mem_parts _)
              simpa using this
            rw [this]; simp
          have Hpf := Lib.hid hpf
          have cR := xr.cell 0
          have fR := xr.free 0
          have lr := xr.lt
          simp at cR
          clear hpf
          gi_wp2
          have hK' := (KeepsOthers.setCell W ⟨w.heap.size + 1, 0, none⟩ (.bool false)).same D _ hK rfl
          refine ⟨by simp, .inl ⟨_, _, rfl, run_takeDeferred hK', ?_⟩⟩
          have c5 := (bx_own (hdead _ xr) (grownBy_putObj' _ D (.deferred none)) (fun r e => by cases e; exact ⟨_, hK', rfl⟩)).cell 0
          simp at c5
          refine ⟨.bool false, ?_, by rw [Hpf.out], (below_set1 (b := w.heap.size + 1) hB (by omega)).trans (belowK_b (w := w) (Nat.le_refl _) _ D _ _ (by have := hB4.size; omega) hK' rfl rfl)⟩
          simp [results, Tryz.results48, go_sem, c5]
        case stop =>
          rintro D cc pre W hD _ ⟨rfl, ⟨p, hp, hpi⟩, xr, hB⟩ hK
          have hpf : pureB t i = true := by
            rw [Hpe.out]
            have hany : ((List.range 3).any fun p => posN ck.k t.length p == i) = true := by
              rw [List.any_eq_true]
              exact ⟨p.1, List.mem_range.2 p.2, by simpa using hpi⟩
            have hs2 : ck.s = sumL ck.k := by have := Hsb.out; simpa using this
            rw [hany]
            simp at g2; simp [g2, hs2]
          have Hpf := Lib.hid hpf
          clear hpf
          gi_wp2
          refine ⟨by simp, .inl ⟨_, _, rfl, run_takeDeferred hK, ?_⟩⟩
          have c5 := (bx_own xr (grownBy_putObj' _ D (.deferred none)) (fun r e => by cases e; exact ⟨_, hK, rfl⟩)).cell 0
          simp at c5
          refine ⟨.bool true, ?_, by rw [Hpf.out], hB.trans (belowK_b (w := w) (Nat.le_refl _) _ D _ _ (by have := hB4.size; omega) hK rfl rfl)⟩
          simp [results, Tryz.results48, go_sem, c5]
      · have hpf : pureB t i = false := by rw [Hpe.out]; have := Hsb.out; simp at this; simp [this]
        have Hpf := Lib.hid hpf
        clear hpf
        refine wpIn_wide.2 ?_
        refine wp_region_lat (by kernel_rfl) (by kernel_rfl) ?_
        repeat (first | go_big_quiet_skip | (go_big_quiet_want; first | ((first | (refine quiet_load_row 39 (.tmp 20) rfl n 33 rfl (bytesV ck.s) _ (lat_range HsR.out ln) Tryz.underlying39 rfl (by rw [sizeDg, Hsl.out]) ?_) | (refine quiet_load_row 39 (.tmp 22) rfl n 1 rfl (bytesV ck.k) _ (lat_range HkR.out ln) Tryz.underlying39 rfl (by rw [sizeDg, Hkl.out]) ?_) | (refine quiet_run (.bool true) (fun w => by rw [run_neq_dg _ (.tmp 21) (.tmp 24) rfl ck.s (sumL ck.k) Hck.out.2 (sumL_len _) rfl rfl, Hsb.out]) ?_)); simp only [Act.put, List.setIfInBounds_toArray, List.set_cons_zero, List.set_cons_succ]; go_big_quiet_on) | (go_big_quiet_op; first | go_big_quiet_on | go_big_quiet_call ((exact Calls.lat (Hchk.out _))))))
        refine wpQuiet_nil ?_
        rintro W4 ⟨⟨_, hb4⟩, rfl⟩
        have xr4 := xr.belowAll hb4
        have xi4 := xi.belowAll hb4
        have xc4 := xc.belowAll hb4
        have hB4 := Below.then hB hb4 hB.size
        have cR4 := xr4.cell 0
        have fR4 := xr4.free 0
        have lr4 := xr4.lt
        simp at cR4
        gi_wp2
        have xr5 := hdead _ xr4
        refine ⟨.bool false, ?_, by rw [Hpf.out], below_set1 (b := w.heap.size + 1) hB4 (by omega)⟩
        have c5 := xr5.cell 0
        simp at c5
        simp [results, Tryz.results48, go_sem, c5]
    · have hpf : pureB t i = false := by rw [Hpe.out]; simp at g1 g2; simp [g1, g2]
      have Hpf := Lib.hid hpf
      clear hpf
      refine wpIn_wide.2 ?_
      refine wp_region_lat (by kernel_rfl) (by kernel_rfl) ?_
      repeat (first | go_big_quiet_skip | (go_big_quiet_want; first | ((first | (refine quiet_load_row 39 (.tmp 20) rfl n 33 rfl (bytesV ck.s) _ (lat_range HsR.out ln) Tryz.underlying39 rfl (by rw [sizeDg, Hsl.out]) ?_) | (refine quiet_load_row 39 (.tmp 22) rfl n 1 rfl (bytesV ck.k) _ (lat_range HkR.out ln) Tryz.underlying39 rfl (by rw [sizeDg, Hkl.out]) ?_) | (refine quiet_run (.bool false) (fun w => by rw [run_neq_dg _ (.tmp 21) (.tmp 24) rfl ck.s (sumL ck.k) Hck.out.2 (sumL_len _) rfl rfl, Hsb.out]) ?_)); simp only [Act.put, List.setIfInBounds_toArray, List.set_cons_zero, List.set_cons_succ]; go_big_quiet_on) | (go_big_quiet_op; first | go_big_quiet_on | go_big_quiet_call ((exact Calls.lat (Hchk.out _))))))
      refine wpQuiet_nil ?_
      rintro W4 ⟨⟨_, hb4⟩, rfl⟩
      have xr4 := xr.belowAll hb4
      have xi4 := xi.belowAll hb4
      have xc4 := xc.belowAll hb4
      have hB4 := Below.then hB hb4 hB.size
      have cR4 := xr4.cell 0
      have fR4 := xr4.free 0
      have lr4 := xr4.lt
      simp at cR4
      gi_wp2
      have xr5 := hdead _ xr4
      refine ⟨.bool false, ?_, by rw [Hpf.out], below_set1 (b := w.heap.size + 1) hB4 (by omega)⟩
      have c5 := xr5.cell 0
      simp at c5
      simp [results, Tryz.results48, go_sem, c5]
end
end Go.Proofs.YtebgopdmeghmhaaGreat
