/- Regions that draw their order: operations taken ahead, the list of operations written out. 'T{x, y}', two elements of many cells; parts of a list of digests. (*answer).add: ranges that are not listed. (*answer).add: ranges with few digests of one's own. (*answer).add: ranges that are halved. (*answer).add; the function value of Answer. -/
import Derived.Test.YtebgopdmeghmhaaGreatLazyFrom
import Derived.Test.YtebgopdmeghmhaaGreatLazyIn
import Derived.Test.YtebgopdmeghmhaaGreatRcAcc
import Derived.Test.YtebgopdmeghmhaaGreatRcAdd1
import Derived.Test.YtebgopdmeghmhaaGreatRcDesc
import Derived.Test.YtebgopdmeghmhaaGreatRcStart
namespace Go.Proofs.YtebgopdmeghmhaaGreat
open Go.RowKit
section
variable {P : Program} {md : Region.Mode} {Q : Exit → Act → World → Prop} {a : Act} {w : World}
theorem wp_region_start {id : Nat} {l : List Oper} (listed : Array Bool) (fuel : Nat) (hm : P.follows .mixedOrders = true) (hl : Array.replicate l.length false = listed) (hf : l.length = fuel) (h : wpAny P .any l.toArray Q fuel listed a w.drew) : (Code.region id l.toArray true).wp P Q a w := by
  refine wp_region_any hm ?_
  have e : l.toArray.size = fuel := by simpa using hf
  rw [e, ← hf, hl, hf]
  exact h
theorem wpAny_tk1 {o0 o1 : Oper} {rest : List Oper} {v : Value} {fuel : Nat} {listed : Array Bool} (listed' : Array Bool) (hs : Region.noSelect (o0 :: o1 :: rest).toArray = true) (hf : Region.free md (o0 :: o1 :: rest).toArray listed 1 = true) (hr : (Region.ready md (o0 :: o1 :: rest).toArray listed).contains 1 = true)
    (hQ : ∀ c b w, Q (.panic c) (b.put o1.dst v) w → Q (.panic c) b w) (hw : Region.wanted o1 (yielded (o0 :: o1 :: rest).toArray a.tmps) = true) (hrun : ∀ w, (execOp a.eval o1).run P w = .ok (.value v) w) (hl : listed.setIfInBounds 1 true = listed')
    (h : wpAny P md (o0 :: o1 :: rest).toArray Q fuel listed' (a.put o1.dst v) w) : wpAny P md (o0 :: o1 :: rest).toArray Q (fuel + 1) listed a w :=
  wpAny_take (i := 1) (oi := o1) (v := v) rfl hs hf hr hQ (Or.inl ⟨hw, hrun⟩) (hl ▸ h)
theorem wpAny_tk3 {o0 o1 o2 o3 : Oper} {rest : List Oper} {v : Value} {fuel : Nat} {listed : Array Bool} (listed' : Array Bool) (hs : Region.noSelect (o0 :: o1 :: o2 :: o3 :: rest).toArray = true) (hf : Region.free md (o0 :: o1 :: o2 :: o3 :: rest).toArray listed 3 = true) (hr : (Region.ready md (o0 :: o1 :: o2 :: o3 :: rest).toArray listed).contains 3 = true)
    (hQ : ∀ c b w, Q (.panic c) (b.put o3.dst v) w → Q (.panic c) b w) (hw : Region.wanted o3 (yielded (o0 :: o1 :: o2 :: o3 :: rest).toArray a.tmps) = true) (hrun : ∀ w, (execOp a.eval o3).run P w = .ok (.value v) w) (hl : listed.setIfInBounds 3 true = listed')
    (h : wpAny P md (o0 :: o1 :: o2 :: o3 :: rest).toArray Q fuel listed' (a.put o3.dst v) w) : wpAny P md (o0 :: o1 :: o2 :: o3 :: rest).toArray Q (fuel + 1) listed a w :=
  wpAny_take (i := 3) (oi := o3) (v := v) rfl hs hf hr hQ (Or.inl ⟨hw, hrun⟩) (hl ▸ h)
end
end Go.Proofs.YtebgopdmeghmhaaGreat
namespace Go.Proofs.YtebgopdmeghmhaaGreat
open Go.RowKit
section
variable {P : Program} {ops : Array Oper} {rest : List Oper} {o : Oper} {a : Act} {Q : Exit → Act → World → Prop} {w : World}
theorem range_zero2 {zl : List Value} {m : Nat} (hz : zl.length = m) (hm : 0 < m) : ((Array.range (2 * m)).map (zl.toArray[· % zl.toArray.size]!)) = (zl ++ zl).toArray := by
  apply Array.ext_getElem?
  intro j
  by_cases hj : j < 2 * m
  · have hmod : j % m < zl.length := by rw [hz]; exact Nat.mod_lt _ hm
    have e1 : ((Array.range (2 * m)).map (zl.toArray[· % zl.toArray.size]!))[j]? = some zl[j % m] := by
      rw [Array.getElem?_map, Array.getElem?_range, if_pos hj]
      simp only [Option.map_some, List.size_toArray, hz]
      rw [getElem!_pos zl.toArray (j % m) (by simpa using hmod)]
      rfl
    rw [e1, List.getElem?_toArray]
    rcases Nat.lt_or_ge j m with h | h
    · rw [List.getElem?_append_left (by omega), List.getElem?_eq_getElem (by omega)]
      congr 1
      congr 1
      exact Nat.mod_eq_of_lt h
    · rw [List.getElem?_append_right (by omega), List.getElem?_eq_getElem (by omega)]
      congr 1
      congr 1
      rw [hz, Nat.mod_eq_sub_mod h, Nat.mod_eq_of_lt (by omega)]
  · rw [Array.getElem?_eq_none (by simp; omega), Array.getElem?_eq_none (by simp; omega)]
theorem run_buildSlice2 (t e : TypeId) (i : TypeInfo) (z : List Value) (m : Nat) (ht : P.underlying t = some (.slice e)) (hi : P.info? e = some i) (hz : i.zero = some (.agg z.toArray)) (hs : i.size = m) (hzl : z.length = m) (hm : 0 < m ∧ m ≤ 8388608) (cs ds : List Value) (hc : cs.length = m) (hd : ds.length = m) :
    (Instr.buildSlice t 2 #[(0, .agg cs.toArray), (1, .agg ds.toArray)]).run P w = .ok (.slice (some ⟨w.heap.size, 0, none⟩) 2 2) (w.alloc (.cells (cs ++ ds).toArray e)) := by
  have hf := fill_step (place := fun i => some (i * m, m)) (i := 0) (v := .agg cs.toArray) (rest := [(1, .agg ds.toArray)]) [] z cs z (by simp [hzl]) rfl (by rw [hzl, hc])
  have hf2 := fill_step (place := fun i => some (i * m, m)) (i := 1) (v := .agg ds.toArray) (rest := []) cs z ds [] (by simp [hzl, hc]) rfl (by rw [hzl, hd])
  simp only [List.nil_append, List.append_nil] at hf hf2
  have hr := range_zero2 hzl hm.1
  have h0 : ¬ (2 * m = 0) := by omega
  have h1 : ¬ (2 * m > 2 ^ 24) := by omega
  have sz : ∀ w, (sizeOf e).run P w = .ok m w := fun w => by simp [sizeOf, typeInfo, hi, hs]
  have zv : ∀ w, (zeroValue e).run P w = .ok (.agg z.toArray) w := fun w => by simp [zeroValue, typeInfo, hi, hz]
  unfold Instr.buildSlice
  simp only [Sem.run_bind, run_underlying ht, Result.andThen_ok, sz, h0, h1, if_false, Sem.run_ite, zv, Value.cells, Sem.run_pure, hr, hf, hf2]
  simp [Instr.fill, newRow]
theorem lz_buildR2 {W : World} (t : TypeId) (x y : Operand) (hop : o.op = .buildSlice t 2 #[(0, x), (1, y)]) (e : TypeId) (i : TypeInfo) (z : List Value) (m : Nat) (ht : P.underlying t = some (.slice e)) (hi : P.info? e = some i) (hz : i.zero = some (.agg z.toArray)) (hs : i.size = m) (hzl : z.length = m) (hm : 0 < m ∧ m ≤ 8388608) (cs ds : List Value) (hc : cs.length = m) (hd : ds.length = m) (hx : a.eval x = .agg cs.toArray) (hy : a.eval y = .agg ds.toArray)
    {Post : Value → World → Prop} (h : Post (.slice (some ⟨W.heap.size, 0, none⟩) 2 2) (W.alloc (.cells (cs ++ ds).toArray e))) : lzAt P o a W Post := by
  have hr := run_buildSlice2 (P := P) (w := W) t e i z m ht hi hz hs hzl hm cs ds hc hd
  unfold lzAt execOp
  simp only [hop, List.map_toArray, List.map_cons, List.map_nil, hx, hy, Sem.run_bind, hr, Result.andThen_ok, Sem.run_pure]
  exact h
end
theorem DigR.take {S : Nat → Prop} {w : World} {b off n c q : Nat} {l : List (List UInt8)} (h : DigR S w (.slice (some ⟨b, off, none⟩) n c) l) (hn : l.length = n) (hq : q ≤ n) : DigR S w (.slice (some ⟨b, off, none⟩) q c) (l.take q) := by
  subst hn
  obtain ⟨⟨o, c', e, hs, hr⟩, hok⟩ := h
  rw [digC_size] at e hs
  obtain ⟨rfl, rfl⟩ : (some (⟨b, off, none⟩ : Addr)) = o ∧ c = c' := by simpa using e
  have hl : (l.take q).length = q := by rw [List.length_take]; omega
  have hc1 : l.length ≤ c ∧ c ≤ maxLen := by
    rcases hs with ⟨h0, _⟩ | ⟨_, _, h1⟩
    · cases h0
    · exact h1
  refine ⟨⟨_, c, by rw [digC_size, hl], by rw [digC_size, hl]; exact .inr ⟨_, rfl, by omega, hc1.2⟩, ?_⟩, fun d hd => hok d (List.mem_of_mem_take hd)⟩
  have hcut := hr.cut 0 (q * 32)
  rw [Nat.add_zero, List.drop_zero] at hcut
  have e1 : (digC l).flatten.take (q * 32) = (digC (l.take q)).flatten := by
    have hfl : (digC l).flatten = (digC (l.take q)).flatten ++ (digC (l.drop q)).flatten := by rw [← digC_app, List.take_append_drop]
    have hln : (digC (l.take q)).flatten.length = q * 32 := by rw [digC_flat (fun d hd => hok d (List.mem_of_mem_take hd)), hl]
    rw [hfl, ← hln, List.take_left]
  rw [← e1]
  exact hcut
theorem DigR.drop {S : Nat → Prop} {w : World} {b off n c q : Nat} {l : List (List UInt8)} (h : DigR S w (.slice (some ⟨b, off, none⟩) n c) l) (hn : l.length = n) (hq : q ≤ n) : DigR S w (.slice (some ⟨b, off + q * 32, none⟩) (n - q) (c - q)) (l.drop q) := by
  subst hn
  obtain ⟨⟨o, c', e, hs, hr⟩, hok⟩ := h
  rw [digC_size] at e hs
  obtain ⟨rfl, rfl⟩ : (some (⟨b, off, none⟩ : Addr)) = o ∧ c = c' := by simpa using e
  have hl : (l.drop q).length = l.length - q := List.length_drop
  have hc1 : l.length ≤ c ∧ c ≤ maxLen := by
    rcases hs with ⟨h0, _⟩ | ⟨_, _, h1⟩
    · cases h0
    · exact h1
  refine ⟨⟨_, c - q, by rw [digC_size, hl], by rw [digC_size, hl]; exact .inr ⟨_, rfl, by omega, by omega⟩, ?_⟩, fun d hd => hok d (List.mem_of_mem_drop hd)⟩
  have hfl : (digC l).flatten = (digC (l.take q)).flatten ++ (digC (l.drop q)).flatten := by rw [← digC_app, List.take_append_drop]
  have hln : (digC (l.take q)).flatten.length = q * 32 := by rw [digC_flat (fun d hd => hok d (List.mem_of_mem_take hd)), List.length_take]; congr 1; omega
  have hcut := hr.cut (q * 32) ((digC (l.drop q)).flatten.length)
  have e1 : ((digC l).flatten.drop (q * 32)).take ((digC (l.drop q)).flatten.length) = (digC (l.drop q)).flatten := by
    rw [hfl, ← hln, List.drop_left, List.take_length]
  rw [e1] at hcut
  exact hcut
end Go.Proofs.YtebgopdmeghmhaaGreat
namespace Go.Proofs.YtebgopdmeghmhaaGreat
open Go.RowKit

theorem infoRg3 : (Tryz.prog.info? 41).map (fun i => (i.zero, i.size, i.bytes)) = some (some (.agg (Rg.zero.cells (.slice none 0 0)).toArray), 99, 136) := by kernel_rfl
theorem lz_buildR {P : Program} {o : Oper} {a : Act} {W : World} (t : TypeId) (x : Operand) (hop : o.op = .buildSlice t 1 #[(0, x)]) (e : TypeId) (i : TypeInfo) (z : List Value) (m : Nat) (ht : P.underlying t = some (.slice e)) (hi : P.info? e = some i) (hz : i.zero = some (.agg z.toArray)) (hs : i.size = m) (hzl : z.length = m) (hm : 0 < m ∧ m ≤ 16777216) (cs : List Value) (hc : cs.length = m) (hx : a.eval x = .agg cs.toArray)
    {Post : Value → World → Prop} (h : Post (.slice (some ⟨W.heap.size, 0, none⟩) 1 1) (W.alloc (.cells cs.toArray e))) : lzAt P o a W Post := by
  have hr := run_buildSlice1 (P := P) (w := W) t e i z m ht hi hz hs hzl hm cs hc
  unfold lzAt execOp
  simp [hop, hx, hr, Result.andThen]
  exact h
set_option maxRecDepth 100000 in
set_option maxHeartbeats 4000000 in
theorem rc_add_same (w : World) (base g : Nat) (vr vw vg : Value) (R : List Rg) (W G : List (List UInt8)) (r : Rg) (vi ov : Value) (o : List (List UInt8))
    (hx : Bx w g #[vr, vw, vg] 52) (hg : g < base) (hbase : base ≤ w.heap.size) (hA : Acc w base vr vw vg R W G) (hr : r.ok) (hri : DigR (Off g vr vw vg) w vi r.ids) (ho : DigR (Off g vr vw vg) w ov o)
    (hmo : o.length ≤ 1000000) (hl : r.listed = false) (hs : sameP r o = true) :
    Calls Tryz.prog 27 #[.pointer (some ⟨g, 0, none⟩), r.V vi, ov] w (AddP w base g R W G r o) := by
  have Hpart : Hid (partR r o = [] ∧ partW r o = [] ∧ partG r o = []) := Lib.hid (by unfold partR partW partG; rw [hl, hs]; exact ⟨rfl, rfl, rfl⟩)
  obtain ⟨oi, ci, rfl⟩ : ∃ o c, vi = .slice o r.ids.length c := by obtain ⟨⟨o, c, e, _⟩, _⟩ := hri; rw [digC_size] at e; exact ⟨o, c, e⟩
  obtain ⟨oo, co, rfl⟩ : ∃ q c, ov = .slice q o.length c := by obtain ⟨⟨o, c, e, _⟩, _⟩ := ho; rw [digC_size] at e; exact ⟨o, c, e⟩
  have hb1 := Below.one w (.cells (r.cells (.slice oi r.ids.length ci)).toArray 41)
  have xr := Bx.new w (r.cells (.slice oi r.ids.length ci)).toArray 41
  have hA1 := AddSt.start hx hA hri ho hg hbase (.cells (r.cells (.slice oi r.ids.length ci)).toArray 41) xr
  have hRr : (w.alloc (.cells (r.cells (.slice oi r.ids.length ci)).toArray 41)).rangeAt w.heap.size 0 (r.cells (.slice oi r.ids.length ci)) := by simpa using xr.range
  have c64 : (w.alloc (.cells (r.cells (.slice oi r.ids.length ci)).toArray 41)).cell? ⟨w.heap.size, 64, none⟩ = some (.bool r.listed) := by simpa using Rg.listed_at hr hRr
  have c98 : (w.alloc (.cells (r.cells (.slice oi r.ids.length ci)).toArray 41)).cell? ⟨w.heap.size, 98, none⟩ = some (.slice oi r.ids.length ci) := by simpa using Rg.ids_at hr hRr
  have H1 := Lib.hid hA1
  have lr := xr.lt
  obtain ⟨cs, hcs⟩ : ∃ cs, (r.cells (.slice oi r.ids.length ci)).toArray = cs := ⟨_, rfl⟩
  have Hcs := Lib.hid hcs
  have Hr := Lib.hid hr
  rw [hl] at c64
  have c65 : (w.alloc (.cells (r.cells (.slice oi r.ids.length ci)).toArray 41)).cell? ⟨w.heap.size, 65, none⟩ = some (.int .i64 r.count) := by simpa using Rg.count_at hr hRr
  have HRp := Lib.hid (Rg.print_at hr hRr)
  have HRl := Lib.hid (Rg.low_at hr hRr)
  have HRh := Lib.hid (Rg.high_at hr hRr)
  have Hpl : Hid ((bytesV r.print).length = 32) := Lib.hid (by rw [bytesV_len, hr.2.2.1])
  have Hll : Hid ((bytesV r.low).length = 32) := Lib.hid (by rw [bytesV_len, hr.1])
  have Hhl : Hid ((bytesV r.high).length = 32) := Lib.hid (by rw [bytesV_len, hr.2.1])
  unfold Rg.V
  rw [hcs] at hb1 c64 c65 c98 H1 lr HRp HRl HRh ⊢
  obtain ⟨n, hn⟩ : ∃ n, o.length = n := ⟨_, rfl⟩
  have Hn := Lib.hid hn
  rw [hn] at H1 hmo ⊢
  obtain ⟨m, hm⟩ : ∃ m, r.ids.length = m := ⟨_, rfl⟩
  have Hm := Lib.hid hm
  rw [hm] at H1 c98 Hcs
  clear hx hA hri ho xr hRr hcs hr hl hm hA1 hg hbase
  have hs2 : r.count = n ∧ r.print = printD o := by
    unfold sameP at hs
    rw [hn] at hs
    simpa using hs
  have hcn : (r.count == (n : Int)) = true := beq_iff_eq.2 hs2.1
  have Hpp := Lib.hid hs2.2
  clear hs hs2 hn
  go_enter Tryz.func27, Tryz.ntmps27
  go_wp2
  generalize w.alloc (.cells cs 41) = w1 at *
  have cQ := Lat.cells w1
  have Hpr := Lib.hid (fun (yL : Lat w1) => rc_Print yL.w (.slice oo o.length co) o (by have := H1.out.o.below yL.h; rw [← Hn.out] at this; exact this) (by rw [Hn.out]; exact hmo))
  rw [Hn.out] at Hpr
  refine wp_region_lat (by kernel_rfl) (by kernel_rfl) ?_
  repeat (first | go_big_quiet_skip | (go_big_quiet_want; first | ((first | (refine quiet_load_row 39 (.tmp 73) rfl w.heap.size 66 (by first | rfl | (simp)) (bytesV r.print) _ (lat_range (by simpa using HRp.out) lr) Tryz.underlying39 rfl (by rw [sizeDg, Hpl.out]) ?_) | (refine quiet_run (.bool true) (fun w => by rw [run_eql_dg _ (.tmp 74) (.tmp 76) rfl r.print (printD o) (by have := Hpl.out; rwa [bytesV_len] at this) (printD_len o) rfl rfl, Hpp.out, decide_eq_true rfl]) ?_)); simp only [Act.put, List.setIfInBounds_toArray, List.set_cons_zero, List.set_cons_succ]; go_big_quiet_on) | (go_big_quiet_op; first | go_big_quiet_on | go_big_quiet_call ((exact Calls.lat (Hpr.out _))))))
  refine wpQuiet_nil ?_
  rintro W4 ⟨⟨_, hb4⟩, rfl⟩
  have H2 := H1.out.below hb4
  clear cQ c64 c65 c98
  go_wp2
  go_end0
  refine ⟨rfl, _, _, _, H2.x, ?_, H2.b⟩
  rw [Hpart.out.1, Hpart.out.2.1, Hpart.out.2.2, List.append_nil, List.append_nil, List.append_nil]
  exact H2.a
end Go.Proofs.YtebgopdmeghmhaaGreat
namespace Go.Proofs.YtebgopdmeghmhaaGreat
open Go.RowKit

set_option maxRecDepth 100000 in
set_option maxHeartbeats 8000000 in
theorem rc_add_few (w : World) (base g : Nat) (vr vw vg : Value) (R : List Rg) (W G : List (List UInt8)) (r : Rg) (vi ov : Value) (o : List (List UInt8))
    (hx : Bx w g #[vr, vw, vg] 52) (hg : g < base) (hbase : base ≤ w.heap.size) (hA : Acc w base vr vw vg R W G) (hr : r.ok) (hri : DigR (Off g vr vw vg) w vi r.ids) (ho : DigR (Off g vr vw vg) w ov o)
    (hmo : o.length ≤ 1000000) (hl : r.listed = false) (hs : sameP r o = false) (h8 : o.length ≤ 8) (hdo : Dok o) (hR : R.length ≤ 1000000000) :
    Calls Tryz.prog 27 #[.pointer (some ⟨g, 0, none⟩), r.V vi, ov] w (AddP w base g R W G r o) := by
  have Hpart : Hid (partR r o = [descR r.low r.high o] ∧ partW r o = [] ∧ partG r o = []) := Lib.hid (by unfold partR partW partG; rw [hl, hs, if_pos h8]; exact ⟨rfl, rfl, rfl⟩)
  have Hdok := Lib.hid (descR_ok hr.1 hr.2.1 hdo)
  obtain ⟨ir, hir, hzr, hsr, hbr⟩ := info_parts infoRg3
  have Hir := Lib.hid (And.intro hir (And.intro hzr (And.intro hsr hbr)))
  clear hir hzr hsr hbr hdo
  obtain ⟨oi, ci, rfl⟩ : ∃ o c, vi = .slice o r.ids.length c := by obtain ⟨⟨o, c, e, _⟩, _⟩ := hri; rw [digC_size] at e; exact ⟨o, c, e⟩
  obtain ⟨oo, co, rfl⟩ : ∃ q c, ov = .slice q o.length c := by obtain ⟨⟨o, c, e, _⟩, _⟩ := ho; rw [digC_size] at e; exact ⟨o, c, e⟩
  have hb1 := Below.one w (.cells (r.cells (.slice oi r.ids.length ci)).toArray 41)
  have xr := Bx.new w (r.cells (.slice oi r.ids.length ci)).toArray 41
  have hA1 := AddSt.start hx hA hri ho hg hbase (.cells (r.cells (.slice oi r.ids.length ci)).toArray 41) xr
  have hRr : (w.alloc (.cells (r.cells (.slice oi r.ids.length ci)).toArray 41)).rangeAt w.heap.size 0 (r.cells (.slice oi r.ids.length ci)) := by simpa using xr.range
  have c64 : (w.alloc (.cells (r.cells (.slice oi r.ids.length ci)).toArray 41)).cell? ⟨w.heap.size, 64, none⟩ = some (.bool r.listed) := by simpa using Rg.listed_at hr hRr
  have c98 : (w.alloc (.cells (r.cells (.slice oi r.ids.length ci)).toArray 41)).cell? ⟨w.heap.size, 98, none⟩ = some (.slice oi r.ids.length ci) := by simpa using Rg.ids_at hr hRr
  have H1 := Lib.hid hA1
  have lr := xr.lt
  obtain ⟨cs, hcs⟩ : ∃ cs, (r.cells (.slice oi r.ids.length ci)).toArray = cs := ⟨_, rfl⟩
  have Hcs := Lib.hid hcs
  have Hr := Lib.hid hr
  rw [hl] at c64
  have c65 : (w.alloc (.cells (r.cells (.slice oi r.ids.length ci)).toArray 41)).cell? ⟨w.heap.size, 65, none⟩ = some (.int .i64 r.count) := by simpa using Rg.count_at hr hRr
  have HRp := Lib.hid (Rg.print_at hr hRr)
  have HRl := Lib.hid (Rg.low_at hr hRr)
  have HRh := Lib.hid (Rg.high_at hr hRr)
  have Hpl : Hid ((bytesV r.print).length = 32) := Lib.hid (by rw [bytesV_len, hr.2.2.1])
  have Hll : Hid ((bytesV r.low).length = 32) := Lib.hid (by rw [bytesV_len, hr.1])
  have Hhl : Hid ((bytesV r.high).length = 32) := Lib.hid (by rw [bytesV_len, hr.2.1])
  unfold Rg.V
  rw [hcs] at hb1 c64 c65 c98 H1 lr HRp HRl HRh ⊢
  obtain ⟨n, hn⟩ : ∃ n, o.length = n := ⟨_, rfl⟩
  have Hn := Lib.hid hn
  rw [hn] at H1 hmo ⊢
  obtain ⟨m, hm⟩ : ∃ m, r.ids.length = m := ⟨_, rfl⟩
  have Hm := Lib.hid hm
  rw [hm] at H1 c98 Hcs
  clear hx hA hri ho xr hRr hcs hr hl hm hA1 hg hbase
  have Hs := Lib.hid hs
  have h8n : (n : Int) ≤ 8 := by omega
  clear hs hn h8
  go_enter Tryz.func27, Tryz.ntmps27
  go_wp2
  generalize w.alloc (.cells cs 41) = w1 at *
  have cQ := Lat.cells w1
  have Hpr := Lib.hid (fun (yL : Lat w1) => rc_Print yL.w (.slice oo o.length co) o (by have := H1.out.o.below yL.h; rw [← Hn.out] at this; exact this) (by rw [Hn.out]; exact hmo))
  rw [Hn.out] at Hpr
  cases hcn : (r.count == (n : Int))
  · refine wp_region_lat (by kernel_rfl) (by kernel_rfl) ?_
    repeat (first | go_big_quiet_skip | (go_big_quiet_want; first | ((fail); simp only [Act.put, List.setIfInBounds_toArray, List.set_cons_zero, List.set_cons_succ]; go_big_quiet_on) | (go_big_quiet_op; first | go_big_quiet_on | go_big_quiet_call ((fail)))))
    refine wpQuiet_nil ?_
    rintro W4 ⟨⟨_, hb4⟩, rfl⟩
    have H2 := Lib.hid (H1.out.below hb4)
    have HRl2 := Lib.hid (rangeAt_below HRl.out hb4 lr)
    have HRh2 := Lib.hid (rangeAt_below HRh.out hb4 lr)
    have lr2 : w.heap.size < W4.heap.size := Nat.lt_of_lt_of_le lr hb4.size
    clear cQ c64 c65 c98 hcn H1 HRl HRh Hpr hb4
    go_wp2
    have cQ := Lat.cells W4
    have lg := H2.out.x.lt
    have g0 : W4.cell? ⟨g, 0, none⟩ = some vr := by rw [H2.out.x.cell]; rfl
    have Hds := Lib.hid (fun (yL : Lat W4) => rc_describe yL.w r.low r.high (by have := Hll.out; rwa [bytesV_len] at this) (by have := Hhl.out; rwa [bytesV_len] at this) (.slice oo o.length co) o (by have := H2.out.o.below yL.h; rw [← Hn.out] at this; exact this) (by rw [Hn.out]; exact hmo))
    rw [Hn.out] at Hds
    refine wp_region_move0 (by kernel_rfl) (.tmp 0) (.pointer (some ⟨g, 0, none⟩)) rfl rfl rfl (by kernel_rfl) (by kernel_rfl) (by kernel_rfl) (fun _ _ _ h => h) ?_
    simp only [Act.put, List.setIfInBounds_toArray, List.set_cons_zero, List.set_cons_succ]
    refine wpAny_lz (W0 := W4) 1 12 4 #[true, true, true, true, true, true, true, true, true, true, true, true, false, false, false, false] (fun i => if i = 2 then some (annK (.pointer (some ⟨g, 0, none⟩))) else if i = 10 then some ⟨fun q => (descR r.low r.high o).V (q.x 0), fun q X => DigR (fun b => W4.heap.size ≤ b) X (q.x 0) (descR r.low r.high o).ids⟩ else if i = 11 then some ⟨fun q => .slice (some ⟨q.lo, 0, none⟩) 1 1, fun q X => ∃ vi, Bx X q.lo ((descR r.low r.high o).cells vi).toArray 41 ∧ DigR (fun b => W4.heap.size ≤ b) X vi (descR r.low r.high o).ids⟩ else none) (by rfl) (by decide) (by rfl) (by rfl) (by kernel_rfl) (Below.refl _ _).drew ?_
    simp only [List.drop_succ_cons, List.drop_zero, List.take_succ_cons, List.take_zero]
    refine LW.block 1 2 (by rfl) (by kernel_rfl) (by kernel_rfl) ?_
    simp only [List.take_succ_cons, List.take_zero, List.drop_succ_cons, List.drop_zero]
    repeat (first | go_big_quiet_skip | (go_big_quiet_want; go_big_quiet_op; go_big_quiet_on))
    refine wpQuiet_nil ?_
    refine LW.lzy _ (by rfl) (by rfl) ?_ ?_
    · intro yL _
      exact lz_value ((by rfl))
    intro _
    simp only [Act.put, List.setIfInBounds_toArray, List.set_cons_zero, List.set_cons_succ]
    (try simp only [annK])
    refine LW.block 7 10 (by rfl) (by kernel_rfl) (by kernel_rfl) ?_
    simp only [List.take_succ_cons, List.take_zero, List.drop_succ_cons, List.drop_zero]
    repeat (first | go_big_quiet_skip | (go_big_quiet_want; first | ((first | (refine quiet_load_row 39 (.tmp 87) rfl w.heap.size 0 (by first | rfl | (simp)) (bytesV r.low) _ (lat_range (by simpa using HRl2.out) lr2) Tryz.underlying39 rfl (by rw [sizeDg, Hll.out]) ?_) | (refine quiet_load_row 39 (.tmp 89) rfl w.heap.size 32 (by first | rfl | (simp)) (bytesV r.high) _ (lat_range (by simpa using HRh2.out) lr2) Tryz.underlying39 rfl (by rw [sizeDg, Hhl.out]) ?_)); simp only [Act.put, List.setIfInBounds_toArray, List.set_cons_zero, List.set_cons_succ]; go_big_quiet_on) | (go_big_quiet_op; go_big_quiet_on)))
    refine wpQuiet_nil ?_
    refine LW.lzy _ (by rfl) (by rfl) ?_ ?_
    · intro yL _
      unfold lzAt
      go_simp
      refine Calls.mono (Hds.out yL) fun e w' ⟨u, he, hd, hb⟩ => ⟨_, he, hb, fun _ => u, rfl, fun w'' hb2 => (hd.below hb2).mono fun b hb3 => Nat.le_trans yL.h.size hb3.1⟩
    intro q10
    simp only [Act.put, List.setIfInBounds_toArray, List.set_cons_zero, List.set_cons_succ]
    refine LW.lzy _ (by rfl) (by rfl) ?_ ?_
    · intro yL hF
      have hd : DigR (fun b => W4.heap.size ≤ b) yL.w (q10.x 0) (descR r.low r.high o).ids := (hF 10 (by kernel_rfl)).get rfl rfl
      exact lz_buildR 32 (.tmp 92) rfl 41 ir (Rg.zero.cells (.slice none 0 0)) 99 Tryz.underlying32 Hir.out.1 Hir.out.2.1 Hir.out.2.2.1 zeroRg_len (by decide) ((descR r.low r.high o).cells (q10.x 0)) (Rg.len Hdok.out _) rfl ⟨Below.one _ _, fun _ => undef, rfl, fun w'' hb => ⟨q10.x 0, (Bx.new _ _ _).belowAll hb, (hd.below (Below.one _ _)).below hb⟩⟩
    intro q11
    simp only [Act.put, List.setIfInBounds_toArray, List.set_cons_zero, List.set_cons_succ]
    refine LW.done ?_
    intro W' hG'
    obtain ⟨vi2, hb11, hd11⟩ : ∃ vi, Bx W' q11.lo ((descR r.low r.high o).cells vi).toArray 41 ∧ DigR (fun b => W4.heap.size ≤ b) W' vi (descR r.low r.high o).ids := hG'.get 11 rfl rfl
    have H3 := Lib.hid (H2.out.below hG'.below)
    generalize q11.lo = k11 at *
    have hvi2 : vi2.oneCell' = true := by obtain ⟨⟨o, c, e, _⟩, _⟩ := hd11; rw [e]; rfl
    have hrow : RowAt (· = k11) W' (some ⟨k11, 0, none⟩) ((descR r.low r.high o).cells vi2) := by have := RowAt.bx hb11; simpa using this
    have Hrow := Lib.hid hrow
    have Hone := Lib.hid (Rg.one (descR r.low r.high o) vi2 hvi2)
    have Hlen := Lib.hid (Rg.len Hdok.out vi2)
    obtain ⟨vs, hvs, hown, hvd, _⟩ := H3.out.a.rs
    have Hown := Lib.hid hown
    have Hvs := Lib.hid hvs
    have Hvd := Lib.hid hvd
    have Hfar : Hid (DigR (Far base vr vw vg) W' vi2 (descR r.low r.high o).ids) := Lib.hid (hd11.mono fun b hb => ⟨Nat.le_trans H2.out.lb hb, fun e => by have := (H2.out.a.rs.lt e).2; omega, fun e => by have := (H2.out.a.ws.lt e).2; omega, fun e => by have := (H2.out.a.gs.lt e).2; omega⟩)
    clear hG' hb11 hd11 cQ g0 hvi2 hrow hown hvs hvd
    refine wpAny_ready (rs := [12]) (by kernel_rfl) (by simp) ?_
    refine AllReady.cons rfl (fun K hK => ?_) AllReady.nil
    refine wp_appK (.tmp 86) (.tmp 93) 32 rfl base 41 ir _ 99 136 Tryz.underlying32 Hir.out.1 Hir.out.2.1 Hir.out.2.2.1 Hir.out.2.2.2 (by simp [Value.cells, zeroRg_len]) (by decide) vr R.length (rgsC R vs).flatten rfl Hown.out (some ⟨k11, 0, none⟩) 1 1 ((descR r.low r.high o).cells vi2) rfl (fun h => by cases h) (by rw [Hlen.out]) Hrow.out Hone.out (by unfold maxLen; omega) (by omega) H3.out.lb ?_
    intro v5 w5 ho5 hg5 hk5
    refine hK _ _ ?_
    clear hK K
    have H4 := Lib.hid (H3.out.addR (X := [descR r.low r.high o]) (xs := [vi2]) Hvs.out Hvd.out (by simpa [rgsC] using ho5) (fun q hq => by rw [List.mem_singleton.1 hq]; exact Hdok.out) rfl (fun i hi => match i, hi with | 0, _ => Hfar.out) hg5 hk5)
    have x5 := H3.out.x.grown hg5 (fun e => by have := (H3.out.a.rs.lt e.symm).1; have := H3.out.lg; omega)
    obtain ⟨o5, m5, c5, rfl⟩ := ownsRow_slice ho5
    have d1 : w5.cell? ⟨g, 0, none⟩ = some vr := by rw [x5.cell]; rfl
    have f1 : w5.frozen? ⟨g, 0, none⟩ = false := x5.free 0
    clear ho5 hg5 hk5 x5 H3 Hown Hvs Hvd Hfar Hrow Hone
    refine wpAny_ready (rs := [13]) (by kernel_rfl) (by simp) ?_
    refine AllReady.cons rfl (fun K hK => ?_) AllReady.nil
    go_simp
    refine hK _ _ ?_
    clear hK K
    refine wpAny_ready (rs := [14]) (by kernel_rfl) (by simp) ?_
    refine AllReady.cons rfl (fun K hK => ?_) AllReady.nil
    go_simp
    refine hK _ _ ?_
    clear hK K
    refine wpAny_ready (rs := [15]) (by kernel_rfl) (by simp) ?_
    refine AllReady.cons rfl (fun K hK => ?_) AllReady.nil
    go_simp
    refine hK _ _ ?_
    clear hK K
    refine wpAny_done (by kernel_rfl) ?_ _
    clear d1 f1
    go_wp2
    go_end0
    refine ⟨rfl, _, _, _, H4.out.x, ?_, H4.out.b⟩
    rw [Hpart.out.1, Hpart.out.2.1, Hpart.out.2.2, List.append_nil, List.append_nil]
    exact H4.out.a
  · have hpp : decide (r.print = printD o) = false := by
      have h := Hs.out
      unfold sameP at h
      rw [Hn.out, decide_eq_true (beq_iff_eq.1 hcn), Bool.true_and] at h
      exact h
    have Hpp := Lib.hid hpp
    clear hpp
    refine wp_region_lat (by kernel_rfl) (by kernel_rfl) ?_
    repeat (first | go_big_quiet_skip | (go_big_quiet_want; first | ((first | (refine quiet_load_row 39 (.tmp 73) rfl w.heap.size 66 (by first | rfl | (simp)) (bytesV r.print) _ (lat_range (by simpa using HRp.out) lr) Tryz.underlying39 rfl (by rw [sizeDg, Hpl.out]) ?_) | (refine quiet_run (.bool false) (fun w => by rw [run_eql_dg _ (.tmp 74) (.tmp 76) rfl r.print (printD o) (by have := Hpl.out; rwa [bytesV_len] at this) (printD_len o) rfl rfl, Hpp.out]) ?_)); simp only [Act.put, List.setIfInBounds_toArray, List.set_cons_zero, List.set_cons_succ]; go_big_quiet_on) | (go_big_quiet_op; first | go_big_quiet_on | go_big_quiet_call ((exact Calls.lat (Hpr.out _))))))
    refine wpQuiet_nil ?_
    rintro W4 ⟨⟨_, hb4⟩, rfl⟩
    clear Hpp
    have H2 := Lib.hid (H1.out.below hb4)
    have HRl2 := Lib.hid (rangeAt_below HRl.out hb4 lr)
    have HRh2 := Lib.hid (rangeAt_below HRh.out hb4 lr)
    have lr2 : w.heap.size < W4.heap.size := Nat.lt_of_lt_of_le lr hb4.size
    clear cQ c64 c65 c98 hcn H1 HRl HRh Hpr hb4
    go_wp2
    have cQ := Lat.cells W4
    have lg := H2.out.x.lt
    have g0 : W4.cell? ⟨g, 0, none⟩ = some vr := by rw [H2.out.x.cell]; rfl
    have Hds := Lib.hid (fun (yL : Lat W4) => rc_describe yL.w r.low r.high (by have := Hll.out; rwa [bytesV_len] at this) (by have := Hhl.out; rwa [bytesV_len] at this) (.slice oo o.length co) o (by have := H2.out.o.below yL.h; rw [← Hn.out] at this; exact this) (by rw [Hn.out]; exact hmo))
    rw [Hn.out] at Hds
    refine wp_region_move0 (by kernel_rfl) (.tmp 0) (.pointer (some ⟨g, 0, none⟩)) rfl rfl rfl (by kernel_rfl) (by kernel_rfl) (by kernel_rfl) (fun _ _ _ h => h) ?_
    simp only [Act.put, List.setIfInBounds_toArray, List.set_cons_zero, List.set_cons_succ]
    refine wpAny_lz (W0 := W4) 1 12 4 #[true, true, true, true, true, true, true, true, true, true, true, true, false, false, false, false] (fun i => if i = 2 then some (annK (.pointer (some ⟨g, 0, none⟩))) else if i = 10 then some ⟨fun q => (descR r.low r.high o).V (q.x 0), fun q X => DigR (fun b => W4.heap.size ≤ b) X (q.x 0) (descR r.low r.high o).ids⟩ else if i = 11 then some ⟨fun q => .slice (some ⟨q.lo, 0, none⟩) 1 1, fun q X => ∃ vi, Bx X q.lo ((descR r.low r.high o).cells vi).toArray 41 ∧ DigR (fun b => W4.heap.size ≤ b) X vi (descR r.low r.high o).ids⟩ else none) (by rfl) (by decide) (by rfl) (by rfl) (by kernel_rfl) (Below.refl _ _).drew ?_
    simp only [List.drop_succ_cons, List.drop_zero, List.take_succ_cons, List.take_zero]
    refine LW.block 1 2 (by rfl) (by kernel_rfl) (by kernel_rfl) ?_
    simp only [List.take_succ_cons, List.take_zero, List.drop_succ_cons, List.drop_zero]
    repeat (first | go_big_quiet_skip | (go_big_quiet_want; go_big_quiet_op; go_big_quiet_on))
    refine wpQuiet_nil ?_
    refine LW.lzy _ (by rfl) (by rfl) ?_ ?_
    · intro yL _
      exact lz_value ((by rfl))
    intro _
    simp only [Act.put, List.setIfInBounds_toArray, List.set_cons_zero, List.set_cons_succ]
    (try simp only [annK])
    refine LW.block 7 10 (by rfl) (by kernel_rfl) (by kernel_rfl) ?_
    simp only [List.take_succ_cons, List.take_zero, List.drop_succ_cons, List.drop_zero]
    repeat (first | go_big_quiet_skip | (go_big_quiet_want; first | ((first | (refine quiet_load_row 39 (.tmp 87) rfl w.heap.size 0 (by first | rfl | (simp)) (bytesV r.low) _ (lat_range (by simpa using HRl2.out) lr2) Tryz.underlying39 rfl (by rw [sizeDg, Hll.out]) ?_) | (refine quiet_load_row 39 (.tmp 89) rfl w.heap.size 32 (by first | rfl | (simp)) (bytesV r.high) _ (lat_range (by simpa using HRh2.out) lr2) Tryz.underlying39 rfl (by rw [sizeDg, Hhl.out]) ?_)); simp only [Act.put, List.setIfInBounds_toArray, List.set_cons_zero, List.set_cons_succ]; go_big_quiet_on) | (go_big_quiet_op; go_big_quiet_on)))
    refine wpQuiet_nil ?_
    refine LW.lzy _ (by rfl) (by rfl) ?_ ?_
    · intro yL _
      unfold lzAt
      go_simp
      refine Calls.mono (Hds.out yL) fun e w' ⟨u, he, hd, hb⟩ => ⟨_, he, hb, fun _ => u, rfl, fun w'' hb2 => (hd.below hb2).mono fun b hb3 => Nat.le_trans yL.h.size hb3.1⟩
    intro q10
    simp only [Act.put, List.setIfInBounds_toArray, List.set_cons_zero, List.set_cons_succ]
    refine LW.lzy _ (by rfl) (by rfl) ?_ ?_
    · intro yL hF
      have hd : DigR (fun b => W4.heap.size ≤ b) yL.w (q10.x 0) (descR r.low r.high o).ids := (hF 10 (by kernel_rfl)).get rfl rfl
      exact lz_buildR 32 (.tmp 92) rfl 41 ir (Rg.zero.cells (.slice none 0 0)) 99 Tryz.underlying32 Hir.out.1 Hir.out.2.1 Hir.out.2.2.1 zeroRg_len (by decide) ((descR r.low r.high o).cells (q10.x 0)) (Rg.len Hdok.out _) rfl ⟨Below.one _ _, fun _ => undef, rfl, fun w'' hb => ⟨q10.x 0, (Bx.new _ _ _).belowAll hb, (hd.below (Below.one _ _)).below hb⟩⟩
    intro q11
    simp only [Act.put, List.setIfInBounds_toArray, List.set_cons_zero, List.set_cons_succ]
    refine LW.done ?_
    intro W' hG'
    obtain ⟨vi2, hb11, hd11⟩ : ∃ vi, Bx W' q11.lo ((descR r.low r.high o).cells vi).toArray 41 ∧ DigR (fun b => W4.heap.size ≤ b) W' vi (descR r.low r.high o).ids := hG'.get 11 rfl rfl
    have H3 := Lib.hid (H2.out.below hG'.below)
    generalize q11.lo = k11 at *
    have hvi2 : vi2.oneCell' = true := by obtain ⟨⟨o, c, e, _⟩, _⟩ := hd11; rw [e]; rfl
    have hrow : RowAt (· = k11) W' (some ⟨k11, 0, none⟩) ((descR r.low r.high o).cells vi2) := by have := RowAt.bx hb11; simpa using this
    have Hrow := Lib.hid hrow
    have Hone := Lib.hid (Rg.one (descR r.low r.high o) vi2 hvi2)
    have Hlen := Lib.hid (Rg.len Hdok.out vi2)
    obtain ⟨vs, hvs, hown, hvd, _⟩ := H3.out.a.rs
    have Hown := Lib.hid hown
    have Hvs := Lib.hid hvs
    have Hvd := Lib.hid hvd
    have Hfar : Hid (DigR (Far base vr vw vg) W' vi2 (descR r.low r.high o).ids) := Lib.hid (hd11.mono fun b hb => ⟨Nat.le_trans H2.out.lb hb, fun e => by have := (H2.out.a.rs.lt e).2; omega, fun e => by have := (H2.out.a.ws.lt e).2; omega, fun e => by have := (H2.out.a.gs.lt e).2; omega⟩)
    clear hG' hb11 hd11 cQ g0 hvi2 hrow hown hvs hvd
    refine wpAny_ready (rs := [12]) (by kernel_rfl) (by simp) ?_
    refine AllReady.cons rfl (fun K hK => ?_) AllReady.nil
    refine wp_appK (.tmp 86) (.tmp 93) 32 rfl base 41 ir _ 99 136 Tryz.underlying32 Hir.out.1 Hir.out.2.1 Hir.out.2.2.1 Hir.out.2.2.2 (by simp [Value.cells, zeroRg_len]) (by decide) vr R.length (rgsC R vs).flatten rfl Hown.out (some ⟨k11, 0, none⟩) 1 1 ((descR r.low r.high o).cells vi2) rfl (fun h => by cases h) (by rw [Hlen.out]) Hrow.out Hone.out (by unfold maxLen; omega) (by omega) H3.out.lb ?_
    intro v5 w5 ho5 hg5 hk5
    refine hK _ _ ?_
    clear hK K
    have H4 := Lib.hid (H3.out.addR (X := [descR r.low r.high o]) (xs := [vi2]) Hvs.out Hvd.out (by simpa [rgsC] using ho5) (fun q hq => by rw [List.mem_singleton.1 hq]; exact Hdok.out) rfl (fun i hi => match i, hi with | 0, _ => Hfar.out) hg5 hk5)
    have x5 := H3.out.x.grown hg5 (fun e => by have := (H3.out.a.rs.lt e.symm).1; have := H3.out.lg; omega)
    obtain ⟨o5, m5, c5, rfl⟩ := ownsRow_slice ho5
    have d1 : w5.cell? ⟨g, 0, none⟩ = some vr := by rw [x5.cell]; rfl
    have f1 : w5.frozen? ⟨g, 0, none⟩ = false := x5.free 0
    clear ho5 hg5 hk5 x5 H3 Hown Hvs Hvd Hfar Hrow Hone
    refine wpAny_ready (rs := [13]) (by kernel_rfl) (by simp) ?_
    refine AllReady.cons rfl (fun K hK => ?_) AllReady.nil
    go_simp
    refine hK _ _ ?_
    clear hK K
    refine wpAny_ready (rs := [14]) (by kernel_rfl) (by simp) ?_
    refine AllReady.cons rfl (fun K hK => ?_) AllReady.nil
    go_simp
    refine hK _ _ ?_
    clear hK K
    refine wpAny_ready (rs := [15]) (by kernel_rfl) (by simp) ?_
    refine AllReady.cons rfl (fun K hK => ?_) AllReady.nil
    go_simp
    refine hK _ _ ?_
    clear hK K
    refine wpAny_done (by kernel_rfl) ?_ _
    clear d1 f1
    go_wp2
    go_end0
    refine ⟨rfl, _, _, _, H4.out.x, ?_, H4.out.b⟩
    rw [Hpart.out.1, Hpart.out.2.1, Hpart.out.2.2, List.append_nil, List.append_nil]
    exact H4.out.a
end Go.Proofs.YtebgopdmeghmhaaGreat
namespace Go.Proofs.YtebgopdmeghmhaaGreat
open Go.RowKit

theorem midD_at {o : List (List UInt8)} {n q : Nat} (hn : o.length = n) (hq : q = n / 2) (h : q < o.length) : midD o = o[q] := by
  subst hn
  subst hq
  unfold midD
  rw [List.getD_eq_getElem?_getD, List.getElem?_eq_getElem h]
  rfl
set_option maxRecDepth 100000 in
set_option maxHeartbeats 8000000 in
theorem rc_add_split (w : World) (base g : Nat) (vr vw vg : Value) (R : List Rg) (W G : List (List UInt8)) (r : Rg) (vi ov : Value) (o : List (List UInt8))
    (hx : Bx w g #[vr, vw, vg] 52) (hg : g < base) (hbase : base ≤ w.heap.size) (hA : Acc w base vr vw vg R W G) (hr : r.ok) (hri : DigR (Off g vr vw vg) w vi r.ids) (ho : DigR (Off g vr vw vg) w ov o)
    (hmo : o.length ≤ 1000000) (hl : r.listed = false) (hs : sameP r o = false) (h8 : 8 < o.length) (hR : R.length ≤ 1000000000) :
    Calls Tryz.prog 27 #[.pointer (some ⟨g, 0, none⟩), r.V vi, ov] w (AddP w base g R W G r o) := by
  have Hpart : Hid (partR r o = [summR r.low (midD o) (o.take (o.length / 2)), summR (midD o) r.high (o.drop (o.length / 2))] ∧ partW r o = [] ∧ partG r o = []) := Lib.hid (by simp only [partR, partW, partG, hl, hs, Bool.false_eq_true, if_false]; rw [if_neg (by clear hbase hg hmo hR; omega)]; exact ⟨rfl, trivial, trivial⟩)
  obtain ⟨ir, hir, hzr, hsr, hbr⟩ := info_parts infoRg3
  have Hir := Lib.hid (And.intro hir (And.intro hzr (And.intro hsr hbr)))
  obtain ⟨idg, hidg, hzd, hsd, hbyd⟩ := info_parts infoDg
  obtain ⟨z0, hz0⟩ : ∃ z, (.agg (List.replicate 32 (Value.int .u8 0)).toArray : Value) = .agg z := ⟨_, rfl⟩
  have hzl : z0.size = 32 := by injection hz0 with e; rw [← e]; simp
  have Hzi : Hid ((Tryz.prog.info? 39).map (·.zero) = some (some (.agg z0))) := Lib.hid (by rw [hidg, ← hz0]; simp only [Option.map_some, hzd]; rfl)
  have Hzl := Lib.hid hzl
  have hml : (midD o).length = 32 := ho.2 _ (by
    unfold midD
    rw [List.getD_eq_getElem?_getD, List.getElem?_eq_getElem (by omega)]
    exact List.getElem_mem _)
  have Hmb : Hid ((bytesV (midD o)).length = 32) := Lib.hid (by rw [bytesV_len, hml])
  have Hm1 : Hid (∀ u ∈ bytesV (midD o), u.oneCell' = true) := Lib.hid (bytesV_one _)
  clear hir hzr hsr hbr hidg hzd hsd hbyd hz0 hzl hml
  obtain ⟨oi, ci, rfl⟩ : ∃ o c, vi = .slice o r.ids.length c := by obtain ⟨⟨o, c, e, _⟩, _⟩ := hri; rw [digC_size] at e; exact ⟨o, c, e⟩
  obtain ⟨oo, co, rfl⟩ : ∃ q c, ov = .slice q o.length c := by obtain ⟨⟨o, c, e, _⟩, _⟩ := ho; rw [digC_size] at e; exact ⟨o, c, e⟩
  have hb1 := Below.one w (.cells (r.cells (.slice oi r.ids.length ci)).toArray 41)
  have xr := Bx.new w (r.cells (.slice oi r.ids.length ci)).toArray 41
  have hA1 := AddSt.start hx hA hri ho hg hbase (.cells (r.cells (.slice oi r.ids.length ci)).toArray 41) xr
  have hRr : (w.alloc (.cells (r.cells (.slice oi r.ids.length ci)).toArray 41)).rangeAt w.heap.size 0 (r.cells (.slice oi r.ids.length ci)) := by simpa using xr.range
  have c64 : (w.alloc (.cells (r.cells (.slice oi r.ids.length ci)).toArray 41)).cell? ⟨w.heap.size, 64, none⟩ = some (.bool r.listed) := by simpa using Rg.listed_at hr hRr
  have c98 : (w.alloc (.cells (r.cells (.slice oi r.ids.length ci)).toArray 41)).cell? ⟨w.heap.size, 98, none⟩ = some (.slice oi r.ids.length ci) := by simpa using Rg.ids_at hr hRr
  have H1 := Lib.hid hA1
  have lr := xr.lt
  obtain ⟨cs, hcs⟩ : ∃ cs, (r.cells (.slice oi r.ids.length ci)).toArray = cs := ⟨_, rfl⟩
  have Hcs := Lib.hid hcs
  have Hr := Lib.hid hr
  rw [hl] at c64
  have c65 : (w.alloc (.cells (r.cells (.slice oi r.ids.length ci)).toArray 41)).cell? ⟨w.heap.size, 65, none⟩ = some (.int .i64 r.count) := by simpa using Rg.count_at hr hRr
  have HRp := Lib.hid (Rg.print_at hr hRr)
  have HRl := Lib.hid (Rg.low_at hr hRr)
  have HRh := Lib.hid (Rg.high_at hr hRr)
  have Hpl : Hid ((bytesV r.print).length = 32) := Lib.hid (by rw [bytesV_len, hr.2.2.1])
  have Hll : Hid ((bytesV r.low).length = 32) := Lib.hid (by rw [bytesV_len, hr.1])
  have Hhl : Hid ((bytesV r.high).length = 32) := Lib.hid (by rw [bytesV_len, hr.2.1])
  unfold Rg.V
  rw [hcs] at hb1 c64 c65 c98 H1 lr HRp HRl HRh ⊢
  obtain ⟨n, hn⟩ : ∃ n, o.length = n := ⟨_, rfl⟩
  have Hn := Lib.hid hn
  rw [hn] at H1 hmo ⊢
  obtain ⟨m, hm⟩ : ∃ m, r.ids.length = m := ⟨_, rfl⟩
  have Hm := Lib.hid hm
  rw [hm] at H1 c98 Hcs
  clear hx hA hri ho xr hRr hcs hr hl hm hA1 hg hbase
  have Hs := Lib.hid hs
  have h8n : ¬ (n : Int) ≤ 8 := by omega
  obtain ⟨q, hq⟩ : ∃ q, q = n / 2 := ⟨_, rfl⟩
  have Hq := Lib.hid hq
  have hq1 : 0 ≤ (q : Int) := by omega
  have hq2 : (q : Int) ≤ (n : Int) := by omega
  have hq3 : (q : Int) < (n : Int) := by omega
  have hqq : (n : Int) / 2 = (q : Int) := by omega
  have hqt : (n : Int).tdiv 2 = (q : Int) := by rw [Int.tdiv_eq_ediv_of_nonneg (by omega)]; omega
  clear hs hn h8 hq
  go_enter Tryz.func27, Tryz.ntmps27
  go_wp2
  generalize w.alloc (.cells cs 41) = w1 at *
  have cQ := Lat.cells w1
  have Hpr := Lib.hid (fun (yL : Lat w1) => rc_Print yL.w (.slice oo o.length co) o (by have := H1.out.o.below yL.h; rw [← Hn.out] at this; exact this) (by rw [Hn.out]; exact hmo))
  rw [Hn.out] at Hpr
  cases hcn : (r.count == (n : Int))
  · refine wp_region_lat (by kernel_rfl) (by kernel_rfl) ?_
    repeat (first | go_big_quiet_skip | (go_big_quiet_want; first | ((fail); simp only [Act.put, List.setIfInBounds_toArray, List.set_cons_zero, List.set_cons_succ]; go_big_quiet_on) | (go_big_quiet_op; first | go_big_quiet_on | go_big_quiet_call ((fail)))))
    refine wpQuiet_nil ?_
    rintro W4 ⟨⟨_, hb4⟩, rfl⟩
    have H2 := Lib.hid (H1.out.below hb4)
    have HRl2 := Lib.hid (rangeAt_below HRl.out hb4 lr)
    have HRh2 := Lib.hid (rangeAt_below HRh.out hb4 lr)
    have lr2 : w.heap.size < W4.heap.size := Nat.lt_of_lt_of_le lr hb4.size
    have hO2 := H2.out.o
    obtain ⟨b, off, c', e', hc1, hc2, _, hb, hra⟩ := hO2.at (i := q) (by rw [Hn.out]; omega)
    rw [Hn.out] at e' hc1
    obtain ⟨rfl, rfl⟩ : oo = some ⟨b, off, none⟩ ∧ co = c' := by simpa using e'
    have hmd := midD_at Hn.out Hq.out (by rw [Hn.out]; omega)
    rw [← hmd] at hra
    have Hra := Lib.hid hra
    have hb6 : Below W4.heap.size W4 ((W4.alloc (.cells z0 39)).setCells W4.heap.size 0 (bytesV (midD o)).toArray.toList) := below_setCells (Nat.le_refl _) _ _ _ (Below.one W4 (.cells z0 39))
    have xd := (Bx.new W4 z0 39).setAll (cx := (bytesV (midD o)).toArray) (by rw [Hzl.out, List.size_toArray, Hmb.out])
    have HXd : Hid (((W4.alloc (.cells z0 39)).setCells W4.heap.size 0 (bytesV (midD o)).toArray.toList).rangeAt W4.heap.size 0 (bytesV (midD o))) := Lib.hid (by simpa using xd.range)
    have lX := xd.lt
    have H5 := Lib.hid (H2.out.below hb6)
    have HRl5 := Lib.hid (rangeAt_below HRl2.out hb6 lr2)
    have HRh5 := Lib.hid (rangeAt_below HRh2.out hb6 lr2)
    have lr5 := Nat.lt_trans lr2 lX
    have hz5 := hb6.size
    unfold maxLen at hc2
    clear cQ c64 c65 c98 hcn H1 HRl HRh Hpr hb4 hO2 hmd hra hb6 xd e' hb HRl2 HRh2
    go_wp2_with (first
      | (refine wpList_load_mid rfl 39 (.tmp 13) rfl b (off + q * 32) (by first | rfl | (simp)) (bytesV (midD o)) _ Hra.out Tryz.underlying39 rfl (by rw [sizeDg, Hmb.out]) ?_)
      | (refine wpList_alloc_row rfl 39 rfl z0 Hzi.out ?_)
      | (refine wpList_store_mid rfl 39 (.tmp 7) (.tmp 14) rfl W4.heap.size 0 (bytesV (midD o)).toArray rfl rfl (there_bx (Bx.new W4 z0 39) (by rw [Hzl.out, List.size_toArray, Hmb.out]; exact Nat.le_refl _)) (by rw [sizeDg, List.size_toArray, Hmb.out]) (by simpa using Hm1.out) ?_; generalize (W4.alloc (.cells z0 39)).setCells W4.heap.size 0 (bytesV (midD o)).toArray.toList = w5 at *))
    (try simp only [Act.put, List.setIfInBounds_toArray, List.set_cons_zero, List.set_cons_succ])
    have cQ := Lat.cells w5
    have lg := H5.out.x.lt
    have g0 : w5.cell? ⟨g, 0, none⟩ = some vr := by rw [H5.out.x.cell]; rfl
    have Hs1 := Lib.hid (fun (yL : Lat w5) => rc_summary yL.w r.low (midD o) (by have := Hll.out; rwa [bytesV_len] at this) (by have := Hmb.out; rwa [bytesV_len] at this) (.slice (some ⟨b, off, none⟩) q co) (o.take q) ((H5.out.o.below yL.h).take Hn.out (by omega)) (by rw [List.length_take]; omega))
    have Hs2 := Lib.hid (fun (yL : Lat w5) => rc_summary yL.w (midD o) r.high (by have := Hmb.out; rwa [bytesV_len] at this) (by have := Hhl.out; rwa [bytesV_len] at this) (.slice (some ⟨b, off + q * 32, none⟩) (n - q) (co - q)) (o.drop q) ((H5.out.o.below yL.h).drop Hn.out (by omega)) (by rw [List.length_drop]; have := Hn.out; omega))
    refine wp_region_move0 (by kernel_rfl) (.tmp 0) (.pointer (some ⟨g, 0, none⟩)) rfl rfl rfl (by kernel_rfl) (by kernel_rfl) (by kernel_rfl) (fun _ _ _ h => h) ?_
    simp only [Act.put, List.setIfInBounds_toArray, List.set_cons_zero, List.set_cons_succ]
    refine wpAny_lz (W0 := w5) 1 22 4 #[true, true, true, true, true, true, true, true, true, true, true, true, true, true, true, true, true, true, true, true, true, true, false, false, false, false] (fun i => if i = 2 then some (annK (.pointer (some ⟨g, 0, none⟩))) else if i = 12 then some (annK ((summR r.low (midD o) (o.take q)).V (.slice none 0 0))) else if i = 20 then some (annK ((summR (midD o) r.high (o.drop q)).V (.slice none 0 0))) else if i = 21 then some ⟨fun q => .slice (some ⟨q.lo, 0, none⟩) 2 2, fun k X => Bx X k.lo ((summR r.low (midD o) (o.take q)).cells (.slice none 0 0) ++ (summR (midD o) r.high (o.drop q)).cells (.slice none 0 0)).toArray 41⟩ else none) (by rfl) (by decide) (by rfl) (by rfl) (by kernel_rfl) (Below.refl _ _).drew ?_
    simp only [List.drop_succ_cons, List.drop_zero, List.take_succ_cons, List.take_zero]
    refine LW.block 1 2 (by rfl) (by kernel_rfl) (by kernel_rfl) ?_
    simp only [List.take_succ_cons, List.take_zero, List.drop_succ_cons, List.drop_zero]
    repeat (first | go_big_quiet_skip | (go_big_quiet_want; go_big_quiet_op; go_big_quiet_on))
    refine wpQuiet_nil ?_
    refine LW.lzy _ (by rfl) (by rfl) ?_ ?_
    · intro yL _
      exact lz_value ((by rfl))
    intro _
    simp only [Act.put, List.setIfInBounds_toArray, List.set_cons_zero, List.set_cons_succ]
    (try simp only [annK])
    refine LW.block 9 12 (by rfl) (by kernel_rfl) (by kernel_rfl) ?_
    simp only [List.take_succ_cons, List.take_zero, List.drop_succ_cons, List.drop_zero]
    repeat (first | go_big_quiet_skip | (go_big_quiet_want; first | ((first | (refine quiet_load_row 39 (.tmp 20) rfl w.heap.size 0 (by first | rfl | (simp)) (bytesV r.low) _ (lat_range (by simpa using HRl5.out) lr5) Tryz.underlying39 rfl (by rw [sizeDg, Hll.out]) ?_) | (refine quiet_load_row 39 (.tmp 7) rfl W4.heap.size 0 (by first | rfl | (simp)) (bytesV (midD o)) _ (lat_range HXd.out lX) Tryz.underlying39 rfl (by rw [sizeDg, Hmb.out]) ?_)); simp only [Act.put, List.setIfInBounds_toArray, List.set_cons_zero, List.set_cons_succ]; go_big_quiet_on) | (go_big_quiet_op; go_big_quiet_on)))
    refine wpQuiet_nil ?_
    refine LW.lzy _ (by rfl) (by rfl) ?_ ?_
    · intro yL _
      unfold lzAt
      go_simp
      exact lz_constB (Hs1.out yL)
    intro _
    simp only [Act.put, List.setIfInBounds_toArray, List.set_cons_zero, List.set_cons_succ]
    (try simp only [annK])
    refine LW.block 7 20 (by rfl) (by kernel_rfl) (by kernel_rfl) ?_
    simp only [List.take_succ_cons, List.take_zero, List.drop_succ_cons, List.drop_zero]
    repeat (first | go_big_quiet_skip | (go_big_quiet_want; first | ((first | (refine quiet_load_row 39 (.tmp 29) rfl w.heap.size 32 (by first | rfl | (simp)) (bytesV r.high) _ (lat_range (by simpa using HRh5.out) lr5) Tryz.underlying39 rfl (by rw [sizeDg, Hhl.out]) ?_) | (refine quiet_load_row 39 (.tmp 7) rfl W4.heap.size 0 (by first | rfl | (simp)) (bytesV (midD o)) _ (lat_range HXd.out lX) Tryz.underlying39 rfl (by rw [sizeDg, Hmb.out]) ?_)); simp only [Act.put, List.setIfInBounds_toArray, List.set_cons_zero, List.set_cons_succ]; go_big_quiet_on) | (go_big_quiet_op; go_big_quiet_on)))
    refine wpQuiet_nil ?_
    refine LW.lzy _ (by rfl) (by rfl) ?_ ?_
    · intro yL _
      unfold lzAt
      go_simp
      exact lz_constB (Hs2.out yL)
    intro _
    simp only [Act.put, List.setIfInBounds_toArray, List.set_cons_zero, List.set_cons_succ]
    (try simp only [annK])
    have Hok1 : Hid ((summR r.low (midD o) (o.take q)).ok) := Lib.hid ⟨by have := Hll.out; rwa [bytesV_len] at this, by have := Hmb.out; rwa [bytesV_len] at this, printD_len _, fun _ h => by cases h⟩
    have Hok2 : Hid ((summR (midD o) r.high (o.drop q)).ok) := Lib.hid ⟨by have := Hmb.out; rwa [bytesV_len] at this, by have := Hhl.out; rwa [bytesV_len] at this, printD_len _, fun _ h => by cases h⟩
    have Hid1 : Hid ((summR r.low (midD o) (o.take q)).ids = []) := Lib.hid rfl
    have Hid2 : Hid ((summR (midD o) r.high (o.drop q)).ids = []) := Lib.hid rfl
    have Hpart2 : Hid (partR r o = [summR r.low (midD o) (o.take q), summR (midD o) r.high (o.drop q)]) := Lib.hid (by rw [Hpart.out.1, Hn.out, ← Hq.out])
    generalize summR r.low (midD o) (o.take q) = s1 at *
    generalize summR (midD o) r.high (o.drop q) = s2 at *
    have Hlen1 := Lib.hid (Rg.len Hok1.out (.slice none 0 0))
    have Hlen2 := Lib.hid (Rg.len Hok2.out (.slice none 0 0))
    refine LW.lzy _ (by rfl) (by rfl) ?_ ?_
    · intro yL hF
      exact lz_buildR2 32 (.tmp 27) (.tmp 35) rfl 41 ir (Rg.zero.cells (.slice none 0 0)) 99 Tryz.underlying32 Hir.out.1 Hir.out.2.1 Hir.out.2.2.1 zeroRg_len (by decide) (s1.cells (.slice none 0 0)) (s2.cells (.slice none 0 0)) Hlen1.out Hlen2.out rfl rfl ⟨Below.one _ _, fun _ => undef, rfl, fun w'' hb => (Bx.new _ _ _).belowAll hb⟩
    intro q21
    simp only [Act.put, List.setIfInBounds_toArray, List.set_cons_zero, List.set_cons_succ]
    refine LW.done ?_
    intro W' hG'
    have hb11 : Bx W' q21.lo (s1.cells (.slice none 0 0) ++ s2.cells (.slice none 0 0)).toArray 41 := hG'.get 21 rfl rfl
    have H3 := Lib.hid (H5.out.below hG'.below)
    generalize q21.lo = k11 at *
    have hrow : RowAt (· = k11) W' (some ⟨k11, 0, none⟩) (s1.cells (.slice none 0 0) ++ s2.cells (.slice none 0 0)) := by have := RowAt.bx hb11; simpa using this
    have Hrow := Lib.hid hrow
    have Hone : Hid (∀ u ∈ s1.cells (.slice none 0 0) ++ s2.cells (.slice none 0 0), u.oneCell' = true) := Lib.hid fun u hu => (List.mem_append.1 hu).elim (Rg.one s1 (.slice none 0 0) rfl u) (Rg.one s2 (.slice none 0 0) rfl u)
    obtain ⟨vs, hvs, hown, hvd, _⟩ := H3.out.a.rs
    have Hown := Lib.hid hown
    have Hvs := Lib.hid hvs
    have Hvd := Lib.hid hvd
    clear hG' hb11 cQ g0 hrow hown hvs hvd
    refine wpAny_ready (rs := [22]) (by kernel_rfl) (by simp) ?_
    refine AllReady.cons rfl (fun K hK => ?_) AllReady.nil
    refine wp_appK (.tmp 19) (.tmp 36) 32 rfl base 41 ir _ 99 136 Tryz.underlying32 Hir.out.1 Hir.out.2.1 Hir.out.2.2.1 Hir.out.2.2.2 (by simp [Value.cells, zeroRg_len]) (by decide) vr R.length (rgsC R vs).flatten rfl Hown.out (some ⟨k11, 0, none⟩) 2 2 (s1.cells (.slice none 0 0) ++ s2.cells (.slice none 0 0)) rfl (fun h => by cases h) (by rw [List.length_append, Hlen1.out, Hlen2.out]) Hrow.out Hone.out (by unfold maxLen; omega) (by omega) H3.out.lb ?_
    intro v5 w8 ho5 hg5 hk5
    refine hK _ _ ?_
    clear hK K
    have H4 := Lib.hid (H3.out.addR (X := [s1, s2]) (xs := [.slice none 0 0, .slice none 0 0]) Hvs.out Hvd.out (by simpa [rgsC] using ho5) (fun q hq => by
        rcases List.mem_cons.1 hq with rfl | hq
        · exact Hok1.out
        · rw [List.mem_singleton.1 hq]; exact Hok2.out) rfl (fun i hi => match i, hi with | 0, _ => (show DigR _ _ (.slice none 0 0) s1.ids from by rw [Hid1.out]; exact DigR.nil0 _ _) | 1, _ => (show DigR _ _ (.slice none 0 0) s2.ids from by rw [Hid2.out]; exact DigR.nil0 _ _)) hg5 hk5)
    have x5 := H3.out.x.grown hg5 (fun e => by have := (H3.out.a.rs.lt e.symm).1; have := H3.out.lg; omega)
    obtain ⟨o5, m5, c5, rfl⟩ := ownsRow_slice ho5
    have d1 : w8.cell? ⟨g, 0, none⟩ = some vr := by rw [x5.cell]; rfl
    have f1 : w8.frozen? ⟨g, 0, none⟩ = false := x5.free 0
    clear ho5 hg5 hk5 x5 H3 Hown Hvs Hvd Hrow Hone
    refine wpAny_ready (rs := [23]) (by kernel_rfl) (by simp) ?_
    refine AllReady.cons rfl (fun K hK => ?_) AllReady.nil
    go_simp
    refine hK _ _ ?_
    clear hK K
    refine wpAny_ready (rs := [24]) (by kernel_rfl) (by simp) ?_
    refine AllReady.cons rfl (fun K hK => ?_) AllReady.nil
    go_simp
    refine hK _ _ ?_
    clear hK K
    refine wpAny_ready (rs := [25]) (by kernel_rfl) (by simp) ?_
    refine AllReady.cons rfl (fun K hK => ?_) AllReady.nil
    go_simp
    refine hK _ _ ?_
    clear hK K
    refine wpAny_done (by kernel_rfl) ?_ _
    clear d1 f1
    go_wp2
    go_end0
    refine ⟨rfl, _, _, _, H4.out.x, ?_, H4.out.b⟩
    rw [Hpart2.out, Hpart.out.2.1, Hpart.out.2.2, List.append_nil, List.append_nil]
    exact H4.out.a
  · have hpp : decide (r.print = printD o) = false := by
      have h := Hs.out
      unfold sameP at h
      rw [Hn.out, decide_eq_true (beq_iff_eq.1 hcn), Bool.true_and] at h
      exact h
    have Hpp := Lib.hid hpp
    clear hpp
    refine wp_region_lat (by kernel_rfl) (by kernel_rfl) ?_
    repeat (first | go_big_quiet_skip | (go_big_quiet_want; first | ((first | (refine quiet_load_row 39 (.tmp 73) rfl w.heap.size 66 (by first | rfl | (simp)) (bytesV r.print) _ (lat_range (by simpa using HRp.out) lr) Tryz.underlying39 rfl (by rw [sizeDg, Hpl.out]) ?_) | (refine quiet_run (.bool false) (fun w => by rw [run_eql_dg _ (.tmp 74) (.tmp 76) rfl r.print (printD o) (by have := Hpl.out; rwa [bytesV_len] at this) (printD_len o) rfl rfl, Hpp.out]) ?_)); simp only [Act.put, List.setIfInBounds_toArray, List.set_cons_zero, List.set_cons_succ]; go_big_quiet_on) | (go_big_quiet_op; first | go_big_quiet_on | go_big_quiet_call ((exact Calls.lat (Hpr.out _))))))
    refine wpQuiet_nil ?_
    rintro W4 ⟨⟨_, hb4⟩, rfl⟩
    clear Hpp
    have H2 := Lib.hid (H1.out.below hb4)
    have HRl2 := Lib.hid (rangeAt_below HRl.out hb4 lr)
    have HRh2 := Lib.hid (rangeAt_below HRh.out hb4 lr)
    have lr2 : w.heap.size < W4.heap.size := Nat.lt_of_lt_of_le lr hb4.size
    have hO2 := H2.out.o
    obtain ⟨b, off, c', e', hc1, hc2, _, hb, hra⟩ := hO2.at (i := q) (by rw [Hn.out]; omega)
    rw [Hn.out] at e' hc1
    obtain ⟨rfl, rfl⟩ : oo = some ⟨b, off, none⟩ ∧ co = c' := by simpa using e'
    have hmd := midD_at Hn.out Hq.out (by rw [Hn.out]; omega)
    rw [← hmd] at hra
    have Hra := Lib.hid hra
    have hb6 : Below W4.heap.size W4 ((W4.alloc (.cells z0 39)).setCells W4.heap.size 0 (bytesV (midD o)).toArray.toList) := below_setCells (Nat.le_refl _) _ _ _ (Below.one W4 (.cells z0 39))
    have xd := (Bx.new W4 z0 39).setAll (cx := (bytesV (midD o)).toArray) (by rw [Hzl.out, List.size_toArray, Hmb.out])
    have HXd : Hid (((W4.alloc (.cells z0 39)).setCells W4.heap.size 0 (bytesV (midD o)).toArray.toList).rangeAt W4.heap.size 0 (bytesV (midD o))) := Lib.hid (by simpa using xd.range)
    have lX := xd.lt
    have H5 := Lib.hid (H2.out.below hb6)
    have HRl5 := Lib.hid (rangeAt_below HRl2.out hb6 lr2)
    have HRh5 := Lib.hid (rangeAt_below HRh2.out hb6 lr2)
    have lr5 := Nat.lt_trans lr2 lX
    have hz5 := hb6.size
    unfold maxLen at hc2
    clear cQ c64 c65 c98 hcn H1 HRl HRh Hpr hb4 hO2 hmd hra hb6 xd e' hb HRl2 HRh2
    go_wp2_with (first
      | (refine wpList_load_mid rfl 39 (.tmp 13) rfl b (off + q * 32) (by first | rfl | (simp)) (bytesV (midD o)) _ Hra.out Tryz.underlying39 rfl (by rw [sizeDg, Hmb.out]) ?_)
      | (refine wpList_alloc_row rfl 39 rfl z0 Hzi.out ?_)
      | (refine wpList_store_mid rfl 39 (.tmp 7) (.tmp 14) rfl W4.heap.size 0 (bytesV (midD o)).toArray rfl rfl (there_bx (Bx.new W4 z0 39) (by rw [Hzl.out, List.size_toArray, Hmb.out]; exact Nat.le_refl _)) (by rw [sizeDg, List.size_toArray, Hmb.out]) (by simpa using Hm1.out) ?_; generalize (W4.alloc (.cells z0 39)).setCells W4.heap.size 0 (bytesV (midD o)).toArray.toList = w5 at *))
    (try simp only [Act.put, List.setIfInBounds_toArray, List.set_cons_zero, List.set_cons_succ])
    have cQ := Lat.cells w5
    have lg := H5.out.x.lt
    have g0 : w5.cell? ⟨g, 0, none⟩ = some vr := by rw [H5.out.x.cell]; rfl
    have Hs1 := Lib.hid (fun (yL : Lat w5) => rc_summary yL.w r.low (midD o) (by have := Hll.out; rwa [bytesV_len] at this) (by have := Hmb.out; rwa [bytesV_len] at this) (.slice (some ⟨b, off, none⟩) q co) (o.take q) ((H5.out.o.below yL.h).take Hn.out (by omega)) (by rw [List.length_take]; omega))
    have Hs2 := Lib.hid (fun (yL : Lat w5) => rc_summary yL.w (midD o) r.high (by have := Hmb.out; rwa [bytesV_len] at this) (by have := Hhl.out; rwa [bytesV_len] at this) (.slice (some ⟨b, off + q * 32, none⟩) (n - q) (co - q)) (o.drop q) ((H5.out.o.below yL.h).drop Hn.out (by omega)) (by rw [List.length_drop]; have := Hn.out; omega))
    refine wp_region_move0 (by kernel_rfl) (.tmp 0) (.pointer (some ⟨g, 0, none⟩)) rfl rfl rfl (by kernel_rfl) (by kernel_rfl) (by kernel_rfl) (fun _ _ _ h => h) ?_
    simp only [Act.put, List.setIfInBounds_toArray, List.set_cons_zero, List.set_cons_succ]
    refine wpAny_lz (W0 := w5) 1 22 4 #[true, true, true, true, true, true, true, true, true, true, true, true, true, true, true, true, true, true, true, true, true, true, false, false, false, false] (fun i => if i = 2 then some (annK (.pointer (some ⟨g, 0, none⟩))) else if i = 12 then some (annK ((summR r.low (midD o) (o.take q)).V (.slice none 0 0))) else if i = 20 then some (annK ((summR (midD o) r.high (o.drop q)).V (.slice none 0 0))) else if i = 21 then some ⟨fun q => .slice (some ⟨q.lo, 0, none⟩) 2 2, fun k X => Bx X k.lo ((summR r.low (midD o) (o.take q)).cells (.slice none 0 0) ++ (summR (midD o) r.high (o.drop q)).cells (.slice none 0 0)).toArray 41⟩ else none) (by rfl) (by decide) (by rfl) (by rfl) (by kernel_rfl) (Below.refl _ _).drew ?_
    simp only [List.drop_succ_cons, List.drop_zero, List.take_succ_cons, List.take_zero]
    refine LW.block 1 2 (by rfl) (by kernel_rfl) (by kernel_rfl) ?_
    simp only [List.take_succ_cons, List.take_zero, List.drop_succ_cons, List.drop_zero]
    repeat (first | go_big_quiet_skip | (go_big_quiet_want; go_big_quiet_op; go_big_quiet_on))
    refine wpQuiet_nil ?_
    refine LW.lzy _ (by rfl) (by rfl) ?_ ?_
    · intro yL _
      exact lz_value ((by rfl))
    intro _
    simp only [Act.put, List.setIfInBounds_toArray, List.set_cons_zero, List.set_cons_succ]
    (try simp only [annK])
    refine LW.block 9 12 (by rfl) (by kernel_rfl) (by kernel_rfl) ?_
    simp only [List.take_succ_cons, List.take_zero, List.drop_succ_cons, List.drop_zero]
    repeat (first | go_big_quiet_skip | (go_big_quiet_want; first | ((first | (refine quiet_load_row 39 (.tmp 20) rfl w.heap.size 0 (by first | rfl | (simp)) (bytesV r.low) _ (lat_range (by simpa using HRl5.out) lr5) Tryz.underlying39 rfl (by rw [sizeDg, Hll.out]) ?_) | (refine quiet_load_row 39 (.tmp 7) rfl W4.heap.size 0 (by first | rfl | (simp)) (bytesV (midD o)) _ (lat_range HXd.out lX) Tryz.underlying39 rfl (by rw [sizeDg, Hmb.out]) ?_)); simp only [Act.put, List.setIfInBounds_toArray, List.set_cons_zero, List.set_cons_succ]; go_big_quiet_on) | (go_big_quiet_op; go_big_quiet_on)))
    refine wpQuiet_nil ?_
    refine LW.lzy _ (by rfl) (by rfl) ?_ ?_
    · intro yL _
      unfold lzAt
      go_simp
      exact lz_constB (Hs1.out yL)
    intro _
    simp only [Act.put, List.setIfInBounds_toArray, List.set_cons_zero, List.set_cons_succ]
    (try simp only [annK])
    refine LW.block 7 20 (by rfl) (by kernel_rfl) (by kernel_rfl) ?_
    simp only [List.take_succ_cons, List.take_zero, List.drop_succ_cons, List.drop_zero]
    repeat (first | go_big_quiet_skip | (go_big_quiet_want; first | ((first | (refine quiet_load_row 39 (.tmp 29) rfl w.heap.size 32 (by first | rfl | (simp)) (bytesV r.high) _ (lat_range (by simpa using HRh5.out) lr5) Tryz.underlying39 rfl (by rw [sizeDg, Hhl.out]) ?_) | (refine quiet_load_row 39 (.tmp 7) rfl W4.heap.size 0 (by first | rfl | (simp)) (bytesV (midD o)) _ (lat_range HXd.out lX) Tryz.underlying39 rfl (by rw [sizeDg, Hmb.out]) ?_)); simp only [Act.put, List.setIfInBounds_toArray, List.set_cons_zero, List.set_cons_succ]; go_big_quiet_on) | (go_big_quiet_op; go_big_quiet_on)))
    refine wpQuiet_nil ?_
    refine LW.lzy _ (by rfl) (by rfl) ?_ ?_
    · intro yL _
      unfold lzAt
      go_simp
      exact lz_constB (Hs2.out yL)
    intro _
    simp only [Act.put, List.setIfInBounds_toArray, List.set_cons_zero, List.set_cons_succ]
    (try simp only [annK])
    have Hok1 : Hid ((summR r.low (midD o) (o.take q)).ok) := Lib.hid ⟨by have := Hll.out; rwa [bytesV_len] at this, by have := Hmb.out; rwa [bytesV_len] at this, printD_len _, fun _ h => by cases h⟩
    have Hok2 : Hid ((summR (midD o) r.high (o.drop q)).ok) := Lib.hid ⟨by have := Hmb.out; rwa [bytesV_len] at this, by have := Hhl.out; rwa [bytesV_len] at this, printD_len _, fun _ h => by cases h⟩
    have Hid1 : Hid ((summR r.low (midD o) (o.take q)).ids = []) := Lib.hid rfl
    have Hid2 : Hid ((summR (midD o) r.high (o.drop q)).ids = []) := Lib.hid rfl
    have Hpart2 : Hid (partR r o = [summR r.low (midD o) (o.take q), summR (midD o) r.high (o.drop q)]) := Lib.hid (by rw [Hpart.out.1, Hn.out, ← Hq.out])
    generalize summR r.low (midD o) (o.take q) = s1 at *
    generalize summR (midD o) r.high (o.drop q) = s2 at *
    have Hlen1 := Lib.hid (Rg.len Hok1.out (.slice none 0 0))
    have Hlen2 := Lib.hid (Rg.len Hok2.out (.slice none 0 0))
    refine LW.lzy _ (by rfl) (by rfl) ?_ ?_
    · intro yL hF
      exact lz_buildR2 32 (.tmp 27) (.tmp 35) rfl 41 ir (Rg.zero.cells (.slice none 0 0)) 99 Tryz.underlying32 Hir.out.1 Hir.out.2.1 Hir.out.2.2.1 zeroRg_len (by decide) (s1.cells (.slice none 0 0)) (s2.cells (.slice none 0 0)) Hlen1.out Hlen2.out rfl rfl ⟨Below.one _ _, fun _ => undef, rfl, fun w'' hb => (Bx.new _ _ _).belowAll hb⟩
    intro q21
    simp only [Act.put, List.setIfInBounds_toArray, List.set_cons_zero, List.set_cons_succ]
    refine LW.done ?_
    intro W' hG'
    have hb11 : Bx W' q21.lo (s1.cells (.slice none 0 0) ++ s2.cells (.slice none 0 0)).toArray 41 := hG'.get 21 rfl rfl
    have H3 := Lib.hid (H5.out.below hG'.below)
    generalize q21.lo = k11 at *
    have hrow : RowAt (· = k11) W' (some ⟨k11, 0, none⟩) (s1.cells (.slice none 0 0) ++ s2.cells (.slice none 0 0)) := by have := RowAt.bx hb11; simpa using this
    have Hrow := Lib.hid hrow
    have Hone : Hid (∀ u ∈ s1.cells (.slice none 0 0) ++ s2.cells (.slice none 0 0), u.oneCell' = true) := Lib.hid fun u hu => (List.mem_append.1 hu).elim (Rg.one s1 (.slice none 0 0) rfl u) (Rg.one s2 (.slice none 0 0) rfl u)
    obtain ⟨vs, hvs, hown, hvd, _⟩ := H3.out.a.rs
    have Hown := Lib.hid hown
    have Hvs := Lib.hid hvs
    have Hvd := Lib.hid hvd
    clear hG' hb11 cQ g0 hrow hown hvs hvd
    refine wpAny_ready (rs := [22]) (by kernel_rfl) (by simp) ?_
    refine AllReady.cons rfl (fun K hK => ?_) AllReady.nil
    refine wp_appK (.tmp 19) (.tmp 36) 32 rfl base 41 ir _ 99 136 Tryz.underlying32 Hir.out.1 Hir.out.2.1 Hir.out.2.2.1 Hir.out.2.2.2 (by simp [Value.cells, zeroRg_len]) (by decide) vr R.length (rgsC R vs).flatten rfl Hown.out (some ⟨k11, 0, none⟩) 2 2 (s1.cells (.slice none 0 0) ++ s2.cells (.slice none 0 0)) rfl (fun h => by cases h) (by rw [List.length_append, Hlen1.out, Hlen2.out]) Hrow.out Hone.out (by unfold maxLen; omega) (by omega) H3.out.lb ?_
    intro v5 w8 ho5 hg5 hk5
    refine hK _ _ ?_
    clear hK K
    have H4 := Lib.hid (H3.out.addR (X := [s1, s2]) (xs := [.slice none 0 0, .slice none 0 0]) Hvs.out Hvd.out (by simpa [rgsC] using ho5) (fun q hq => by
        rcases List.mem_cons.1 hq with rfl | hq
        · exact Hok1.out
        · rw [List.mem_singleton.1 hq]; exact Hok2.out) rfl (fun i hi => match i, hi with | 0, _ => (show DigR _ _ (.slice none 0 0) s1.ids from by rw [Hid1.out]; exact DigR.nil0 _ _) | 1, _ => (show DigR _ _ (.slice none 0 0) s2.ids from by rw [Hid2.out]; exact DigR.nil0 _ _)) hg5 hk5)
    have x5 := H3.out.x.grown hg5 (fun e => by have := (H3.out.a.rs.lt e.symm).1; have := H3.out.lg; omega)
    obtain ⟨o5, m5, c5, rfl⟩ := ownsRow_slice ho5
    have d1 : w8.cell? ⟨g, 0, none⟩ = some vr := by rw [x5.cell]; rfl
    have f1 : w8.frozen? ⟨g, 0, none⟩ = false := x5.free 0
    clear ho5 hg5 hk5 x5 H3 Hown Hvs Hvd Hrow Hone
    refine wpAny_ready (rs := [23]) (by kernel_rfl) (by simp) ?_
    refine AllReady.cons rfl (fun K hK => ?_) AllReady.nil
    go_simp
    refine hK _ _ ?_
    clear hK K
    refine wpAny_ready (rs := [24]) (by kernel_rfl) (by simp) ?_
    refine AllReady.cons rfl (fun K hK => ?_) AllReady.nil
    go_simp
    refine hK _ _ ?_
    clear hK K
    refine wpAny_ready (rs := [25]) (by kernel_rfl) (by simp) ?_
    refine AllReady.cons rfl (fun K hK => ?_) AllReady.nil
    go_simp
    refine hK _ _ ?_
    clear hK K
    refine wpAny_done (by kernel_rfl) ?_ _
    clear d1 f1
    go_wp2
    go_end0
    refine ⟨rfl, _, _, _, H4.out.x, ?_, H4.out.b⟩
    rw [Hpart2.out, Hpart.out.2.1, Hpart.out.2.2, List.append_nil, List.append_nil]
    exact H4.out.a
end Go.Proofs.YtebgopdmeghmhaaGreat
namespace Go.Proofs.YtebgopdmeghmhaaGreat
open Go.RowKit

theorem rc_add (w : World) (base g : Nat) (vr vw vg : Value) (R : List Rg) (W G : List (List UInt8)) (r : Rg) (vi ov : Value) (o : List (List UInt8))
    (hx : Bx w g #[vr, vw, vg] 52) (hg : g < base) (hbase : base ≤ w.heap.size) (hA : Acc w base vr vw vg R W G) (hr : r.ok) (hri : DigR (Off g vr vw vg) w vi r.ids) (ho : DigR (Off g vr vw vg) w ov o)
    (hml : r.ids.length ≤ 1000000) (hmo : o.length ≤ 1000000) (hW : W.length ≤ 1000000000) (hG : G.length ≤ 1000000000) (hR : R.length ≤ 1000000000) :
    Calls Tryz.prog 27 #[.pointer (some ⟨g, 0, none⟩), r.V vi, ov] w (AddP w base g R W G r o) := by
  cases hl : r.listed
  · cases hs : sameP r o
    · rcases Nat.lt_or_ge 8 o.length with h8 | h8
      · exact rc_add_split w base g vr vw vg R W G r vi ov o hx hg hbase hA hr hri ho hmo hl hs h8 hR
      · exact rc_add_few w base g vr vw vg R W G r vi ov o hx hg hbase hA hr hri ho hmo hl hs h8 ho.2 hR
    · exact rc_add_same w base g vr vw vg R W G r vi ov o hx hg hbase hA hr hri ho hmo hl hs
  · exact rc_add_listed w base g vr vw vg R W G r vi ov o hx hg hbase hA hr hri ho hml hmo hW hG hl
set_option maxRecDepth 100000 in
set_option maxHeartbeats 2000000 in
theorem rc_Answer1 (d : List UInt8) (hd : d.length = 32) (b : Nat) (r : Rg) (vi : Value) (hr : r.ok) (w : World) (hx : Bx w b (r.cells vi).toArray 41) :
    Calls Tryz.prog 30 #[dgV d, .pointer (some ⟨b, 0, none⟩)] w fun e w' => e = .returned (.bool (!insB r.low r.high d)) ∧ Below w.heap.size w w' := by
  have hB := Below.one w (.cells (bytesV d).toArray 39)
  have HR : Hid ((w.alloc (.cells (bytesV d).toArray 39)).rangeAt b 0 (r.cells vi)) := Lib.hid (by have := (hx.alloc (.cells (bytesV d).toArray 39)).range; simpa using this)
  have HX : Hid ((w.alloc (.cells (bytesV d).toArray 39)).rangeAt w.heap.size 0 (bytesV d)) := Lib.hid (by simpa using (Bx.new w (bytesV d).toArray 39).range)
  have Hl : Hid ((bytesV d).length = 32) := Lib.hid (by rw [bytesV_len, hd])
  have Hrl := Lib.hid (Rg.len hr vi)
  have Hin := Lib.hid (fun W => rc_inside r vi hr d hd W)
  have Hdg : Hid (dgV d = .agg (bytesV d).toArray) := Lib.hid rfl
  rw [Hdg.out]
  obtain ⟨cd, hcd⟩ : ∃ c, (bytesV d).toArray = c := ⟨_, rfl⟩
  rw [hcd] at hB HR HX ⊢
  generalize insB r.low r.high d = q at *
  clear hx hd hcd hr
  go_enter Tryz.func30, Tryz.ntmps30
  go_wp2_with (first
    | (refine wpList_load_mid rfl 41 (.tmp 1) rfl b 0 rfl (r.cells vi) _ HR.out Tryz.underlying41 rfl (by rw [sizeRg, Hrl.out]) ?_)
    | (refine wpList_load_mid rfl 39 (.tmp 2) rfl w.heap.size 0 rfl (bytesV d) _ HX.out Tryz.underlying39 rfl (by rw [sizeDg, Hl.out]) ?_))
  refine (Hin.out _).mono ?_
  rintro e w2 ⟨rfl, hb2⟩
  have hB2 := Below.then hB hb2 hB.size
  go_wp2
  go_ret
  exact ⟨by simp, hB2⟩
end Go.Proofs.YtebgopdmeghmhaaGreat
