/- awake of the laws of layer 47. -/
import Derived.Test.YtfligkncdlocaaaIbSing
import Derived.Test.YtfligkncdlocaaaRfSame
import Derived.Test.YtfligkncdlocaaaArr
namespace Go.Proofs.Ytfligkncdlocaaa
open Go.RowKit

def dA : List UInt8 := (zeroD.set 7 1).set 23 3
theorem dA_len : dA.length = 32 := rfl
def tA : List Cl := ofFold (newT 6) [dA]
theorem dA_dok : Dok [dA] := by intro x hx; rw [List.mem_singleton.1 hx]; exact dA_len
theorem tA_len : tA.length = 6 := by unfold tA; rw [ofFold_len]; rfl
theorem tA_get (i : Nat) : tA.getD i Cl.zero = ctr dA 1 6 i := by
  unfold tA
  rw [ofFold_new (by decide) dA_dok, csum_one dA_len]; rfl
theorem tA_nok : Tnok tA := ofFold_nok dA_dok (newT_nok 6) (by rw [newT_len (by decide)]; decide)
theorem of_A : ofT 6 [dA] = (tA, 0) := rfl
theorem inc_A : incB dA 6 0 = false ∧ incB dA 6 1 = true ∧ incB dA 6 2 = true ∧ incB dA 6 5 = true := by decide +kernel
theorem tA_0 : tA.getD 0 Cl.zero = Cl.zero := by rw [tA_get]; unfold ctr; rw [inc_A.1]; rfl
theorem tA_1 : (tA.getD 1 Cl.zero).n = 1 := by rw [tA_get]; unfold ctr; rw [inc_A.2.1]; rfl
theorem tA_2 : (tA.getD 2 Cl.zero).n = 1 := by rw [tA_get]; unfold ctr; rw [inc_A.2.2.1]; rfl
theorem tA_5 : (tA.getD 5 Cl.zero).k = dA := by rw [tA_get]; unfold ctr; rw [inc_A.2.2.2]; rfl
theorem peel_A : peelT tA = ([dA], [], true) := by
  have := peel_one dA_len (q := 1) (.inl rfl) (t := tA) (by rw [tA_len]; rfl) tA_nok (fun i _ => by rw [tA_get, tA_len])
  simpa using this
section
variable {a : Act} {o : Oper} {w : World}
theorem run_eql_dg (r : TypeId) (x y : Operand) (ho : o.op = .binOp .eql 31 x y r) (p q : List UInt8) (hp : p.length = 32) (hq : q.length = 32) (hx : a.eval x = dgV p) (hy : a.eval y = dgV q) : (execOp a.eval o).run Try.prog w = .ok (.value (.bool (decide (p = q)))) w := by
  have e := run_eqDg 9998 w p q hp hq
  unfold execOp
  rw [ho]
  unfold dgV at hx hy e
  simp only [hx, hy, Sem.run_bind, run_eqGuard_agg w .eql 31 x y _ _ guardDg, Result.andThen_ok, run_eql_struct, e, Sem.run_pure]
theorem run_eql_cl (r : TypeId) (x y : Operand) (ho : o.op = .binOp .eql 50 x y r) (p q : Cl) (hp : p.ok) (hq : q.ok) (hx : a.eval x = p.V) (hy : a.eval y = q.V) : (execOp a.eval o).run Try.prog w = .ok (.value (.bool (p.eqB q))) w := by
  have e := run_eqCl 9997 w p q hp hq
  unfold execOp
  rw [ho]
  unfold Cl.V at hx hy e
  simp only [hx, hy, Sem.run_bind, run_eqGuard_agg w .eql 50 x y _ _ guardCl, Result.andThen_ok, run_eql_struct, e, Sem.run_pure]
end
/-- a list of one digest, made within a region -/
def annD (d : List UInt8) : Ann := ⟨fun r => .slice (some ⟨r.lo, 0, none⟩) 1 1, fun r W => Bx W r.lo (bytesV d).toArray 31⟩
theorem Bx.digs {w : World} {b : Nat} {d : List UInt8} (hd : d.length = 32) (h : Bx w b (bytesV d).toArray 31) : DigR (· = b) w (.slice (some ⟨b, 0, none⟩) 1 1) [d] := by
  refine ⟨⟨some ⟨b, 0, none⟩, 1, rfl, .inr ⟨_, rfl, Nat.le_refl _, by unfold maxLen; decide⟩, ?_⟩, fun x hx => by rw [List.mem_singleton.1 hx]; exact hd⟩
  have := RowAt.bx h
  simpa [digC] using this
theorem lz_build1 {P : Program} {o : Oper} {a : Act} {W : World} (t : TypeId) (x : Operand) (hop : o.op = .buildSlice t 1 #[(0, x)]) (e : TypeId) (i : TypeInfo) (z : List Value) (m : Nat) (ht : P.underlying t = some (.slice e)) (hi : P.info? e = some i) (hz : i.zero = some (.agg z.toArray)) (hs : i.size = m) (hzl : z.length = m) (hm : 0 < m ∧ m ≤ 16777216) (cs : List Value) (hc : cs.length = m) (hx : a.eval x = .agg cs.toArray) :
    lzAt P o a W (lzPost ⟨fun r => .slice (some ⟨r.lo, 0, none⟩) 1 1, fun r w => Bx w r.lo cs.toArray e⟩ W) := by
  have hr := run_buildSlice1 (P := P) (w := W) t e i z m ht hi hz hs hzl hm cs hc
  unfold lzAt execOp
  simp [hop, hx, hr, Result.andThen]
  exact ⟨Below.one W (.cells cs.toArray e), fun _ => undef, rfl, fun w'' hb => (Bx.new W cs.toArray e).belowAll hb⟩
set_option maxRecDepth 100000 in
set_option maxHeartbeats 2000000 in
theorem law47_awake (w : World) : Calls Try.prog 10 #[] w fun e w' => e = .returned (.bool true) ∧ Below w.heap.size w w' := by
  obtain ⟨idg, hidg, hzd, hsd, hbyd⟩ := info_parts infoDg
  have Hidg : Hid (Try.prog.info? 31 = some idg ∧ idg.zero = some (.agg (List.replicate 32 (Value.int .u8 0)).toArray) ∧ idg.size = 32) := Lib.hid ⟨hidg, by rw [hzd]; rfl, hsd⟩
  have Z0 : Hid ((Try.prog.info? 31).map (·.zero) = some (some (.agg (bytesV zeroD).toArray))) := Lib.hid (by rw [hidg]; simp [hzd]; rfl)
  have xa := Bx.new w (bytesV zeroD).toArray 31
  have hB := Below.one w (.cells (bytesV zeroD).toArray 31)
  have c7 : (w.alloc (.cells (bytesV zeroD).toArray 31)).cell? ⟨w.heap.size, 7, none⟩ = some (.int .u8 0) := by rw [xa.cell]; rfl
  have c23 : (w.alloc (.cells (bytesV zeroD).toArray 31)).cell? ⟨w.heap.size, 23, none⟩ = some (.int .u8 0) := by rw [xa.cell]; rfl
  have f7 := xa.free 7
  have f23 := xa.free 23
  have lA := xa.lt
  have xd : Bx (((w.alloc (.cells (bytesV zeroD).toArray 31)).setCell ⟨w.heap.size, 7, none⟩ (.int .u8 1)).setCell ⟨w.heap.size, 23, none⟩ (.int .u8 3)) w.heap.size (bytesV dA).toArray 31 := by
    have := (xa.set 7 (.int .u8 1)).set 23 (.int .u8 3)
    exact this
  have hBd := below_set1 (b := w.heap.size) (k := 23) (v := .int .u8 3) (below_set1 (b := w.heap.size) (k := 7) (v := .int .u8 1) hB (Nat.le_refl _)) (Nat.le_refl _)
  have Hxd := Lib.hid xd
  have HBd := Lib.hid hBd
  clear xa hB hidg hzd hsd hbyd xd hBd
  go_enter Try.func10, Try.ntmps10
  go_wp2_with (first
    | (refine wpList_alloc_row rfl 31 rfl (bytesV zeroD).toArray Z0.out ?_; generalize w.alloc (.cells (bytesV zeroD).toArray 31) = w1 at *)
    | (refine wpList_load_mid rfl 31 (.tmp 1) rfl w.heap.size 0 rfl (bytesV dA) _ (by have := Hxd.out.range; simpa using this) Try.underlying31 rfl (by rw [sizeDg]; rfl) ?_)
    | (refine wpList_build1 rfl 25 (.tmp 10) rfl 31 idg (List.replicate 32 (Value.int .u8 0)) 32 Try.underlying25 Hidg.out.1 Hidg.out.2.1 Hidg.out.2.2 (by simp) (by decide) (bytesV dA) (by rw [bytesV_len]; rfl) rfl ?_))
  have hof := iblt_Of _ _ 6 [dA] (Bx.digs dA_len (Bx.new ((w1.setCell ⟨w.heap.size, 7, none⟩ (.int .u8 1)).setCell ⟨w.heap.size, 23, none⟩ (.int .u8 3)) (bytesV dA).toArray 31)) (by decide)
  obtain ⟨t, ht⟩ : ∃ t, tA = t := ⟨_, rfl⟩
  have tl := tA_len
  have t0 := tA_0
  have t1 := tA_1
  have t2 := tA_2
  have t5 := tA_5
  have tn := (tA_nok.get 5).1
  have tp := peel_A
  rw [ht] at tl t0 t1 t2 t5 tn tp
  have hsz : ((w1.setCell ⟨w.heap.size, 7, none⟩ (.int .u8 1)).setCell ⟨w.heap.size, 23, none⟩ (.int .u8 3)).heap.size = w1.heap.size := by simp
  rw [of_A, ht, hsz] at hof
  clear hsz
  have T0 := Lib.hid t0
  have T1 := Lib.hid t1
  have T2 := Lib.hid t2
  have T5 := Lib.hid t5
  have Tn := Lib.hid tn
  have Tp := Lib.hid tp
  have Hof := Lib.hid hof
  clear t0 t1 t2 t5 tn tp ht
  have hx2 := Lib.hid (Hxd.out.alloc (.cells (bytesV dA).toArray 31))
  have hb2 := Lib.hid (HBd.out.alloc HBd.out.size (.cells (bytesV dA).toArray 31))
  clear hof c7 c23 f7 f23 lA Hxd HBd
  refine Hof.out.mono ?_
  rintro e w2 ⟨v, he, hT, hbT⟩
  have he' : e = .returned (.tuple #[v, .int .i64 0]) := he
  clear he
  subst he'
  have xd := Lib.hid (hx2.out.belowAll hbT)
  have hB2 := Below.then hb2.out hbT hb2.out.size
  have hrow : ∃ b off c, v = .slice (some ⟨b, off, none⟩) 6 c ∧ b < w2.heap.size ∧ ∀ i, i < 6 → w2.rangeAt b (off + i * 65) (t.getD i Cl.zero).cells := by
    obtain ⟨b, off, c, e, _, _, _, hb, _⟩ := hT.at (t := t) (i := 0) (by rw [tl]; decide)
    rw [tl] at e
    refine ⟨b, off, c, e, hb, fun i hi => ?_⟩
    obtain ⟨b', off', c', e', _, _, _, _, hr⟩ := hT.at (t := t) (i := i) (by rw [tl]; exact hi)
    rw [e, tl] at e'
    injection e' with e1 _ _
    injection e1 with e1
    injection e1 with e1 e2
    subst e1 e2
    rw [List.getD_eq_getElem?_getD, List.getElem?_eq_getElem (show i < t.length by rw [tl]; exact hi)]
    exact hr
  obtain ⟨b, off, c, rfl, hbl, hr⟩ := hrow
  have hpl := iblt_Peel w2 _ t hT (by rw [tl]; decide)
  rw [Tp.out] at hpl
  have Hpl := Lib.hid hpl
  have Hr := Lib.hid hr
  clear hT hbT hr Hof hx2 hb2 hpl
  go_wp2_with fail
  refine Hpl.out.mono ?_
  rintro e w3 ⟨vp, vm, he, hP, hM, hb3⟩
  have he' : e = .returned (.tuple #[vp, vm, .bool true]) := he
  clear he
  subst he'
  obtain ⟨om, cm, rfl⟩ : ∃ o c, vm = .slice o 0 c := by obtain ⟨⟨o, c, e, _⟩, _⟩ := hM; exact ⟨o, c, e⟩
  have hB3 := Below.then hB2 hb3 hB2.size
  have xd3 := Lib.hid (xd.out.belowAll hb3)
  have hr3 := fun i hi => rangeAt_below (Hr.out i hi) hb3 hbl
  have lb : b < w3.heap.size := Nat.lt_of_lt_of_le hbl hb3.size
  have ld := xd3.out.lt
  have c1 : w3.cell? ⟨b, off + 65, none⟩ = some (.int .i64 1) := by have := Cl.count_at (hr3 1 (by decide)); rw [T1.out] at this; simpa using this
  have c2 : w3.cell? ⟨b, off + 130, none⟩ = some (.int .i64 1) := by have := Cl.count_at (hr3 2 (by decide)); rw [T2.out] at this; simpa using this
  have H5 : Hid (w3.rangeAt b (off + 325 + 1) (bytesV dA)) := Lib.hid (by have := Cl.keys_at Tn.out (hr3 5 (by decide)); rw [T5.out] at this; simpa using this)
  have H0 : Hid (w3.rangeAt b off Cl.zero.cells) := Lib.hid (by have := hr3 0 (by decide); rw [T0.out] at this; simpa using this)
  have HP := Lib.hid hP
  have cQ := Lat.cells w3
  clear hb3 Hr Hpl xd hP hM hr3 hB2
  go_wp2
  refine wp_region_lz 42 0 #[true, true, true, true, true, true, true, true, true, true, true, true, true, true, true, true, true, true, true, true, true, true, true, true, true, true, true, true, true, true, true, true, true, true, true, true, true, true, true, true, true, true] (fun i => if i = 24 then some (annK Cl.zero.V) else if i = 33 then some (annD dA) else if i = 34 then some (annK (.bool true)) else none) (by kernel_rfl) (by rfl) (by rfl) (by kernel_rfl) ?_
  simp only [List.take_succ_cons, List.take_zero]
  refine LW.block 24 24 (by rfl) (by kernel_rfl) (by kernel_rfl) ?_
  simp only [List.take_succ_cons, List.take_zero, List.drop_succ_cons, List.drop_zero]
  repeat (first | go_big_quiet_skip | (go_big_quiet_want; first | ((first | (refine quiet_load_row 31 (.tmp 43) rfl b (off + 325 + 1) (by first | rfl | (simp)) (bytesV dA) _ (lat_range H5.out lb) Try.underlying31 rfl (by rw [sizeDg]; rfl) ?_) | (refine quiet_load_row 31 (.tmp 1) rfl w.heap.size 0 rfl (bytesV dA) _ (lat_range (by have := xd3.out.range; simpa using this) ld) Try.underlying31 rfl (by rw [sizeDg]; rfl) ?_) | (refine quiet_run (.bool true) (fun w => by rw [run_eql_dg _ (.tmp 44) (.tmp 45) rfl dA dA dA_len dA_len rfl rfl]; rfl) ?_) | (refine quiet_load_row 50 (.tmp 50) rfl b off (by first | rfl | (simp)) Cl.zero.cells _ (lat_range H0.out lb) Try.underlying50 rfl (by rw [sizeCl]; rfl) ?_)); simp only [Act.put, List.setIfInBounds_toArray, List.set_cons_zero, List.set_cons_succ]; go_big_quiet_on) | (go_big_quiet_op; go_big_quiet_on)))
  refine wpQuiet_nil ?_
  refine LW.lzy _ (by rfl) (by rfl) ?_ ?_
  · intro y _
    unfold lzAt
    go_simp
    exact ⟨Below.refl _ _, fun _ => undef, by unfold annK Cl.V; kernel_rfl, fun _ _ => trivial⟩
  intro r24
  simp only [Act.put, List.setIfInBounds_toArray, List.set_cons_zero, List.set_cons_succ]
  (try simp only [annK])
  refine LW.block 8 33 (by rfl) (by kernel_rfl) (by kernel_rfl) ?_
  simp only [List.take_succ_cons, List.take_zero, List.drop_succ_cons, List.drop_zero]
  repeat (first | go_big_quiet_skip | (go_big_quiet_want; first | ((first | (refine quiet_load_row 31 (.tmp 1) rfl w.heap.size 0 rfl (bytesV dA) _ (lat_range (by have := xd3.out.range; simpa using this) ld) Try.underlying31 rfl (by rw [sizeDg]; rfl) ?_) | (refine quiet_run (.bool true) (fun w => by rw [run_eql_cl _ (.tmp 51) (.tmp 52) rfl Cl.zero Cl.zero Cl.zero_ok Cl.zero_ok rfl rfl]; rfl) ?_)); simp only [Act.put, List.setIfInBounds_toArray, List.set_cons_zero, List.set_cons_succ]; go_big_quiet_on) | (go_big_quiet_op; go_big_quiet_on)))
  refine wpQuiet_nil ?_
  refine LW.lzy _ (by rfl) (by rfl) ?_ ?_
  · intro y _
    exact lz_build1 25 (.tmp 60) rfl 31 idg (List.replicate 32 (Value.int .u8 0)) 32 Try.underlying25 Hidg.out.1 Hidg.out.2.1 Hidg.out.2.2 (by simp) (by decide) (bytesV dA) (by rw [bytesV_len]; rfl) rfl
  intro r33
  simp only [Act.put, List.setIfInBounds_toArray, List.set_cons_zero, List.set_cons_succ]
  (try simp only [annD])
  refine LW.lzy _ (by rfl) (by rfl) ?_ ?_
  · intro y hF
    have hbx : Bx y.w r33.lo (bytesV dA).toArray 31 := (hF 33 (by kernel_rfl)).get rfl rfl
    have hs := ref02_Same (S := fun _ => True) y.w vp _ [dA] [dA] ((HP.out.below y.h).mono fun _ _ => trivial) ((hbx.digs dA_len).mono fun _ _ => trivial) (by decide) (by decide)
    rw [decide_eq_true rfl] at hs
    unfold lzAt
    go_simp
    exact lz_constB hs
  intro r34
  simp only [Act.put, List.setIfInBounds_toArray, List.set_cons_zero, List.set_cons_succ]
  (try simp only [annK])
  refine LW.block 7 42 (by rfl) (by kernel_rfl) (by kernel_rfl) ?_
  simp only [List.take_succ_cons, List.take_zero, List.drop_succ_cons, List.drop_zero]
  repeat (first | go_big_quiet_skip | (go_big_quiet_want; go_big_quiet_op; go_big_quiet_on))
  refine wpQuiet_nil ?_
  refine LW.done ?_
  intro W' hG
  have hB4 := Below.then hB3 hG.below hB3.size
  refine wpAny_done (by kernel_rfl) ?_ _
  go_wp2
  go_ret
  exact ⟨rfl, hB4⟩
end Go.Proofs.Ytfligkncdlocaaa
