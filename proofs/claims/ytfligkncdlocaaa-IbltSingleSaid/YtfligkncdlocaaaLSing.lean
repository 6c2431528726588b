/- law IbltSingle: the walk. -/
import Derived.Test.YtfligkncdlocaaaLSub
namespace Go.Proofs.Ytfligkncdlocaaa
open Go.RowKit

section
variable {P : Program} {ops : Array Oper} {rest : List Oper} {o : Oper} {a : Act} {Q : Exit → Act → World → Prop} {w : World}
/-- a guarded operation that is wanted -/
theorem wpList_want (hw : Region.wanted o (yielded ops a.tmps) = true) (h : ∀ K : Act → World → Prop, (∀ a w, wpList P ops Q rest a w → K a w) → o.wp P a w K Q) : wpList P ops Q (o :: rest) a w :=
  wpList_step fun K hK => by simp only [hw, if_true]; exact h K hK
theorem wpList_load_want (hw : Region.wanted o (yielded ops a.tmps) = true) (ty : TypeId) (x : Operand) (ho : o.op = .load ty x)
    (b k : Nat) (hx : a.eval x = .pointer (some ⟨b, k, none⟩)) (cs : List Value) (d : TypeDesc) (hc : w.rangeAt b k cs)
    (hu : P.underlying ty = some d) (hd : d.isRow = true) (hi : (P.info? ty).map (·.size) = some cs.length)
    (h : wpList P ops Q rest (a.put o.dst (.agg cs.toArray)) w) : wpList P ops Q (o :: rest) a w :=
  wpList_want hw fun _ hK => wp_load_mid ty x ho b k hx cs d hc hu hd hi (hK _ _ h)
theorem wpList_build1_want (hw : Region.wanted o (yielded ops a.tmps) = true) (t : TypeId) (x : Operand) (hop : o.op = .buildSlice t 1 #[(0, x)]) (e : TypeId) (i : TypeInfo) (z : List Value) (m : Nat) (ht : P.underlying t = some (.slice e)) (hi : P.info? e = some i) (hz : i.zero = some (.agg z.toArray)) (hs : i.size = m) (hzl : z.length = m) (hm : 0 < m ∧ m ≤ 16777216) (cs : List Value) (hc : cs.length = m) (hx : a.eval x = .agg cs.toArray)
    (hK : wpList P ops Q rest (a.put o.dst (.slice (some ⟨w.heap.size, 0, none⟩) 1 1)) (w.alloc (.cells cs.toArray e))) : wpList P ops Q (o :: rest) a w := by
  refine wpList_want hw fun K hK' => ?_
  have hr := run_buildSlice1 (w := w) t e i z m ht hi hz hs hzl hm cs hc
  unfold Oper.wp
  simp [execOp, hop, hx, hr, Result.andThen]
  exact hK' _ _ hK
end
/-- a table that has been made, and true -/
def annT (t : List Cl) : Ann := ⟨fun r => .tuple #[r.x 0, .bool true], fun r W => TabR (fun _ => True) W (r.x 0) t⟩
set_option maxRecDepth 100000 in
set_option maxHeartbeats 4000000 in
theorem law47_single (w : World) (n : Int) (hn : 0 ≤ n ∧ n ≤ 255) (d : List UInt8) (hd : d.length = 32) :
    Calls Try.prog 7 #[.int .u8 n, dgV d] w fun e w' => e = .returned (.bool true) ∧ Below w.heap.size w w' := by
  obtain ⟨cd, hcd⟩ : ∃ c, (bytesV d).toArray = c := ⟨_, rfl⟩
  have hdg : dgV d = .agg cd := by unfold dgV; rw [hcd]
  have hcl : cd.size = 32 := by rw [← hcd]; simp [bytesV, hd]
  rw [hdg]
  obtain ⟨idg, hidg, hzd, hsd, hbyd⟩ := info_parts infoDg
  have Hidg : Hid (Try.prog.info? 31 = some idg ∧ idg.zero = some (.agg (List.replicate 32 (Value.int .u8 0)).toArray) ∧ idg.size = 32) := Lib.hid ⟨hidg, by rw [hzd]; rfl, hsd⟩
  have hok := sizeN_ok hn
  have hsz := fun W => law47_size n hn W
  have hs1 := single1 hok.1 hd
  have hs2 := single2 hok.1 hd
  have hl1 := subP_len hok.1 [d] []
  have hl2 := subP_len hok.1 [] [d]
  generalize sizeN n = N at hok hsz hs1 hs2 hl1 hl2
  have Hal := Lib.hid hok.1
  have HN := Lib.hid hok.2
  have Hsz := Lib.hid hsz
  have Hs1 := Lib.hid hs1
  have Hs2 := Lib.hid hs2
  have Hl1 : Hid ((subP N [d] []).length ≤ 1000000) := Lib.hid (by rw [hl1]; omega)
  have Hl2 : Hid ((subP N [] [d]).length ≤ 1000000) := Lib.hid (by rw [hl2]; omega)
  have Hdg := Lib.hid hdg
  have Hcl := Lib.hid hcl
  have Hcd := Lib.hid hcd
  have Xd := Lib.hid (Bx.new w cd 31)
  have hB1 := Below.one w (.cells cd 31)
  clear hdg hcl hcd hidg hzd hsd hbyd hok hsz hs1 hs2 hl1 hl2
  go_enter Try.func7, Try.ntmps7
  go_wp2
  generalize w.alloc (.cells cd 31) = w1 at *
  have cQ := Lat.cells w1
  have lD := Xd.out.lt
  refine wp_region_lz 10 0 #[true, true, true, true, true, true, true, true, true, true] (fun i => if i = 1 then some (annK (.int .i64 N)) else if i = 3 then some (annD d) else if i = 4 then some (annT (subP N [d] [])) else none) (by kernel_rfl) (by rfl) (by rfl) (by kernel_rfl) ?_
  simp only [List.take_succ_cons, List.take_zero]
  refine LW.block 1 1 (by rfl) (by kernel_rfl) (by kernel_rfl) ?_
  simp only [List.take_succ_cons, List.take_zero, List.drop_succ_cons, List.drop_zero]
  repeat (first | go_big_quiet_skip | (go_big_quiet_want; go_big_quiet_op; go_big_quiet_on))
  refine wpQuiet_nil ?_
  refine LW.lzy _ (by rfl) (by rfl) ?_ ?_
  · intro yL _
    unfold lzAt
    go_simp
    exact lz_const (Hsz.out _)
  intro _
  simp only [Act.put, List.setIfInBounds_toArray, List.set_cons_zero, List.set_cons_succ]
  (try simp only [annK])
  refine LW.block 1 3 (by rfl) (by kernel_rfl) (by kernel_rfl) ?_
  simp only [List.take_succ_cons, List.take_zero, List.drop_succ_cons, List.drop_zero]
  repeat (first | go_big_quiet_skip | (go_big_quiet_want; first | (((refine quiet_load_row 31 (.tmp 3) rfl w.heap.size 0 rfl cd.toList _ (lat_range Xd.out.range lD) Try.underlying31 rfl (by rw [sizeDg]; simp [Hcl.out]) ?_)); simp only [Act.put, List.setIfInBounds_toArray, List.set_cons_zero, List.set_cons_succ]; go_big_quiet_on) | (go_big_quiet_op; go_big_quiet_on)))
  refine wpQuiet_nil ?_
  refine LW.lzy _ (by rfl) (by rfl) ?_ ?_
  · intro y _
    refine lz_build1 25 (.tmp 18) rfl 31 idg (List.replicate 32 (Value.int .u8 0)) 32 Try.underlying25 Hidg.out.1 Hidg.out.2.1 Hidg.out.2.2 (by simp) (by decide) (bytesV d) (by rw [bytesV_len]; exact hd) (by have e : Value.agg (bytesV d).toArray = .agg cd := Hdg.out; rw [e]; rfl)
  intro r3
  simp only [Act.put, List.setIfInBounds_toArray, List.set_cons_zero, List.set_cons_succ]
  (try simp only [annD])
  refine LW.lzy _ (by rfl) (by rfl) ?_ ?_
  · intro y hF
    have hbx : Bx y.w r3.lo (bytesV d).toArray 31 := (hF 3 (by kernel_rfl)).get rfl rfl
    have hsb := law47_subtract y.w N Hal.out _ [d] (hbx.digs hd) (by simp) (.slice none 0 0) [] (DigR.nil0 (fun _ => True) y.w) (by decide)
    unfold lzAt
    go_simp
    refine hsb.mono ?_
    rintro e w' ⟨v, rfl, hT, hb⟩
    exact ⟨_, rfl, hb, fun _ => v, rfl, fun w'' hb' => hT.below hb'⟩
  intro r4
  simp only [Act.put, List.setIfInBounds_toArray, List.set_cons_zero, List.set_cons_succ]
  (try simp only [annT])
  refine LW.block 5 10 (by rfl) (by kernel_rfl) (by kernel_rfl) ?_
  simp only [List.take_succ_cons, List.take_zero, List.drop_succ_cons, List.drop_zero]
  repeat (first | go_big_quiet_skip | (go_big_quiet_want; go_big_quiet_op; go_big_quiet_on))
  refine wpQuiet_nil ?_
  refine LW.done ?_
  intro W1 hG
  have hT1 : TabR (fun _ => True) W1 (r4.x 0) (subP N [d] []) := hG.get 4 rfl rfl
  have hb1 := hG.below
  generalize r4.x 0 = v1 at *
  clear hG
  have hB2 := Below.then hB1 hb1 hB1.size
  have Xd1 := Lib.hid (Xd.out.belowAll hb1)
  have HT1 := Lib.hid hT1
  clear hT1 hb1 cQ lD Xd
  refine wpAny_done (by kernel_rfl) ?_ _
  go_wp2
  have cQ := Lat.cells W1
  have lD := Xd1.out.lt
  refine wp_region_lz 10 0 #[true, true, true, true, true, true, true, true, true, true] (fun i => if i = 1 then some (annK (.int .i64 N)) else if i = 3 then some (annD d) else if i = 4 then some (annT (subP N [] [d])) else none) (by kernel_rfl) (by rfl) (by rfl) (by kernel_rfl) ?_
  simp only [List.take_succ_cons, List.take_zero]
  refine LW.block 1 1 (by rfl) (by kernel_rfl) (by kernel_rfl) ?_
  simp only [List.take_succ_cons, List.take_zero, List.drop_succ_cons, List.drop_zero]
  repeat (first | go_big_quiet_skip | (go_big_quiet_want; go_big_quiet_op; go_big_quiet_on))
  refine wpQuiet_nil ?_
  refine LW.lzy _ (by rfl) (by rfl) ?_ ?_
  · intro yL _
    unfold lzAt
    go_simp
    exact lz_const (Hsz.out _)
  intro _
  simp only [Act.put, List.setIfInBounds_toArray, List.set_cons_zero, List.set_cons_succ]
  (try simp only [annK])
  refine LW.block 1 3 (by rfl) (by kernel_rfl) (by kernel_rfl) ?_
  simp only [List.take_succ_cons, List.take_zero, List.drop_succ_cons, List.drop_zero]
  repeat (first | go_big_quiet_skip | (go_big_quiet_want; first | (((refine quiet_load_row 31 (.tmp 3) rfl w.heap.size 0 rfl cd.toList _ (lat_range Xd1.out.range lD) Try.underlying31 rfl (by rw [sizeDg]; simp [Hcl.out]) ?_)); simp only [Act.put, List.setIfInBounds_toArray, List.set_cons_zero, List.set_cons_succ]; go_big_quiet_on) | (go_big_quiet_op; go_big_quiet_on)))
  refine wpQuiet_nil ?_
  refine LW.lzy _ (by rfl) (by rfl) ?_ ?_
  · intro y _
    exact lz_build1 25 (.tmp 26) rfl 31 idg (List.replicate 32 (Value.int .u8 0)) 32 Try.underlying25 Hidg.out.1 Hidg.out.2.1 Hidg.out.2.2 (by simp) (by decide) (bytesV d) (by rw [bytesV_len]; exact hd) (by have e : Value.agg (bytesV d).toArray = .agg cd := Hdg.out; rw [e]; rfl)
  intro s3
  simp only [Act.put, List.setIfInBounds_toArray, List.set_cons_zero, List.set_cons_succ]
  (try simp only [annD])
  refine LW.lzy _ (by rfl) (by rfl) ?_ ?_
  · intro y hF
    have hbx : Bx y.w s3.lo (bytesV d).toArray 31 := (hF 3 (by kernel_rfl)).get rfl rfl
    have hsb := law47_subtract y.w N Hal.out (.slice none 0 0) [] (DigR.nil0 (fun _ => True) y.w) (by simp) _ [d] (hbx.digs hd) (by simp)
    unfold lzAt
    go_simp
    refine hsb.mono ?_
    rintro e w' ⟨v, rfl, hT, hb⟩
    exact ⟨_, rfl, hb, fun _ => v, rfl, fun w'' hb' => hT.below hb'⟩
  intro s4
  simp only [Act.put, List.setIfInBounds_toArray, List.set_cons_zero, List.set_cons_succ]
  (try simp only [annT])
  refine LW.block 5 10 (by rfl) (by kernel_rfl) (by kernel_rfl) ?_
  simp only [List.take_succ_cons, List.take_zero, List.drop_succ_cons, List.drop_zero]
  repeat (first | go_big_quiet_skip | (go_big_quiet_want; go_big_quiet_op; go_big_quiet_on))
  refine wpQuiet_nil ?_
  refine LW.done ?_
  intro W2 hG
  have hT2 : TabR (fun _ => True) W2 (s4.x 0) (subP N [] [d]) := hG.get 4 rfl rfl
  have hb2 := hG.below
  generalize s4.x 0 = v2 at *
  clear hG
  have hB3 := Below.then hB2 hb2 hB2.size
  have Xd2 := Lib.hid (Xd1.out.belowAll hb2)
  have HT2 := Lib.hid hT2
  have hp1 := iblt_Peel W2 v1 _ (HT1.out.below hb2) Hl1.out
  rw [Hs1.out] at hp1
  have Hp1 := Lib.hid hp1
  clear hT2 hb2 cQ lD Xd1 HT1 hp1
  refine wpAny_done (by kernel_rfl) ?_ _
  go_wp2_with fail
  refine Hp1.out.mono ?_
  rintro e w3 ⟨va, vb, he, hP1, hM1, hb3⟩
  have he' : e = .returned (.tuple #[va, vb, .bool true]) := he
  clear he
  subst he'
  obtain ⟨ob, cb, rfl⟩ : ∃ o c, vb = .slice o 0 c := by obtain ⟨⟨o, c, e, _⟩, _⟩ := hM1; exact ⟨o, c, e⟩
  have hB4 := Below.then hB3 hb3 hB3.size
  have Xd3 := Lib.hid (Xd2.out.belowAll hb3)
  have hp2 := iblt_Peel w3 v2 _ (HT2.out.below hb3) Hl2.out
  rw [Hs2.out] at hp2
  have Hp2 := Lib.hid hp2
  have HA := Lib.hid (hP1.mono (T := fun _ => True) fun _ _ => trivial)
  clear hP1 hM1 hb3 Hp1 hp2 Xd2 HT2
  go_wp2_with fail
  refine Hp2.out.mono ?_
  rintro e w4 ⟨vc, vk, he, hP2, hM2, hb4⟩
  have he' : e = .returned (.tuple #[vc, vk, .bool true]) := he
  clear he
  subst he'
  obtain ⟨oc, cc, rfl⟩ : ∃ o c, vc = .slice o 0 c := by obtain ⟨⟨o, c, e, _⟩, _⟩ := hP2; exact ⟨o, c, e⟩
  have hB5 := Below.then hB4 hb4 hB4.size
  have Xd4 := Lib.hid (Xd3.out.belowAll hb4)
  have HA4 := Lib.hid (HA.out.below hb4)
  have HK4 := Lib.hid (hM2.mono (T := fun _ => True) fun _ _ => trivial)
  clear hP2 hM2 hb4 Hp2 Xd3 HA
  go_wp2_with (first
    | (refine wpList_load_want (by rfl) 31 (.tmp 3) rfl w.heap.size 0 rfl cd.toList _ Xd4.out.range Try.underlying31 rfl (by rw [sizeDg]; simp [Hcl.out]) ?_)
    | (refine wpList_build1_want (by rfl) 25 (.tmp 55) rfl 31 idg (List.replicate 32 (Value.int .u8 0)) 32 Try.underlying25 Hidg.out.1 Hidg.out.2.1 Hidg.out.2.2 (by simp) (by decide) (bytesV d) (by rw [bytesV_len]; exact hd) (by have e : Value.agg (bytesV d).toArray = .agg cd := Hdg.out; rw [e]; rfl) ?_))
  have hba := Below.one w4 (.cells (bytesV d).toArray 31)
  have hB6 := Below.then hB5 hba hB5.size
  have Hq1 := Lib.hid (ref02_Same (S := fun _ => True) _ va _ [d] [d] (HA4.out.below hba) ((Bx.digs hd (Bx.new w4 (bytesV d).toArray 31)).mono fun _ _ => trivial) (by simp) (by simp))
  rw [decide_eq_true rfl] at Hq1
  have HA6 := Lib.hid (HA4.out.below hba)
  have HK6 := Lib.hid (HK4.out.below hba)
  clear hba HA4 HK4
  refine Hq1.out.mono ?_
  rintro e w7 ⟨rfl, hb7⟩
  have hB7 := Below.then hB6 hb7 hB6.size
  have Hq2 := Lib.hid (ref02_Same (S := fun _ => True) w7 vk va [d] [d] (HK6.out.below hb7) (HA6.out.below hb7) (by simp) (by simp))
  rw [decide_eq_true rfl] at Hq2
  clear hb7 HA6 HK6 Hq1
  go_wp2_with fail
  refine Hq2.out.mono ?_
  rintro e w8 ⟨rfl, hb8⟩
  have hB8 := Below.then hB7 hb8 hB7.size
  go_wp2_with fail
  refine (law47_awake _).mono ?_
  rintro e w9 ⟨rfl, hb9⟩
  have hB9 := Below.then hB8 hb9 hB8.size
  go_wp2
  go_ret
  exact ⟨rfl, hB9⟩
end Go.Proofs.Ytfligkncdlocaaa
