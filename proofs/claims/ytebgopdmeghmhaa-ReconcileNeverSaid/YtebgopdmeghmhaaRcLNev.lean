/- law ReconcileNever: the walk. -/
import Derived.Test.YtebgopdmeghmhaaRcAwake
import Derived.Test.YtebgopdmeghmhaaRcIn
namespace Go.Proofs.Ytebgopdmeghmhaa
open Go.RowKit

set_option maxRecDepth 100000 in
set_option maxHeartbeats 4000000 in
theorem law48_never {S1 S2 : Nat → Prop} (w : World) (va : Value) (a : List (List UInt8)) (hA : DigR S1 w va a) (_hla : a.length ≤ 4611686018427387904) (vb : Value) (b : List (List UInt8)) (hB0 : DigR S2 w vb b) (_hlb : b.length ≤ 4611686018427387904) :
    Calls Try.prog 6 #[va, vb] w fun e w' => e = .returned (.bool true) ∧ Below w.heap.size w w' := by
  obtain ⟨oa, ca, rfl⟩ : ∃ o c, va = .slice o a.length c := by obtain ⟨⟨o, c, e, _⟩, _⟩ := hA; rw [digC_size] at e; exact ⟨o, c, e⟩
  obtain ⟨ob, cb, rfl⟩ : ∃ o c, vb = .slice o b.length c := by obtain ⟨⟨o, c, e, _⟩, _⟩ := hB0; rw [digC_size] at e; exact ⟨o, c, e⟩
  have HA := Lib.hid hA
  have HB := Lib.hid hB0
  clear hA hB0 _hla _hlb
  go_enter Try.func6, Try.ntmps6
  by_cases h1 : 60 < (a.length : Int)
  · clear HA HB
    go_wp2_with fail
    refine (law48_awake _).mono ?_
    rintro e w9 ⟨rfl, hb9⟩
    go_wp2
    go_ret
    first | exact ⟨rfl, hb9⟩ | exact ⟨rfl, Below.then hB2 hb9 hB2.size⟩ | exact ⟨rfl, Below.then hb1 hb9 hb1.size⟩
  · by_cases h2 : 60 < (b.length : Int)
    · clear HA HB
      go_wp2_with fail
      refine (law48_awake _).mono ?_
      rintro e w9 ⟨rfl, hb9⟩
      go_wp2
      go_ret
      first | exact ⟨rfl, hb9⟩ | exact ⟨rfl, Below.then hB2 hb9 hB2.size⟩ | exact ⟨rfl, Below.then hb1 hb9 hb1.size⟩
    · have La : Hid (a.length ≤ 60) := Lib.hid (by omega)
      have Lb : Hid (b.length ≤ 60) := Lib.hid (by omega)
      go_wp2_with fail
      refine (rf_ascending w _ a HA.out (by have := La.out; omega)).mono ?_
      rintro e w1 ⟨rfl, hb1⟩
      cases hxa : ascB a
      · clear HA HB
        go_wp2_with fail
        refine (law48_awake _).mono ?_
        rintro e w9 ⟨rfl, hb9⟩
        go_wp2
        go_ret
        first | exact ⟨rfl, hb9⟩ | exact ⟨rfl, Below.then hB2 hb9 hB2.size⟩ | exact ⟨rfl, Below.then hb1 hb9 hb1.size⟩
      · go_wp2_with fail
        refine (rf_ascending w1 _ b (HB.out.below hb1) (by have := Lb.out; omega)).mono ?_
        rintro e w2 ⟨rfl, hb2⟩
        have hB2 := Below.then hb1 hb2 hb1.size
        cases hxb : ascB b
        · clear HA HB
          go_wp2_with fail
          refine (law48_awake _).mono ?_
          rintro e w9 ⟨rfl, hb9⟩
          go_wp2
          go_ret
          first | exact ⟨rfl, hb9⟩ | exact ⟨rfl, Below.then hB2 hb9 hB2.size⟩ | exact ⟨rfl, Below.then hb1 hb9 hb1.size⟩
        · have Xa := Lib.hid (of_decide_eq_true hxa)
          have Xb := Lib.hid (of_decide_eq_true hxb)
          have HA2 := Lib.hid (HA.out.below hB2)
          have HB2 := Lib.hid (HB.out.below hB2)
          have Da := Lib.hid HA.out.2
          have Db := Lib.hid HB.out.2
          have Run := Lib.hid fun W (hW : Below w.heap.size w W) => rc_Run W _ _ a b (HA.out.below hW) (HB.out.below hW) La.out Lb.out
          clear hxa hxb hb1 hb2 HA HB h1 h2
          obtain ⟨z0, hz0⟩ : ∃ z, (bytesV zeroD).toArray = z := ⟨_, rfl⟩
          have Hzl : Hid (z0.size = 32) := Lib.hid (by rw [← hz0]; rfl)
          have Hzi : Hid ((Try.prog.info? 29).map (·.zero) = some (some (.agg z0))) := Lib.hid (by
            obtain ⟨idg, hidg, hzd, hsd, hbyd⟩ := info_parts infoDg
            rw [hidg, ← hz0]; simp [hzd]; rfl)
          have Nv := Lib.hid (run_never Xa.out Xb.out Da.out Db.out La.out Lb.out)
          have Lx : Hid ((runR a b).1.length ≤ 60) := Lib.hid (Nat.le_trans (nodup_len Nv.out.2.2.1.nodup Xb.out.nodup fun d hd => (Nv.out.1 d hd).1) Lb.out)
          have Ly : Hid ((runR a b).2.1.length ≤ 60) := Lib.hid (Nat.le_trans (nodup_len Nv.out.2.2.2.nodup Xa.out.nodup fun d hd => (Nv.out.2.1 d hd).1) La.out)
          clear hz0
          go_wp2_with fail
          refine (Run.out w2 hB2).mono ?_
          rintro e w3 ⟨u, v, rfl, hu, hv, hb3⟩
          have hB3 := Below.then hB2 hb3 hB2.size
          have HA3 := Lib.hid (HA2.out.below hb3)
          have HB3 := Lib.hid (HB2.out.below hb3)
          obtain ⟨ox, cx, rfl⟩ : ∃ o c, u = .slice o (runR a b).1.length c := by obtain ⟨⟨o, c, e, _⟩, _⟩ := hu; rw [digC_size] at e; exact ⟨o, c, e⟩
          obtain ⟨oy, cy, rfl⟩ : ∃ o c, v = .slice o (runR a b).2.1.length c := by obtain ⟨⟨o, c, e, _⟩, _⟩ := hv; rw [digC_size] at e; exact ⟨o, c, e⟩
          have HX := Lib.hid hu
          have HY := Lib.hid hv
          clear hu hv Run HA2 HB2

          obtain ⟨n1, hn1⟩ : ∃ n, (runR a b).1.length = n := ⟨_, rfl⟩
          obtain ⟨n2, hn2⟩ : ∃ n, (runR a b).2.1.length = n := ⟨_, rfl⟩
          have Hnx := Lib.hid hn1
          have Hny := Lib.hid hn2
          have hs1 : n1 ≤ 60 := by have := Lx.out; omega
          have hs2 : n2 ≤ 60 := by have := Ly.out; omega
          rw [hn1] at HX ⊢
          rw [hn2] at HY ⊢
          clear hn1 hn2
          go_wp2_with fail
          go_loopw [40] (fun a9 wr => ∃ k : Nat, k ≤ n1 ∧ a9 = .int .i64 k ∧ Below w3.heap.size w3 wr) (fun a9 _ => n1 - (intOf a9).toNat)
          case atStart => exact ⟨0, by omega, rfl, Below.refl _ _⟩

          case round =>
            obtain ⟨k, hk, rfl, hB⟩ := hrel
            by_cases hlt : k < n1
            · have hltl : k < (runR a b).1.length := by rw [Hnx.out]; exact hlt
              have hlt' : (k : Int) < (n1 : Int) := by omega
              obtain ⟨q, off, c', e', _, _, _, hq, hra⟩ := (HX.out.below hB).at hltl
              rw [Hnx.out] at e'
              obtain ⟨rfl, rfl⟩ : ox = some ⟨q, off, none⟩ ∧ cx = c' := by simpa using e'
              have hxl : (runR a b).1[k].length = 32 := HX.out.2 _ (List.getElem_mem hltl)
              have hmem := Nv.out.1 _ (List.getElem_mem hltl)
              have Hxl := Lib.hid hxl
              have Hxb : Hid ((bytesV (runR a b).1[k]).length = 32) := Lib.hid (by rw [bytesV_len, hxl])
              have Hone1 := Lib.hid (bytesV_one (runR a b).1[k])
              have Hra := Lib.hid hra
              generalize (runR a b).1[k] = x at *
              clear e' hltl hra hxl
              have hq2 := hq
              have hz := hB.size
              go_wp2_with (first
                | (refine wpList_load_mid rfl 29 (.tmp 42) rfl q (off + k * 32) rfl (bytesV x) _ Hra.out Try.underlying29 rfl (by rw [sizeDg, Hxb.out]) ?_)
                | (refine wpList_alloc_row rfl 29 rfl z0 Hzi.out ?_)
                | (refine wpList_store_mid rfl 29 (.tmp 9) (.tmp 43) rfl wr.heap.size 0 (bytesV x).toArray rfl rfl (there_bx (Bx.new wr z0 29) (by rw [Hzl.out, List.size_toArray, Hxb.out]; exact Nat.le_refl _)) (by rw [sizeDg, List.size_toArray, Hxb.out]) (by simpa using Hone1.out) ?_; have xx := (Bx.new wr z0 29).setAll (cx := (bytesV x).toArray) (by rw [Hzl.out, List.size_toArray, Hxb.out]); have hb6 : Below w3.heap.size w3 ((wr.alloc (.cells z0 29)).setCells wr.heap.size 0 (bytesV x).toArray.toList) := below_setCells hz _ _ _ (hB.alloc hz _); generalize (wr.alloc (.cells z0 29)).setCells wr.heap.size 0 (bytesV x).toArray.toList = w6 at *)
                | (refine wpList_load_mid rfl 29 (.tmp 9) rfl wr.heap.size 0 rfl (bytesV x) _ (by have := xx.range; simpa using this) Try.underlying29 rfl (by rw [sizeDg, Hxb.out]) ?_))
              have Xx := Lib.hid xx
              have Hb6 := Lib.hid hb6
              clear xx hb6 hB Hra
              refine (rf_In w6 _ b x (HB3.out.below Hb6.out) Hxl.out (by have := Lb.out; omega)).mono ?_
              rintro e w7 ⟨rfl, hb7⟩
              rw [decide_eq_true hmem.1]
              have Xx7 := Lib.hid (Xx.out.belowAll hb7)
              have hB7 := Below.then Hb6.out hb7 Hb6.out.size
              clear hb7 Xx Hb6
              go_wp2_with (first
                | (refine wpList_load_want (by first | rfl | kernel_rfl | decide) 29 (.tmp 9) rfl wr.heap.size 0 rfl (bytesV x) _ (by have := Xx7.out.range; simpa using this) Try.underlying29 rfl (by rw [sizeDg, Hxb.out]) ?_))
              refine (rf_In w7 _ a x (HA3.out.below hB7) Hxl.out (by have := La.out; omega)).mono ?_
              rintro e w8 ⟨rfl, hb8⟩
              rw [decide_eq_false hmem.2]
              have hB8 := Below.then hB7 hb8 hB7.size
              clear hb8 hB7 hmem
              go_wp2
              go_roundw
              case rel => exact ⟨k + 1, by omega, by go_num, hB8⟩
              case measure => simp [intOf]; omega
            · obtain rfl : k = n1 := by omega
              have hlt' : ¬ (k : Int) < (k : Int) := by omega
              obtain ⟨wm, rfl⟩ : ∃ x, x = wr := ⟨_, rfl⟩
              have HX4 := Lib.hid (HX.out.below hB)
              have HY4 := Lib.hid (HY.out.below hB)
              have HA4 := Lib.hid (HA3.out.below hB)
              have HB4 := Lib.hid (HB3.out.below hB)
              have hB4 := Below.then hB3 hB hB3.size
              clear hB HX HY HA3 HB3 hB3
              have HX := HX4
              have HY := HY4
              have HA3 := HA4
              have HB3 := HB4
              have hB3 := hB4
              clear HX4 HY4 HA4 HB4 hB4
              go_wp2_with fail
              go_loopw [56] (fun a9 wr => ∃ k : Nat, k ≤ n2 ∧ a9 = .int .i64 k ∧ Below wm.heap.size wm wr) (fun a9 _ => n2 - (intOf a9).toNat)
              case atStart => exact ⟨0, by omega, rfl, Below.refl _ _⟩

              case round =>
                obtain ⟨k, hk, rfl, hB⟩ := hrel
                by_cases hlt : k < n2
                · have hltl : k < (runR a b).2.1.length := by rw [Hny.out]; exact hlt
                  have hlt' : (k : Int) < (n2 : Int) := by omega
                  obtain ⟨q, off, c', e', _, _, _, hq, hra⟩ := (HY.out.below hB).at hltl
                  rw [Hny.out] at e'
                  obtain ⟨rfl, rfl⟩ : oy = some ⟨q, off, none⟩ ∧ cy = c' := by simpa using e'
                  have hxl : (runR a b).2.1[k].length = 32 := HY.out.2 _ (List.getElem_mem hltl)
                  have hmem := Nv.out.2.1 _ (List.getElem_mem hltl)
                  have Hxl := Lib.hid hxl
                  have Hxb : Hid ((bytesV (runR a b).2.1[k]).length = 32) := Lib.hid (by rw [bytesV_len, hxl])
                  have Hone1 := Lib.hid (bytesV_one (runR a b).2.1[k])
                  have Hra := Lib.hid hra
                  generalize (runR a b).2.1[k] = x at *
                  clear e' hltl hra hxl
                  have hq2 := hq
                  have hz := hB.size
                  go_wp2_with (first
                    | (refine wpList_load_mid rfl 29 (.tmp 58) rfl q (off + k * 32) rfl (bytesV x) _ Hra.out Try.underlying29 rfl (by rw [sizeDg, Hxb.out]) ?_)
                    | (refine wpList_alloc_row rfl 29 rfl z0 Hzi.out ?_)
                    | (refine wpList_store_mid rfl 29 (.tmp 11) (.tmp 59) rfl wr.heap.size 0 (bytesV x).toArray rfl rfl (there_bx (Bx.new wr z0 29) (by rw [Hzl.out, List.size_toArray, Hxb.out]; exact Nat.le_refl _)) (by rw [sizeDg, List.size_toArray, Hxb.out]) (by simpa using Hone1.out) ?_; have xx := (Bx.new wr z0 29).setAll (cx := (bytesV x).toArray) (by rw [Hzl.out, List.size_toArray, Hxb.out]); have hb6 : Below wm.heap.size wm ((wr.alloc (.cells z0 29)).setCells wr.heap.size 0 (bytesV x).toArray.toList) := below_setCells hz _ _ _ (hB.alloc hz _); generalize (wr.alloc (.cells z0 29)).setCells wr.heap.size 0 (bytesV x).toArray.toList = w6 at *)
                    | (refine wpList_load_mid rfl 29 (.tmp 11) rfl wr.heap.size 0 rfl (bytesV x) _ (by have := xx.range; simpa using this) Try.underlying29 rfl (by rw [sizeDg, Hxb.out]) ?_))
                  have Xx := Lib.hid xx
                  have Hb6 := Lib.hid hb6
                  clear xx hb6 hB Hra
                  refine (rf_In w6 _ a x (HA3.out.below Hb6.out) Hxl.out (by have := La.out; omega)).mono ?_
                  rintro e w7 ⟨rfl, hb7⟩
                  rw [decide_eq_true hmem.1]
                  have Xx7 := Lib.hid (Xx.out.belowAll hb7)
                  have hB7 := Below.then Hb6.out hb7 Hb6.out.size
                  clear hb7 Xx Hb6
                  go_wp2_with (first
                    | (refine wpList_load_want (by first | rfl | kernel_rfl | decide) 29 (.tmp 11) rfl wr.heap.size 0 rfl (bytesV x) _ (by have := Xx7.out.range; simpa using this) Try.underlying29 rfl (by rw [sizeDg, Hxb.out]) ?_))
                  refine (rf_In w7 _ b x (HB3.out.below hB7) Hxl.out (by have := Lb.out; omega)).mono ?_
                  rintro e w8 ⟨rfl, hb8⟩
                  rw [decide_eq_false hmem.2]
                  have hB8 := Below.then hB7 hb8 hB7.size
                  clear hb8 hB7 hmem
                  go_wp2
                  go_roundw
                  case rel => exact ⟨k + 1, by omega, by go_num, hB8⟩
                  case measure => simp [intOf]; omega
                · obtain rfl : k = n2 := by omega
                  have hlt' : ¬ (k : Int) < (k : Int) := by omega
                  have HX2 := Lib.hid (HX.out.below hB)
                  have HY2 := Lib.hid (HY.out.below hB)
                  go_wp2_with fail
                  refine (rf_ascending wr _ _ HX2.out (by have := Lx.out; omega)).mono ?_
                  rintro e w4 ⟨rfl, hb4⟩
                  rw [show ascB (runR a b).1 = true from decide_eq_true Nv.out.2.2.1]
                  have hB4 := Below.then hB hb4 hB.size
                  go_wp2_with fail
                  refine (rf_ascending w4 _ _ (HY2.out.below hb4) (by have := Ly.out; omega)).mono ?_
                  rintro e w5 ⟨rfl, hb5⟩
                  rw [show ascB (runR a b).2.1 = true from decide_eq_true Nv.out.2.2.2]
                  have hB5 := Below.then hB4 hb5 hB4.size
                  clear hb4 hb5 hB4 hB
                  go_wp2_with fail
                  refine (law48_awake _).mono ?_
                  rintro e w9 ⟨rfl, hb9⟩
                  go_wp2
                  go_ret
                  exact ⟨rfl, Below.then hB3 (Below.then hB5 hb9 hB5.size) hB3.size⟩
end Go.Proofs.Ytebgopdmeghmhaa
