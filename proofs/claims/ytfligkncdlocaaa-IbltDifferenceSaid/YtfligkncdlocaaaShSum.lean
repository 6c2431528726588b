/- sha256.Sum: the digest of a message. -/
import Derived.Test.YtfligkncdlocaaaShBlk
import Derived.Test.YtfligkncdlocaaaArrIn
namespace Go.Proofs.Ytfligkncdlocaaa
open Go.RowKit Go.Shelf

section
attribute [local go_sem] Oper.semAt_some
theorem blocks_in (n : Nat) (s : ByteArray) (w : World) : CallsIn Fence.wide n Try.prog 70 #[.string s] w fun e w' => e = .returned (.func (.func 79) #[] #[.pointer (some ⟨w.heap.size, 0, none⟩)]) ∧ w' = w.alloc (.cells #[.string s] 9) := by
  refine callsIn_of_wp Try.func70 rfl trivial ?_ rfl
  simp only [Try.ntmps70, List.size_toArray, List.length_cons, List.length_nil, Nat.reduceAdd, Nat.reduceSub, Array.replicate_succ, Array.replicate_zero, List.push_toArray, List.append_toArray, List.nil_append, List.cons_append]
  gi_wp2
  go_ret
  exact ⟨rfl, rfl⟩

set_option maxRecDepth 100000 in
set_option maxHeartbeats 1200000 in
theorem sha_sum (s : ByteArray) (hs : s.size ≤ 1000000000) (w : World) :
    Calls Try.prog 55 #[.string s] w fun e w' => e = .returned (dgV (sumL s.data.toList)) ∧ Below w.heap.size w w' := by
  obtain ⟨z, hz⟩ : ∃ z : Array Value, Array.replicate 32 (Value.int .u8 0) = z := ⟨_, rfl⟩
  have hz0 := zeroDg
  rw [hz] at hz0
  have hzs : z.size = 32 := by rw [← hz]; simp
  obtain ⟨y, hy⟩ : ∃ y : Array Value, Array.replicate 8 (Value.int .u32 0) = y := ⟨_, rfl⟩
  have hy0 := zeroH
  rw [hy] at hy0
  have hys : y.size = 8 := by rw [← hy]; simp
  obtain ⟨cI, hcI⟩ : ∃ c, (u32s shaI).toArray = c := ⟨_, rfl⟩
  have hini := sha_initial
  rw [hcI] at hini
  have hIs : cI.size = 8 := by rw [← hcI]; rfl
  have hI1 : cI.all (·.oneCell') = true := by rw [← hcI]; exact u32s_one _
  have HZ := Lib.hid hz
  have Z0 := Lib.hid hz0
  have Zs := Lib.hid hzs
  have Y0 := Lib.hid hy0
  have Ys := Lib.hid hys
  have Hini := Lib.hid hini
  have HcI := Lib.hid hcI
  have HIs := Lib.hid hIs
  have HI1 := Lib.hid hI1
  clear hz hz0 hzs hy hy0 hys hini hcI hIs hI1
  obtain ⟨n, hn⟩ : ∃ n, 9 ≤ n := ⟨9, Nat.le_refl _⟩
  refine (callsIn_wide (n := n)).1 ?_
  have hro : Fence.wide.round = none := rfl
  have h1 : 1 ≤ n := by omega
  refine callsIn_of_wp_marks Try.func55 rfl trivial ?_ hro
  simp only [Try.ntmps55, List.size_toArray, List.length_cons, List.length_nil, Nat.reduceAdd, Nat.reduceSub, Array.replicate_succ, Array.replicate_zero, List.push_toArray, List.append_toArray, List.nil_append, List.cons_append]
  gi_wp2_with (first
    | (refine wpListIn_alloc_row rfl 31 rfl z Z0.out ?_)
    | (refine ⟨trivial, ?_⟩; gi_at_call 69; refine (callsIn_wide.2 (Hini.out _)).mono ?_))
  rintro e w1 ⟨rfl, hb1⟩
  have xd := (Bx.new w z 31).belowAll hb1
  have hB1 := Below.then (Below.one w (.cells z 31)) hb1 (by simp)
  have hlt1 := xd.lt
  gi_wp2_with (first
    | (refine wpListIn_alloc_row rfl 89 rfl y Y0.out ?_)
    | (refine wpListIn_store_mid rfl 89 (.tmp 3) (.tmp 9) rfl w1.heap.size 0 cI rfl rfl (there_bx (Bx.new w1 y 89) (by rw [HIs.out, Ys.out]; exact Nat.le_refl _)) (by rw [sizeH, HIs.out]) HI1.out ?_)
    | (refine ⟨trivial, ?_⟩; gi_at_call 70; refine (blocks_in _ _ _).mono ?_; rintro e w' ⟨rfl, rfl⟩))
  obtain ⟨w0, hw0⟩ : ∃ w0, (w1.alloc (.cells y 89)).setCells w1.heap.size 0 cI.toList = w0 := ⟨_, rfl⟩
  have hz0 : w0.heap.size = w1.heap.size + 1 := by rw [← hw0, size_setCells]; simp
  have xs := (Bx.new w1 y 89).setAll (cx := cI) (by rw [HIs.out, Ys.out])
  have xd0 := (xd.alloc (.cells y 89)).setCellsO (b' := w1.heap.size) (by omega) cI.toList 0
  have hB0 := below_setCells (b := w1.heap.size) (by omega) cI.toList 0 _ (hB1.alloc (by omega) (.cells y 89))
  rw [hw0] at xs xd0 hB0
  rw [hw0]
  have xs0 := xs.alloc (.cells #[.string s] 9)
  have xd0 := xd0.alloc (.cells #[.string s] 9)
  have xB0 := Bx.newAt w0 #[.string s] 9 _ hz0.symm
  have hB0 := hB0.alloc (by omega) (.cells #[.string s] 9)
  rw [hz0]
  obtain ⟨W0, hW0⟩ : ∃ W0, w0.alloc (.cells #[.string s] 9) = W0 := ⟨_, rfl⟩
  have hzW : W0.heap.size = w1.heap.size + 2 := by rw [← hW0]; simp [hz0]
  rw [hW0] at xs0 xd0 xB0 hB0
  rw [hW0]
  have HzW := Lib.hid hzW
  rw [← HcI.out, show (u32s shaI).toArray = (u32s (stL (([] : List Blk).map Blk.b))).toArray from rfl] at xs0
  clear hw0 hW0 hz0 xs xd hB1 hb1
  refine rangeFunc_run2 hro h1 (gf := 79) (lb := #[.pointer (some ⟨w1.heap.size + 1, 0, none⟩)]) rfl trivial (enters_of Try.func79 (by kernel_rfl) rfl)
    (encs := fun x : Blk => #[Value.string x.1]) (T := fun b => b = w1.heap.size + 1 ∨ W0.heap.size + 2 ≤ b) (S := fun ys => ys = blkBs s.data.toList) (N := nBlk s.data.toList)
    (fun W1 hz1 hb1 => blocks_runs (n - 1) (by omega) s hs (w1.heap.size + 1) _ W1 (.inl rfl) (fun b h => .inr (by omega)) (xB0.belowAll hb1))
    (by rintro (h | h) <;> omega) (fun _ => rfl)
    (fun (pre : List Blk) W => Bx W w1.heap.size (u32s (stL (pre.map Blk.b))).toArray 89 ∧ Bx W w.heap.size z 31 ∧ Below w.heap.size w W)
    (fun pre W W' row h hg hr => ⟨h.1.grown hg (fun e => by have := hr _ e.symm; omega), h.2.1.grown hg (fun e => by have := hr _ e.symm; omega), h.2.2.grown hg h.2.2.size (fun k e => by have := hr _ e; omega)⟩)
    ⟨xs0, xd0, hB0⟩
    (fun x => { tmps := #[.string s, undef, .pointer (some ⟨w.heap.size, 0, none⟩), .pointer (some ⟨w1.heap.size, 0, none⟩), .string x.1, undef, undef, undef, undef, .agg cI, .string s, .func (.func 79) #[] #[.pointer (some ⟨w1.heap.size + 1, 0, none⟩)], .string x.1, undef, undef, undef, undef, undef, undef, undef, undef, undef, undef, undef, undef, undef, undef, undef, undef, undef, undef, undef, undef, undef, undef, undef, undef, undef], defers := [] }) ?assign ?body ?done
  case assign =>
    intro l x W K hK
    gi_wp2
    exact hK
  case body =>
    rintro l pre x W ⟨xs, xd, hB⟩ hWz hlt
    obtain ⟨cs, hcs⟩ : ∃ c, (u32s (stL (pre.map Blk.b))).toArray = c := ⟨_, rfl⟩
    obtain ⟨cx, hcx⟩ : ∃ c, (u32s (stL ((pre ++ [x]).map Blk.b))).toArray = c := ⟨_, rfl⟩
    have hcomp : ∀ V, Calls Try.prog 71 #[.agg cs, .string x.1] V fun e w' => e = .returned (.agg cx) ∧ Below V.heap.size V w' := fun V => by
      have := sha_compress (stL (pre.map Blk.b)) (stL_len _) x.1 x.2 V
      rw [hcs, ← stL_snocB, hcx] at this
      exact this
    have hsz : cs.size = 8 := by rw [← hcs]; simp [u32s, stL_len]
    have hxz : cx.size = 8 := by rw [← hcx]; simp only [u32s, List.size_toArray, List.length_map]; exact stL_len _
    have hx1 : cx.all (·.oneCell') = true := by rw [← hcx]; exact u32s_one _
    have Hcx := Lib.hid hcx
    have Hcomp := Lib.hid hcomp
    have Hsz := Lib.hid hsz
    have Hxz := Lib.hid hxz
    have Hx1 := Lib.hid hx1
    rw [hcs] at xs
    clear hcx hcomp hsz hxz hx1 hcs xs0 xd0 hB0 xB0
    gi_wp2_with (refine wpListIn_load_mid rfl 89 (.tmp 3) rfl w1.heap.size 0 rfl cs.toList _ xs.range Try.underlying89 rfl (by rw [sizeH]; simp [Hsz.out]) ?_)
    refine ⟨trivial, fun h => (by simp [Fence.wide] at h), ?_⟩
    refine (CallsIn.inRound l (callsIn_wide.2 (Hcomp.out _))).mono ?_
    rintro e w' ⟨rfl, hb'⟩
    have xs' := xs.belowAll hb'
    have xd' := xd.belowAll hb'
    have hB' := Below.then hB hb' hB.size
    gi_wp2_with (refine wpListIn_store_mid rfl 89 (.tmp 3) (.tmp 15) rfl w1.heap.size 0 cx rfl rfl (there_bx xs' (by rw [Hxz.out, Hsz.out]; exact Nat.le_refl _)) (by rw [sizeH, Hxz.out]) Hx1.out ?_)
    have hk := hb'.block W0.heap.size (by omega)
    have hk1 := hb'.block (W0.heap.size + 1) (by omega)
    refine ⟨(heap_setCells (by omega) _ _ _).trans hk, (heap_setCells (by omega) _ _ _).trans hk1, (KeepT.of_below hb' (Nat.le_refl _)).trans (KeepT.setCells (by rintro (h | h) <;> omega) _ _ _), ?_, xd'.setCellsO (by omega) _ _, below_setCells (by omega) _ _ _ hB'⟩
    rw [Hcx.out]
    exact xs'.setAll (cx := cx) (by rw [Hxz.out, Hsz.out])
  case done =>
    rintro xs W rfl ⟨xs, xd, hB⟩ hK
    rw [blkBs_vals] at xs
    obtain ⟨st, hst⟩ : ∃ st, stL (blks s.data.toList) = st := ⟨_, rfl⟩
    have hsl : st.length = 8 := by rw [← hst]; exact stL_len _
    have hsum : sumL s.data.toList = outD st := by rw [← hst]; rfl
    have Hsum := Lib.hid hsum
    rw [hst] at xs
    obtain ⟨cs, hcs⟩ : ∃ c, (u32s st).toArray = c := ⟨_, rfl⟩
    have hsz : cs.size = 8 := by rw [← hcs]; simp [u32s, hsl]
    have Hcs := Lib.hid hcs
    have Hsz := Lib.hid hsz
    have Hsl := Lib.hid hsl
    rw [hcs] at xs
    have HW0 : Hid (w.heap.size < W0.heap.size) := Lib.hid (by omega)
    clear hcs hsz hsl hst hsum xs0 xd0 hB0 xB0 hzW hs
    obtain ⟨nD, hnD⟩ : ∃ nD, W.heap.size = nD := ⟨_, rfl⟩
    have HnD := Lib.hid hnD
    have xD := Bx.new W z 31
    have xs := xs.alloc (.cells z 31)
    have xd := xd.alloc (.cells z 31)
    have hKd := (Below.heap_alloc W (.cells z 31) W0.heap.size (Array.getElem?_eq_some_iff.1 hK).1).trans hK
    have hlK : W0.heap.size < nD := by rw [← hnD]; exact (Array.getElem?_eq_some_iff.1 hK).1
    have hB2 := hB.alloc hB.size (.cells z 31)
    clear hK hB
    gi_wp2_with (first
      | (refine wpListIn_alloc_row rfl 31 rfl z Z0.out ?_)
      | (refine wpListIn_load_mid rfl 89 (.tmp 3) rfl w1.heap.size 0 rfl cs.toList _ xs.range Try.underlying89 rfl (by rw [sizeH]; simp [Hsz.out]) ?_))
    generalize W.alloc (.cells z 31) = W2 at *
    rw [hnD] at xD
    clear hnD
    rw [← HZ.out, show Array.replicate 32 (Value.int .u8 0) = (bytesV (dP st (4 * 0))).toArray from rfl] at xD
    gi_loopw [17] (fun i wr => ∃ k : Nat, k ≤ 8 ∧ i = .int .i64 k ∧ Bx wr nD (bytesV (dP st (4 * k))).toArray 31 ∧ Bx wr w.heap.size z 31 ∧ wr.heap[W0.heap.size]? = some (.deferred (some [])) ∧ Below w.heap.size w wr) (fun i _ => 8 - (intOf i).toNat)
    case atStart => exact ⟨0, by omega, rfl, xD, xd, hKd, hB2⟩
    case round =>
      clear xD xd hKd hB2 xs
      obtain ⟨k, hk, rfl, xD, xd, hKd, hB⟩ := hrel
      by_cases hlt : k < 8
      · have hlt' : (k : Int) < 8 := by omega
        have gi : Hid (cs[k]? = some (.int .u32 (wv (st.getD k 0)))) := Lib.hid (by rw [← Hcs.out, u32s_get (by rw [Hsl.out]; exact hlt)])
        gi_wp2_with (refine wpListIn_index_cell rfl 89 (.tmp 16) (.tmp 17) rfl cs rfl k rfl 8 86 Try.underlying89 .u32 Try.underlying86 rfl hlt _ gi.out ?_)
        clear gi
        gi_loopw [21] (fun i wr => ∃ j : Nat, j ≤ 4 ∧ i = .int .i64 j ∧ Bx wr nD (bytesV (dP st (4 * k + j))).toArray 31 ∧ Bx wr w.heap.size z 31 ∧ wr.heap[W0.heap.size]? = some (.deferred (some [])) ∧ Below w.heap.size w wr) (fun i _ => 4 - (intOf i).toNat)
        case atStart => exact ⟨0, by omega, rfl, xD, xd, hKd, hB⟩
        case round =>
          clear xD xd hKd hB
          obtain ⟨j, hj, rfl, xD, xd, hKd, hB⟩ := hrel
          by_cases hltj : j < 4
          · have hltj' : (j : Int) < 4 := by omega
            have i0 : (0 : Int) ≤ 24 - 8 * (j : Int) := by omega
            have t0 : (24 - 8 * (j : Int)).toNat = 24 - 8 * j := by omega
            have i1 : (0 : Int) ≤ 4 * (k : Int) + (j : Int) := by omega
            have i2 : 4 * (k : Int) + (j : Int) < 32 := by omega
            have t1 : (4 * (k : Int) + (j : Int)).toNat = 4 * k + j := by omega
            have i3 : 8 * (j : Int) ≤ 24 := by omega
            obtain ⟨x0, cD⟩ : ∃ x0, wr.cell? ⟨nD, 4 * k + j, none⟩ = some (.int .u8 x0) := by
              have hDl := dP_len (st := st) (m := 4 * k + j) (by omega)
              exact ⟨_, by rw [xD.cell, bytesV_get (by omega)]⟩
            have fD := xD.free (4 * k + j)
            have lD := xD.lt
            gi_wp2
            rw [show wv (st[k]?.getD 0) / 2 ^ (24 - 8 * j) % 256 = ((outB st (4 * k + j)).toNat : Int) from out_val st k j hltj]
            have hlW := Hid.out HW0
            go_roundw
            case rel =>
              refine ⟨j + 1, by omega, by go_num, ?_, xd.setO (a := ⟨nD, 4 * k + j, none⟩) (by simp; omega) _, (Below.heap_setCell wr ⟨nD, 4 * k + j, none⟩ _ _ (by simp; omega)).trans hKd, below_set1 hB (by omega)⟩
              have := xD.set (4 * k + j) (.int .u8 ((outB st (4 * k + j)).toNat : Int))
              rw [bytesV_set, dP_set (by omega)] at this
              exact this
            case measure => simp [intOf]; omega
          · obtain rfl : j = 4 := by omega
            have hltj' : ¬ ((4 : Nat) : Int) < 4 := by omega
            rw [show 4 * k + 4 = 4 * (k + 1) by omega] at xD
            gi_wp2
            go_roundw
            case rel => exact ⟨k + 1, by omega, by go_num, xD, xd, hKd, hB⟩
            case measure => simp [intOf]; omega
      · obtain rfl : k = 8 := by omega
        have hlt' : ¬ ((8 : Nat) : Int) < 8 := by omega
        rw [show 4 * 8 = 32 from rfl, dP_all] at xD
        obtain ⟨cx, hcx⟩ : ∃ cx, (bytesV (outD st)).toArray = cx := ⟨_, rfl⟩
        have hxz : cx.size = 32 := by rw [← hcx]; simp [bytesV, outD_len]
        have hx1 : cx.all (·.oneCell') = true := by rw [← hcx]; exact all_oneCell_toArray (bytesV_one _)
        rw [hcx] at xD
        have Hcx := Lib.hid hcx
        have Hxz := Lib.hid hxz
        have Hx1 := Lib.hid hx1
        clear hcx hxz hx1
        gi_wp2_with (first
          | (refine wpListIn_load_mid rfl 31 (.tmp 5) rfl nD 0 rfl cx.toList _ xD.range Try.underlying31 rfl (by rw [sizeDg]; simp [Hxz.out]) ?_)
          | (refine wpListIn_store_mid rfl 31 (.tmp 2) (.tmp 37) rfl w.heap.size 0 cx rfl rfl (there_bx xd (by rw [Hxz.out, Zs.out]; exact Nat.le_refl _)) (by rw [sizeDg, Hxz.out]) Hx1.out ?_))
        have xd2 := xd.setAll (cx := cx) (by rw [Hxz.out, Zs.out])
        have hl0 := Hid.out HW0
        have zK := (heap_setCells (by omega : W0.heap.size ≠ w.heap.size) cx.toList 0 wr).trans hKd
        have zB := below_setCells (b := w.heap.size) (Nat.le_refl _) cx.toList 0 _ hB
        refine ⟨by simp, .inl ⟨_, _, rfl, run_takeDeferred zK, ?_⟩⟩
        have xd3 := bx_own xd2 (grownBy_putObj' _ W0.heap.size (.deferred none)) (fun r e => by cases e; exact ⟨_, zK, rfl⟩)
        refine ⟨.agg cx, results_cell_row (d := .array 32 5) Try.results55 _ _ w.heap.size _ _ _ rfl xd3 Try.underlying31 rfl (by rw [sizeDg, Hxz.out]), ?_⟩
        refine ⟨by rw [Hsum.out, ← Hcx.out]; rfl, ?_⟩
        exact zB.trans (belowK_b (w := w) (Nat.le_refl _) _ W0.heap.size _ _ (by omega) zK rfl rfl)
end
end Go.Proofs.Ytfligkncdlocaaa
