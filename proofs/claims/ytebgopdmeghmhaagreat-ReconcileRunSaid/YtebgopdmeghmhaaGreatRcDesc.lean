/- strings.Builder: copyCheck, Write, String. quiltref48.Print. reconcile.Print. reconcile.summary. reconcile.describe. -/
import Derived.Test.YtebgopdmeghmhaaGreatRcAcc
import Derived.Lib.Builder
import Derived.Lib.UnsafeStr
import Derived.Laws.Externs
import Derived.RegionTactic
import Derived.ChangeAlike
import Derived.Test.YtebgopdmeghmhaaGreatIbChk
import Derived.Test.YtebgopdmeghmhaaGreatRcCheck
import Derived.Test.YtebgopdmeghmhaaGreatRcSpec
import Derived.Test.YtebgopdmeghmhaaGreatRcMap
namespace Go.Proofs.YtebgopdmeghmhaaGreat
open Go.RowKit

theorem sizeBd : (Tryz.prog.info? 96).map (·.size) = some 2 := by kernel_rfl
theorem liesBd : liesAt Tryz.prog Tryz.prog.depth 96 (2 / Tryz.prog.cellsOf 96) 0 96 1 = true := by kernel_rfl
theorem cellsU8 : Tryz.prog.cellsOf 5 = 1 := by kernel_rfl
abbrev BdAt := Lib.BuilderAt 96 5
abbrev IsBd := Lib.IsBuilder 96 5
set_option maxHeartbeats 1000000 in
set_option maxRecDepth 100000 in
theorem bd_check_used (b : Nat) (w : World) (h0 : w.cell? ⟨b, 0, none⟩ = some (.pointer (some ⟨b, 0, none⟩))) :
    Calls Tryz.prog 98 #[.pointer (some ⟨b, 0, none⟩)] w fun e w' => e = .returned (.tuple #[]) ∧ w = w' := by
  obtain ⟨j, hj, _⟩ := Option.map_eq_some_iff.1 sizeBd
  have hr := Lib.run_neq_ptr_same (P := Tryz.prog) w ⟨b, 0, none⟩ Tryz.underlying94 hj
  go_enter Tryz.func98, Tryz.ntmps98
  go_wp2
  go_end0
  exact ⟨rfl, rfl⟩
set_option maxHeartbeats 1000000 in
set_option maxRecDepth 100000 in
theorem bd_check_fresh (b : Nat) (w : World) (h0 : w.cell? ⟨b, 0, none⟩ = some (.pointer none)) (hsh : w.shape? b = some (96, 2)) (hfz : w.frozen? ⟨b, 0, none⟩ = false) :
    Calls Tryz.prog 98 #[.pointer (some ⟨b, 0, none⟩)] w fun e w' => e = .returned (.tuple #[]) ∧ w' = w.setCell ⟨b, 0, none⟩ (.pointer (some ⟨b, 0, none⟩)) := by
  obtain ⟨j, hj, hjs⟩ := Option.map_eq_some_iff.1 sizeBd
  have h1 := Lib.run_to_unsafe (P := Tryz.prog) w ⟨b, 0, none⟩ Tryz.underlying94 Tryz.underlying133 hj (by rw [hjs]; decide) hsh (Nat.zero_lt_succ 1)
  have h2 := Lib.run_from_unsafe (P := Tryz.prog) w ⟨b, 0, none⟩ Tryz.underlying133 Tryz.underlying94 hj hsh liesBd
  go_enter Tryz.func98, Tryz.ntmps98
  go_wp2
  rw [run_callFunc_extern Tryz.func111 (by kernel_rfl) (by kernel_rfl) (by kernel_rfl) (e := Extern.AbiNoEscape.same) (by kernel_rfl)]
  rw [Lib.run_noEscape]
  simp only [Result.andThen]
  rw [Oper.upon_value]
  go_wp2
  go_end0
  exact ⟨rfl, rfl⟩
theorem bd_check {B b : Nat} {bs : List Value} {w : World} (h : IsBd B b bs w) :
    Calls Tryz.prog 98 #[.pointer (some ⟨b, 0, none⟩)] w fun e w' => e = .returned (.tuple #[]) ∧ BdAt B b (.pointer (some ⟨b, 0, none⟩)) bs w' ∧ (∀ k, k ≠ b → w'.heap[k]? = w.heap[k]?) ∧ w'.heap.size = w.heap.size ∧ Below B w w' := by
  rcases h with h | h
  · refine (bd_check_fresh b w h.cell0 h.shape h.frozen0).mono ?_
    rintro e w' ⟨rfl, rfl⟩
    exact ⟨rfl, h.used _, fun k hk => Below.heap_setCell w _ _ k hk, by simp, (Below.refl B w).setCell (p := ⟨b, 0, none⟩) h.1 _⟩
  · refine (bd_check_used b w h.cell0).mono ?_
    rintro e w' ⟨rfl, rfl⟩
    exact ⟨rfl, h, fun _ _ => rfl, rfl, Below.refl B _⟩
set_option maxHeartbeats 2000000 in
set_option maxRecDepth 100000 in
/-- Write of bytes that do not lie in the builder -/
theorem bd_Write {B b : Nat} {bs : List Value} {w : World} (h : IsBd B b bs w) (g : Nat) (l : List UInt8) (hg : w.rangeAt g 0 (bytesV l)) (hgb : g ≠ b) (hlen : bs.length + l.length ≤ 140737488355328) (hBw : B ≤ w.heap.size) :
    Calls Tryz.prog 81 #[.pointer (some ⟨b, 0, none⟩), .slice (some ⟨g, 0, none⟩) l.length l.length] w fun e w' => e = .returned (.tuple #[.int .i64 l.length, .nilIface]) ∧ BdAt B b (.pointer (some ⟨b, 0, none⟩)) (bs ++ bytesV l) w' ∧ Below B w w' := by
  obtain ⟨i0, hi, hz0, hz1, hz2⟩ := info_parts infoU8
  have Hi := Lib.hid (And.intro hi (And.intro hz0 (And.intro hz1 hz2)))
  have Hck := Lib.hid (bd_check h)
  have Hg := Lib.hid hg
  have Hlen := Lib.hid hlen
  obtain ⟨n, hn⟩ : ∃ n, l.length = n := ⟨_, rfl⟩
  have Hn := Lib.hid hn
  rw [hn]
  clear hi hz0 hz1 hz2 h hg hn hlen
  go_enter Tryz.func81, Tryz.ntmps81
  go_wp2_with fail
  refine Hck.out.mono ?_
  rintro e w1 ⟨rfl, h1, hk1, hz1, hb1⟩
  obtain ⟨hB, v, hbk, hown, hne⟩ := h1
  have c1 : w1.cell? ⟨b, 1, none⟩ = some v := by rw [Lib.cell_of_heap hbk]; rfl
  have Hown := Lib.hid hown
  have Hbk := Lib.hid hbk
  have Hne := Lib.hid hne
  have Hrow : Hid (RowAt (fun _ => True) w1 (some ⟨g, 0, none⟩) (bytesV l)) := Lib.hid (by
    intro j hj
    refine ⟨g, 0, rfl, ?_, trivial⟩
    rw [World.cell?_of_block (w := w) (hk1 g hgb)]
    exact Hg.out j _ (List.getElem?_eq_getElem hj))
  have Hz1 := Lib.hid hz1
  clear hown hbk hne hk1 hz1
  have hlt : b < w1.heap.size := (Array.getElem?_eq_some_iff.1 Hbk.out).1
  go_wp2_with (at_builtin; refine wpList_app rfl (.tmp 12) (.tmp 13) 79 rfl B 5 i0 _ 1 1 Tryz.underlying79 Hi.out.1 Hi.out.2.1 Hi.out.2.2.1 Hi.out.2.2.2 (by simp [Value.cells]) (by decide) _ _ _ rfl Hown.out (some ⟨g, 0, none⟩) n n (bytesV l) rfl (fun h => by cases h) (by rw [bytesV_len, Hn.out, Nat.mul_one]) Hrow.out (bytesV_one l) (by have := Hlen.out; have := Hn.out; unfold maxLen; omega) (by have := Hlen.out; have := Hn.out; omega) (by have := Hz1.out; omega) ?_; intro v' w2 hown' hgrow; obtain ⟨ao, n', cap, rfl⟩ := ownsRow_slice hown'; have Hb2 : Hid (w2.heap[b]? = some (.cells #[.pointer (some ⟨b, 0, none⟩), v] 96 (0, 0))) := Lib.hid (by rw [hgrow.block b hlt (fun e => Hne.out e.symm)]; exact Hbk.out); have d1 : w2.cell? ⟨b, 1, none⟩ = some v := (by rw [Lib.cell_of_heap Hb2.out]; rfl); have f1 : w2.frozen? ⟨b, 1, none⟩ = false := Lib.frozen_of_heap Hb2.out 1; have Hown' := Lib.hid hown'; have HB := Lib.hid (hb1.grown hgrow (by have := Hz1.out; omega) (fun k hk => (Hown.out.lt k hk).1)); clear hown' hgrow c1)
  go_ret2
  refine ⟨rfl, ?_, HB.out.setCell (p := ⟨b, 1, none⟩) hB _⟩
  exact Lib.BuilderAt.put (T := 96) (e := 5) hB Hb2.out (bs' := bs ++ bytesV l) (by simpa [bytesV_len, Hn.out] using Hown'.out) (by decide)
set_option maxHeartbeats 1000000 in
set_option maxRecDepth 100000 in
theorem bd_String {B b : Nat} {l : List UInt8} {w : World} (h : IsBd B b (bytesV l) w) (h0 : l ≠ []) :
    Calls Tryz.prog 83 #[.pointer (some ⟨b, 0, none⟩)] w fun e w' => e = .returned (.string ⟨l.toArray⟩) ∧ Below B w w' := by
  obtain ⟨p, hB, v, hbk, hown, hne⟩ : ∃ p, BdAt B b p (bytesV l) w := by
    rcases h with h | h
    · exact ⟨_, h⟩
    · exact ⟨_, h⟩
  have hl0 : l.length ≠ 0 := by simpa using h0
  rw [bytesV_len] at hown
  obtain ⟨g, cap, cur, rfl, hbg, hg, hnc, hcm, hcs, htake⟩ : ∃ g cap cur, v = .slice (some ⟨g, 0, none⟩) l.length cap ∧ B ≤ g ∧ w.heap[g]? = some (.cells cur 5 (0, 0)) ∧ l.length ≤ cap ∧ cap ≤ maxLen ∧ cur.size = cap * 1 ∧ cur.toList.take (l.length * 1) = bytesV l := by
    rcases hown.2 with ⟨_, hz⟩ | ⟨g, cap, cur, hv, r⟩
    · exact absurd hz hl0
    · exact ⟨g, cap, cur, hv, r⟩
  have c1 : w.drew.cell? ⟨b, 1, none⟩ = some (.slice (some ⟨g, 0, none⟩) l.length cap) := by
    have : w.drew.heap[b]? = some (.cells #[p, .slice (some ⟨g, 0, none⟩) l.length cap] 96 (0, 0)) := hbk
    rw [Lib.cell_of_heap this]; rfl
  have hSD : (Builtin.unsafeSliceData_ #[79] 121 #[.slice (some ⟨g, 0, none⟩) l.length cap]).run Tryz.prog w.drew = .ok (.pointer (some ⟨g, 0, none⟩)) w.drew :=
    Lib.run_unsafeSliceData_row _ _ _ _ _ _ (by omega)
  have hUS : (Builtin.unsafeString_ #[121, 3] 9 #[.pointer (some ⟨g, 0, none⟩), .int .i64 l.length]).run Tryz.prog w.drew = .ok (.string ⟨l.toArray⟩) (w.drew.freeze ⟨g, 0, none⟩ l.length) := by
    refine Lib.run_unsafeString_row w.drew 121 3 9 5 Tryz.underlying121 cellsU8 g cur.size (by have hg' : w.drew.heap[g]? = some (.cells cur 5 (0, 0)) := hg; simp [World.shape?, hg']) l h0 (by omega) (by unfold maxLen at hcm; omega) ?_
    intro j x hx
    have := hown.cells (g := g) rfl j (.int .u8 x.toNat) (by simp [bytesV, hx])
    exact this
  clear hbk hown hne h hg htake hcs
  go_enter Tryz.func83, Tryz.ntmps83
  go_wp2
  go_region
  all_goals (go_wp2; go_ret; exact ⟨rfl, Lib.below_freeze (Below.drew (Below.refl B w)) (p := ⟨g, 0, none⟩) hbg _⟩)
set_option maxHeartbeats 1000000 in
set_option maxRecDepth 100000 in
theorem bd_String_nil {B b : Nat} {p : Value} {w : World} (hbk : w.heap[b]? = some (.cells #[p, .slice none 0 0] 96 (0, 0))) :
    Calls Tryz.prog 83 #[.pointer (some ⟨b, 0, none⟩)] w fun e w' => e = .returned (.string ⟨#[]⟩) ∧ Below B w w' := by
  have hUS : ∀ W : World, (Builtin.unsafeString_ #[121, 3] 9 #[.pointer none, .int .i64 0]).run Tryz.prog W = .ok (.string .empty) W := fun W => Lib.run_unsafeString_none W _ _ _ none
  have c1 : w.drew.cell? ⟨b, 1, none⟩ = some (.slice none 0 0) := by
    have : w.drew.heap[b]? = some (.cells #[p, .slice none 0 0] 96 (0, 0)) := hbk
    rw [Lib.cell_of_heap this]; rfl
  have hSD : (Builtin.unsafeSliceData_ #[79] 121 #[.slice none 0 0]).run Tryz.prog w.drew = .ok (.pointer none) w.drew := rfl
  clear hbk
  go_enter Tryz.func83, Tryz.ntmps83
  go_wp2
  go_region
  all_goals (go_wp2; go_ret; exact ⟨rfl, Below.drew (Below.refl B w)⟩)
end Go.Proofs.YtebgopdmeghmhaaGreat
namespace Go.Proofs.YtebgopdmeghmhaaGreat
open Go.RowKit

theorem flat32 {l : List (List UInt8)} (h : Dok l) : l.flatten.length = l.length * 32 := flat_len h
set_option maxRecDepth 100000 in
set_option maxHeartbeats 2000000 in
theorem rf_Print {S : Nat → Prop} (w : World) (v : Value) (l : List (List UInt8)) (h : DigR S w v l) (hm : l.length ≤ 1000000) :
    Calls Tryz.prog 41 #[v] w fun e w' => e = .returned (dgV (printD l)) ∧ Below w.heap.size w w' := by
  obtain ⟨o, c, rfl⟩ : ∃ o c, v = .slice o l.length c := by obtain ⟨⟨o, c, e, _⟩, _⟩ := h; rw [digC_size] at e; exact ⟨o, c, e⟩
  obtain ⟨idg, hidg, hzd, hsd, hbyd⟩ := info_parts infoDg
  obtain ⟨z0, hz0⟩ : ∃ z, (.agg (List.replicate 32 (Value.int .u8 0)).toArray : Value) = .agg z := ⟨_, rfl⟩
  have hzl : z0.size = 32 := by injection hz0 with e; rw [← e]; simp
  have Hzi : Hid ((Tryz.prog.info? 39).map (·.zero) = some (some (.agg z0))) := Lib.hid (by rw [hidg, ← hz0]; simp only [Option.map_some, hzd]; rfl)
  have Hzl := Lib.hid hzl
  have HD := Lib.hid h
  have x0 := Lib.hid (Bx.new w z0 39)
  have hB1 : Below w.heap.size w (w.alloc (.cells z0 39)) := Below.one w _
  obtain ⟨n, hln⟩ : ∃ n, l.length = n := ⟨_, rfl⟩
  have Hn := Lib.hid hln
  rw [hln] at HD hm ⊢
  clear hidg hzd hsd hbyd hz0 hzl h hln
  go_enter Tryz.func41, Tryz.ntmps41
  go_wp2_with (refine wpList_alloc_row rfl 39 rfl z0 Hzi.out ?_; generalize w.alloc (.cells z0 39) = w1 at *)
  go_loopw [3, 4] (fun s i wr => ∃ (k : Nat) (q : ByteArray), k ≤ n ∧ s = .string q ∧ i = .int .i64 k ∧ Hid (q = sB (l.take k).flatten ∧ q.size = k * 32) ∧ Bx wr w.heap.size z0 39 ∧ Below w.heap.size w wr) (fun _ i _ => n - (intOf i).toNat)
  case atStart => exact ⟨0, ⟨#[]⟩, by omega, rfl, rfl, Lib.hid ⟨rfl, rfl⟩, x0.out, hB1⟩
  case round =>
    clear x0 hB1
    obtain ⟨k, q, hk, rfl, rfl, Hq, hX, hB⟩ := hrel
    have HX := Lib.hid hX
    clear hX
    by_cases hlt : k < n
    · have hltl : k < l.length := by rw [Hn.out]; exact hlt
      have hlt' : (k : Int) < (n : Int) := by omega
      obtain ⟨b, off, c', e', _, _, _, hb, hra⟩ := (HD.out.below hB).at hltl
      rw [Hn.out] at e'
      obtain ⟨rfl, rfl⟩ : o = some ⟨b, off, none⟩ ∧ c = c' := by simpa using e'
      have hxl : l[k].length = 32 := HD.out.2 _ (List.getElem_mem hltl)
      have Hxb : Hid ((bytesV l[k]).length = 32) := Lib.hid (by rw [bytesV_len, hxl])
      have Hra := Lib.hid hra
      have Hby := Lib.hid (fun W => ref02_bytes l[k] hxl W)
      have Hq2 : Hid (q ++ sB l[k] = sB (l.take (k + 1)).flatten ∧ (q ++ sB l[k]).size = (k + 1) * 32) := Lib.hid (by
        obtain ⟨h1, h2⟩ := Hq.out
        refine ⟨?_, ?_⟩
        · rw [h1, sB_app, List.take_succ_eq_append_getElem hltl, List.flatten_append]; simp
        · rw [ByteArray.size_append, h2, sB_size, hxl]; omega)
      have hzz : ¬ 9223372036854775807 < q.size + (sB l[k]).size := by rw [Hq.out.2, sB_size, hxl]; omega
      clear hra e' hxl
      generalize l[k] = x at *
      clear hltl
      generalize sB x = y at *
      go_wp2_with (refine wpList_load_mid rfl 39 (.tmp 14) rfl b (off + k * 32) rfl (bytesV x) _ Hra.out Tryz.underlying39 rfl (by rw [sizeDg, Hxb.out]) ?_)
      refine (Hby.out _).mono ?_
      rintro e w2 ⟨rfl, hb2⟩
      have hB2 := Below.then hB hb2 hB.size
      have HX2 := Lib.hid (HX.out.belowAll hb2)
      clear hb2
      go_wp2
      go_roundw
      case rel => exact ⟨k + 1, q ++ y, by omega, rfl, by go_num, Hq2, HX2.out, hB2⟩
      case measure => simp [intOf]; omega
    · obtain rfl : k = n := by omega
      have hlt' : ¬ (k : Int) < (k : Int) := by omega
      have Hsum := Lib.hid (fun W => ref02_sum q (by rw [Hq.out.2]; omega) W)
      have hpr : sumL q.data.toList = printD l := by rw [Hq.out.1, sB_list, List.take_of_length_le (by rw [Hn.out]; exact Nat.le_refl _)]; rfl
      rw [hpr] at Hsum
      have hpl : (printD l).length = 32 := sumL_len _
      obtain ⟨cx, hcx⟩ : ∃ cx, (bytesV (printD l)).toArray = cx := ⟨_, rfl⟩
      have hxz : cx.size = 32 := by rw [← hcx]; simp [bytesV, hpl]
      have hx1 : cx.all (·.oneCell') = true := by rw [← hcx]; exact all_oneCell_toArray (bytesV_one _)
      have hdg : dgV (printD l) = .agg cx := by unfold dgV; rw [hcx]
      rw [hdg] at Hsum
      have Hdg := Lib.hid hdg
      have Hxz := Lib.hid hxz
      have Hx1 := Lib.hid hx1
      clear hpr hpl hcx hxz hx1 hdg
      go_wp2_with fail
      refine (Hsum.out _).mono ?_
      rintro e w2 ⟨rfl, hb2⟩
      have hB2 := Below.then hB hb2 hB.size
      have HX2 := HX.out.belowAll hb2
      clear hb2
      go_wp2_with (refine wpList_store_mid rfl 39 (.tmp 2) (.tmp 19) rfl w.heap.size 0 cx rfl rfl (there_bx HX2 (by rw [Hxz.out, Hzl.out]; exact Nat.le_refl _)) (by rw [sizeDg, Hxz.out]) Hx1.out ?_)
      have xd2 := HX2.setAll (cx := cx) (by rw [Hxz.out, Hzl.out])
      refine bodyPost_ret (v := .agg cx) (results_cell_row (d := .array 32 5) Tryz.results41 _ _ w.heap.size _ _ _ rfl xd2 Tryz.underlying39 rfl (by rw [sizeDg, Hxz.out])) rfl ?_
      exact ⟨by rw [Hdg.out], below_setCells (Nat.le_refl _) _ _ _ hB2⟩
end Go.Proofs.YtebgopdmeghmhaaGreat
namespace Go.Proofs.YtebgopdmeghmhaaGreat
open Go.RowKit

theorem IsBd.below {B b : Nat} {bs : List Value} {w w' : World} (h : IsBd B b bs w) (hb : Below w.heap.size w w') : IsBd B b bs w' := by
  have one : ∀ p, BdAt B b p bs w → BdAt B b p bs w' := by
    rintro p ⟨hB, v, hbk, hown, hne⟩
    exact ⟨hB, v, (hb.block b (Array.getElem?_eq_some_iff.1 hbk).1).trans hbk, ownsRow_belowAll hown hb, hne⟩
  exact h.imp (one _) (one _)
set_option maxRecDepth 100000 in
set_option maxHeartbeats 2000000 in
theorem rc_Print {S : Nat → Prop} (w : World) (v : Value) (l : List (List UInt8)) (h : DigR S w v l) (hm : l.length ≤ 1000000) :
    Calls Tryz.prog 60 #[v] w fun e w' => e = .returned (dgV (printD l)) ∧ Below w.heap.size w w' := by
  obtain ⟨o, c, rfl⟩ : ∃ o c, v = .slice o l.length c := by obtain ⟨⟨o, c, e, _⟩, _⟩ := h; rw [digC_size] at e; exact ⟨o, c, e⟩
  obtain ⟨idg, hidg, hzd, hsd, hbyd⟩ := info_parts infoDg
  obtain ⟨z0, hz0⟩ : ∃ z, (.agg (List.replicate 32 (Value.int .u8 0)).toArray : Value) = .agg z := ⟨_, rfl⟩
  have hzl : z0.size = 32 := by injection hz0 with e; rw [← e]; simp
  have Hzi : Hid ((Tryz.prog.info? 39).map (·.zero) = some (some (.agg z0))) := Lib.hid (by rw [hidg, ← hz0]; simp only [Option.map_some, hzd]; rfl)
  have Hzl := Lib.hid hzl
  have hB1 : Below w.heap.size w (w.alloc (.cells z0 39)) := Below.one w _
  have hB2 : Below w.heap.size w ((w.alloc (.cells z0 39)).alloc (.cells #[.pointer none, .slice none 0 0] 96)) := hB1.alloc hB1.size _
  have HD := Lib.hid h
  have x0 := Lib.hid ((Bx.new w z0 39).alloc (.cells #[.pointer none, .slice none 0 0] 96))
  have xb := Lib.hid (Bx.newAt (w.alloc (.cells z0 39)) #[.pointer none, .slice none 0 0] 96 (w.heap.size + 1) (by simp))
  obtain ⟨n, hln⟩ : ∃ n, l.length = n := ⟨_, rfl⟩
  have Hn := Lib.hid hln
  rw [hln] at HD hm ⊢
  clear hidg hzd hsd hbyd hz0 hzl h hln hB1
  go_enter Tryz.func60, Tryz.ntmps60
  go_wp2_with (refine wpList_alloc_row rfl 39 rfl z0 Hzi.out ?_)
  go_wp2
  generalize (w.alloc (.cells z0 39)).alloc (.cells #[.pointer none, .slice none 0 0] 96) = w2 at *
  go_loopw [8] (fun i wr => ∃ k : Nat, k ≤ n ∧ i = .int .i64 k ∧ IsBd (w.heap.size + 1) (w.heap.size + 1) (bytesV (l.take k).flatten) wr ∧ (k = 0 → Hid (Bx wr (w.heap.size + 1) #[.pointer none, .slice none 0 0] 96)) ∧ Bx wr w.heap.size z0 39 ∧ Below w.heap.size w wr) (fun i _ => n - (intOf i).toNat)
  case atStart => exact ⟨0, by omega, rfl, .inl ⟨Nat.le_refl _, _, xb.out, World.ownsRow_nil _ _ _ _, by simp [Value.ownBlock]⟩, fun _ => xb, x0.out, hB2⟩
  case round =>
    obtain ⟨k, hk, rfl, hbd, hfr, hX, hB⟩ := hrel
    have HX := Lib.hid hX
    have Hbd := Lib.hid hbd
    have Hfr := Lib.hid hfr
    clear hX hbd hfr
    by_cases hlt : k < n
    · have hltl : k < l.length := by rw [Hn.out]; exact hlt
      have hlt' : (k : Int) < (n : Int) := by omega
      obtain ⟨b, off, c', e', _, _, _, hb, hra⟩ := (HD.out.below hB).at hltl
      rw [Hn.out] at e'
      obtain ⟨rfl, rfl⟩ : o = some ⟨b, off, none⟩ ∧ c = c' := by simpa using e'
      have hxl : l[k].length = 32 := HD.out.2 _ (List.getElem_mem hltl)
      have Hxb : Hid ((bytesV l[k]).length = 32) := Lib.hid (by rw [bytesV_len, hxl])
      have Hxl := Lib.hid hxl
      have Hra := Lib.hid hra
      have Hone1 : Hid (∀ u ∈ bytesV l[k], u.oneCell' = true) := Lib.hid (bytesV_one _)
      have hb6 : Below wr.heap.size wr ((wr.alloc (.cells z0 39)).setCells wr.heap.size 0 (bytesV l[k]).toArray.toList) := below_setCells (Nat.le_refl _) _ _ _ (Below.one wr (.cells z0 39))
      have xd := (Bx.new wr z0 39).setAll (cx := (bytesV l[k]).toArray) (by rw [Hzl.out, List.size_toArray, Hxb.out])
      have HXd : Hid (((wr.alloc (.cells z0 39)).setCells wr.heap.size 0 (bytesV l[k]).toArray.toList).rangeAt wr.heap.size 0 (bytesV l[k])) := Lib.hid (by simpa using xd.range)
      have hB6 := Below.then hB hb6 hB.size
      have HX6 := Lib.hid (HX.out.belowAll hb6)
      have hbd6 := Hbd.out.below hb6
      have hwz : w.heap.size + 1 < wr.heap.size := by rcases Hbd.out with h | h <;> exact Lib.BuilderAt.lt h
      have hfl : (bytesV (l.take k).flatten).length = k * 32 := by
        rw [bytesV_len, flat32 (fun d hd => HD.out.2 d (List.mem_of_mem_take hd)), List.length_take]; congr 1; omega
      have Hwr := Lib.hid (bd_Write hbd6 wr.heap.size l[k] HXd.out (by omega) (by rw [hfl, hxl]; omega) (by have := hb6.size; omega))
      rw [hxl] at Hwr
      have Hfl2 : Hid (bytesV (l.take k).flatten ++ bytesV l[k] = bytesV (l.take (k + 1)).flatten) := Lib.hid (by
        rw [List.take_succ_eq_append_getElem hltl, List.flatten_append]; simp [bytesV])
      rw [Hfl2.out] at Hwr
      clear hra e' hxl xd hbd6 hfl Hfr Hbd Hfl2 hb6 HX
      generalize l[k] = x at *
      clear hltl
      go_wp2_with (first
        | (refine wpList_load_mid rfl 39 (.tmp 10) rfl b (off + k * 32) rfl (bytesV x) _ Hra.out Tryz.underlying39 rfl (by rw [sizeDg, Hxb.out]) ?_)
        | (refine wpList_alloc_row rfl 39 rfl z0 Hzi.out ?_)
        | (refine wpList_store_mid rfl 39 (.tmp 5) (.tmp 11) rfl wr.heap.size 0 (bytesV x).toArray rfl rfl (there_bx (Bx.new wr z0 39) (by rw [Hzl.out, List.size_toArray, Hxb.out]; exact Nat.le_refl _)) (by rw [sizeDg, List.size_toArray, Hxb.out]) (by simpa using Hone1.out) ?_; generalize (wr.alloc (.cells z0 39)).setCells wr.heap.size 0 (bytesV x).toArray.toList = w6 at *))
      refine Hwr.out.mono ?_
      rintro e w7 ⟨rfl, hbd7, hb7⟩
      have hB7 := hB6.trans (hb7.mono (Nat.le_succ _))
      have HX7 := Lib.hid (HX6.out.below hb7 (Nat.lt_succ_self _))
      have Hbd7 : Hid (IsBd (w.heap.size + 1) (w.heap.size + 1) (bytesV (l.take (k + 1)).flatten) w7) := Lib.hid (.inr hbd7)
      clear hbd7 hb7 HX6 Hwr HXd
      go_wp2
      go_roundw
      case rel => exact ⟨k + 1, by omega, by go_num, Hbd7.out, fun h => absurd h (Nat.succ_ne_zero k), HX7.out, hB7⟩
      case measure => simp [intOf]; omega
    · obtain rfl : k = n := by omega
      have hlt' : ¬ (k : Int) < (k : Int) := by omega
      have hall : l.take k = l := List.take_of_length_le (by rw [Hn.out]; exact Nat.le_refl _)
      have hfl : l.flatten.length = k * 32 := by rw [flat32 HD.out.2, Hn.out]
      have Hstr : Hid (Calls Tryz.prog 83 #[.pointer (some ⟨w.heap.size + 1, 0, none⟩)] wr fun e w' => e = .returned (.string (sB l.flatten)) ∧ Below (w.heap.size + 1) wr w') := Lib.hid (by
        have h1 := Hbd.out
        rw [hall] at h1
        by_cases hz : l.flatten = []
        · rw [hz] at hfl ⊢
          exact bd_String_nil (Hfr.out (by simp at hfl; omega)).out
        · exact bd_String h1 hz)
      have Hsum := Lib.hid (fun W => sha_sum (sB l.flatten) (by rw [sB_size, hfl]; omega) W)
      have hpr : sumL (sB l.flatten).data.toList = printD l := by rw [sB_list]; rfl
      rw [hpr] at Hsum
      have hpl : (printD l).length = 32 := sumL_len _
      obtain ⟨cx, hcx⟩ : ∃ cx, (bytesV (printD l)).toArray = cx := ⟨_, rfl⟩
      have hxz : cx.size = 32 := by rw [← hcx]; simp [bytesV, hpl]
      have hx1 : cx.all (·.oneCell') = true := by rw [← hcx]; exact all_oneCell_toArray (bytesV_one _)
      have hdg : dgV (printD l) = .agg cx := by unfold dgV; rw [hcx]
      rw [hdg] at Hsum
      have Hdg := Lib.hid hdg
      have Hxz := Lib.hid hxz
      have Hx1 := Lib.hid hx1
      clear hpr hpl hcx hxz hx1 hdg Hbd Hfr hall hfl
      generalize sB l.flatten = q at *
      go_wp2_with fail
      refine Hstr.out.mono ?_
      rintro e w8 ⟨rfl, hb8⟩
      have hB8 := hB.trans (hb8.mono (Nat.le_succ _))
      have HX8 := Lib.hid (HX.out.below hb8 (Nat.lt_succ_self _))
      clear hb8 HX Hstr
      go_wp2_with fail
      refine (Hsum.out _).mono ?_
      rintro e w9 ⟨rfl, hb9⟩
      have hB9 := Below.then hB8 hb9 hB8.size
      have HX9 := HX8.out.belowAll hb9
      clear hb9
      go_wp2_with (refine wpList_store_mid rfl 39 (.tmp 2) (.tmp 16) rfl w.heap.size 0 cx rfl rfl (there_bx HX9 (by rw [Hxz.out, Hzl.out]; exact Nat.le_refl _)) (by rw [sizeDg, Hxz.out]) Hx1.out ?_)
      have xd2 := HX9.setAll (cx := cx) (by rw [Hxz.out, Hzl.out])
      refine bodyPost_ret (v := .agg cx) (results_cell_row (d := .array 32 5) Tryz.results60 _ _ w.heap.size _ _ _ rfl xd2 Tryz.underlying39 rfl (by rw [sizeDg, Hxz.out])) rfl ?_
      exact ⟨by rw [Hdg.out], below_setCells (Nat.le_refl _) _ _ _ hB9⟩
end Go.Proofs.YtebgopdmeghmhaaGreat
namespace Go.Proofs.YtebgopdmeghmhaaGreat
open Go.RowKit

set_option maxRecDepth 100000 in
set_option maxHeartbeats 2000000 in
theorem rc_summary {S : Nat → Prop} (w : World) (x y : List UInt8) (hx : x.length = 32) (hy : y.length = 32) (v : Value) (l : List (List UInt8)) (h : DigR S w v l) (hm : l.length ≤ 1000000) :
    Calls Tryz.prog 56 #[dgV x, dgV y, v] w fun e w' => e = .returned ((summR x y l).V (.slice none 0 0)) ∧ Below w.heap.size w w' := by
  obtain ⟨o, c, rfl⟩ : ∃ o c, v = .slice o l.length c := by obtain ⟨⟨o, c, e, _⟩, _⟩ := h; rw [digC_size] at e; exact ⟨o, c, e⟩
  obtain ⟨z1, hz1⟩ : ∃ z, ((⟨zeroD, zeroD, false, 0, zeroD, []⟩ : Rg).cells (.slice none 0 0)).toArray = z := ⟨_, rfl⟩
  have hzl : z1.size = 99 := by rw [← hz1]; rfl
  have Hzi : Hid ((Tryz.prog.info? 41).map (·.zero) = some (some (.agg z1))) := Lib.hid (by
    have := infoRg
    rw [hz1] at this
    obtain ⟨i, hi, hj⟩ := Option.map_eq_some_iff.1 this
    rw [hi]
    simp only [Option.map_some]
    rw [(Prod.mk.inj hj).1])
  have Hzl := Lib.hid hzl
  have hok : (summR x y l).ok := ⟨hx, hy, printD_len l, fun _ h => by cases h⟩
  have Hlen := Lib.hid (Rg.len hok (.slice none 0 0))
  have Hone := Lib.hid (Rg.one (summR x y l) (.slice none 0 0) rfl)
  have Hfill := Lib.hid (rg_fill_marked (c := (l.length : Int)) hx hy (printD_len l))
  have Hxl : Hid ((bytesV x).length = 32) := Lib.hid (by rw [bytesV_len, hx])
  have Hyl : Hid ((bytesV y).length = 32) := Lib.hid (by rw [bytesV_len, hy])
  have xx := ((Bx.new w (bytesV x).toArray 39).alloc (.cells (bytesV y).toArray 39)).alloc (.cells z1 41)
  have xy := (Bx.newAt (w.alloc (.cells (bytesV x).toArray 39)) (bytesV y).toArray 39 (w.heap.size + 1) (by simp)).alloc (.cells z1 41)
  have xz := Bx.newAt ((w.alloc (.cells (bytesV x).toArray 39)).alloc (.cells (bytesV y).toArray 39)) z1 41 (w.heap.size + 2) (by simp)
  have hB3 : Below w.heap.size w (((w.alloc (.cells (bytesV x).toArray 39)).alloc (.cells (bytesV y).toArray 39)).alloc (.cells z1 41)) := ((Below.one w _).alloc (by simp) _).alloc (by simp; omega) _
  have HXx : Hid ((((w.alloc (.cells (bytesV x).toArray 39)).alloc (.cells (bytesV y).toArray 39)).alloc (.cells z1 41)).rangeAt w.heap.size 0 (bytesV x)) := Lib.hid (by simpa using xx.range)
  have HXy : Hid ((((w.alloc (.cells (bytesV x).toArray 39)).alloc (.cells (bytesV y).toArray 39)).alloc (.cells z1 41)).rangeAt (w.heap.size + 1) 0 (bytesV y)) := Lib.hid (by simpa using xy.range)
  have HXz := Lib.hid xz
  have hs2 : ((w.alloc (.cells (bytesV x).toArray 39)).alloc (.cells (bytesV y).toArray 39)).heap.size = w.heap.size + 2 := by simp
  have Hs2 := Lib.hid hs2
  have HD := Lib.hid (h.below hB3)
  obtain ⟨cx, hcx⟩ : ∃ c, (bytesV x).toArray = c := ⟨_, rfl⟩
  obtain ⟨cy, hcy⟩ : ∃ c, (bytesV y).toArray = c := ⟨_, rfl⟩
  have Hcx : Hid (dgV x = .agg cx) := Lib.hid (by unfold dgV; rw [hcx])
  have Hcy : Hid (dgV y = .agg cy) := Lib.hid (by unfold dgV; rw [hcy])
  rw [Hcx.out, Hcy.out]
  rw [hcx, hcy] at hB3 HXx HXy HXz Hs2 HD
  clear xx xy xz hcx hcy hz1 hzl hs2 hok hx hy h
  go_enter Tryz.func56, Tryz.ntmps56
  go_wp2_with (refine wpList_alloc_row rfl 41 rfl z1 Hzi.out ?_; rw [Hs2.out]; generalize ((w.alloc (.cells cx 39)).alloc (.cells cy 39)).alloc (.cells z1 41) = w3 at *)
  (try simp only [Act.put, List.setIfInBounds_toArray, List.set_cons_zero, List.set_cons_succ])
  have cQ := Lat.cells w3
  have l0 : w.heap.size < w3.heap.size := Nat.lt_of_lt_of_le (by omega) (Nat.le_of_lt HXz.out.lt)
  have l1 : w.heap.size + 1 < w3.heap.size := Nat.lt_of_lt_of_le (by omega) (Nat.le_of_lt HXz.out.lt)
  have l2 := HXz.out.lt
  refine wp_region_lz 7 1 #[true, true, true, true, true, true, true, false] (fun i => if i = 5 then some (annK (dgV (printD l))) else if i = 6 then some (annK ((summR x y l).V (.slice none 0 0))) else none) (by kernel_rfl) (by rfl) (by rfl) (by kernel_rfl) ?_
  simp only [List.take_succ_cons, List.take_zero]
  refine LW.block 5 5 (by rfl) (by kernel_rfl) (by kernel_rfl) ?_
  simp only [List.take_succ_cons, List.take_zero, List.drop_succ_cons, List.drop_zero]
  repeat (first | go_big_quiet_skip | (go_big_quiet_want; first | ((first | (refine quiet_load_row 39 (.tmp 3) rfl w.heap.size 0 rfl (bytesV x) _ (lat_range HXx.out l0) Tryz.underlying39 rfl (by rw [sizeDg, Hxl.out]) ?_) | (refine quiet_load_row 39 (.tmp 4) rfl (w.heap.size + 1) 0 rfl (bytesV y) _ (lat_range HXy.out l1) Tryz.underlying39 rfl (by rw [sizeDg, Hyl.out]) ?_)); simp only [Act.put, List.setIfInBounds_toArray, List.set_cons_zero, List.set_cons_succ]; go_big_quiet_on) | (go_big_quiet_op; go_big_quiet_on)))
  refine wpQuiet_nil ?_
  refine LW.lzy _ (by rfl) (by rfl) ?_ ?_
  · intro yL _
    unfold lzAt
    go_simp
    exact lz_constB (rc_Print _ _ l (HD.out.below yL.h) hm)
  intro _
  simp only [Act.put, List.setIfInBounds_toArray, List.set_cons_zero, List.set_cons_succ]
  (try simp only [annK])
  refine LW.lzy _ (by rfl) (by rfl) ?_ ?_
  · intro yL _
    exact lz_value (run_build_op _ rfl (fs := [(0, dgV x), (1, dgV y), (3, .int .i64 l.length), (4, dgV (printD l))]) (by simp [Act.eval, dgV]) Hfill.out)
  intro _
  simp only [Act.put, List.setIfInBounds_toArray, List.set_cons_zero, List.set_cons_succ]
  (try simp only [annK])
  refine LW.done ?_
  intro W' hG
  have hB4 := Below.then hB3 hG.below hB3.size
  have HX4 := HXz.out.belowAll hG.below
  clear hG cQ l0 l1 l2
  refine wpAny_ready (rs := [7]) (by kernel_rfl) (by simp) ?_
  refine AllReady.cons rfl (fun K hK => ?_) AllReady.nil
  refine wp_store_mid 41 (.tmp 6) (.tmp 13) rfl (w.heap.size + 2) 0 ((summR x y l).cells (.slice none 0 0)).toArray rfl rfl (there_bx HX4 (by rw [Hzl.out, List.size_toArray, Hlen.out]; exact Nat.le_refl _)) (by rw [sizeRg, List.size_toArray, Hlen.out]) (by simpa using Hone.out) ?_
  refine hK _ _ ?_
  clear hK K
  refine wpAny_done (by kernel_rfl) ?_ _
  have xd2 := HX4.setAll (cx := ((summR x y l).cells (.slice none 0 0)).toArray) (by rw [Hzl.out, List.size_toArray, Hlen.out])
  go_wp2
  refine bodyPost_ret (v := (summR x y l).V (.slice none 0 0)) (results_cell_row (d := .struct (Tryz.prog.fieldsOf 41)) Tryz.results56 _ _ (w.heap.size + 2) _ _ _ rfl xd2 (by kernel_rfl) rfl (by rw [sizeRg, List.size_toArray, Hlen.out])) rfl ?_
  exact ⟨rfl, below_setCells (by omega) _ _ _ hB4⟩
end Go.Proofs.YtebgopdmeghmhaaGreat
namespace Go.Proofs.YtebgopdmeghmhaaGreat
open Go.RowKit

theorem lz_val {P : Program} {o : Oper} {a : Act} {W : World} {v : Value} {Post : Value → World → Prop} (hr : (execOp a.eval o).run P W = .ok (.value v) W) (h : Post v W) : lzAt P o a W Post := by
  unfold lzAt
  rw [hr]
  exact h
set_option maxRecDepth 100000 in
set_option maxHeartbeats 2000000 in
theorem rc_describe {S : Nat → Prop} (w : World) (x y : List UInt8) (hx : x.length = 32) (hy : y.length = 32) (v : Value) (l : List (List UInt8)) (h : DigR S w v l) (hm : l.length ≤ 1000000) :
    Calls Tryz.prog 25 #[dgV x, dgV y, v] w fun e w' => ∃ vi, e = .returned ((descR x y l).V vi) ∧ DigR (New w w') w' vi (descR x y l).ids ∧ Below w.heap.size w w' := by
  obtain ⟨o, c, rfl⟩ : ∃ o c, v = .slice o l.length c := by obtain ⟨⟨o, c, e, _⟩, _⟩ := h; rw [digC_size] at e; exact ⟨o, c, e⟩
  obtain ⟨z1, hz1⟩ : ∃ z, ((⟨zeroD, zeroD, false, 0, zeroD, []⟩ : Rg).cells (.slice none 0 0)).toArray = z := ⟨_, rfl⟩
  have hzl : z1.size = 99 := by rw [← hz1]; rfl
  have Hzi : Hid ((Tryz.prog.info? 41).map (·.zero) = some (some (.agg z1))) := Lib.hid (by
    have := infoRg
    rw [hz1] at this
    obtain ⟨i, hi, hj⟩ := Option.map_eq_some_iff.1 this
    rw [hi]
    simp only [Option.map_some]
    rw [(Prod.mk.inj hj).1])
  have Hzl := Lib.hid hzl
  have hok : (summR x y l).ok := ⟨hx, hy, printD_len l, fun _ h => by cases h⟩
  have Hlen := Lib.hid (Rg.len hok (.slice none 0 0))
  have Hone := Lib.hid (Rg.one (summR x y l) (.slice none 0 0) rfl)
  have Hokl : Hid ((listR x y []).ok) := Lib.hid ⟨hx, hy, (rfl : zeroD.length = 32), fun _ h => by cases h⟩
  have Hx := Lib.hid hx
  have Hy := Lib.hid hy
  have Hxl : Hid ((bytesV x).length = 32) := Lib.hid (by rw [bytesV_len, hx])
  have Hyl : Hid ((bytesV y).length = 32) := Lib.hid (by rw [bytesV_len, hy])
  have xx := ((Bx.new w (bytesV x).toArray 39).alloc (.cells (bytesV y).toArray 39)).alloc (.cells z1 41)
  have xy := (Bx.newAt (w.alloc (.cells (bytesV x).toArray 39)) (bytesV y).toArray 39 (w.heap.size + 1) (by simp)).alloc (.cells z1 41)
  have xz := Bx.newAt ((w.alloc (.cells (bytesV x).toArray 39)).alloc (.cells (bytesV y).toArray 39)) z1 41 (w.heap.size + 2) (by simp)
  have hB3 : Below w.heap.size w (((w.alloc (.cells (bytesV x).toArray 39)).alloc (.cells (bytesV y).toArray 39)).alloc (.cells z1 41)) := ((Below.one w _).alloc (by simp) _).alloc (by simp; omega) _
  have HXx : Hid ((((w.alloc (.cells (bytesV x).toArray 39)).alloc (.cells (bytesV y).toArray 39)).alloc (.cells z1 41)).rangeAt w.heap.size 0 (bytesV x)) := Lib.hid (by simpa using xx.range)
  have HXy : Hid ((((w.alloc (.cells (bytesV x).toArray 39)).alloc (.cells (bytesV y).toArray 39)).alloc (.cells z1 41)).rangeAt (w.heap.size + 1) 0 (bytesV y)) := Lib.hid (by simpa using xy.range)
  have HXz := Lib.hid xz
  have hs2 : ((w.alloc (.cells (bytesV x).toArray 39)).alloc (.cells (bytesV y).toArray 39)).heap.size = w.heap.size + 2 := by simp
  have Hs2 := Lib.hid hs2
  have HD := Lib.hid (h.below hB3)
  obtain ⟨cx, hcx⟩ : ∃ c, (bytesV x).toArray = c := ⟨_, rfl⟩
  obtain ⟨cy, hcy⟩ : ∃ c, (bytesV y).toArray = c := ⟨_, rfl⟩
  have Hcx : Hid (dgV x = .agg cx) := Lib.hid (by unfold dgV; rw [hcx])
  have Hcy : Hid (dgV y = .agg cy) := Lib.hid (by unfold dgV; rw [hcy])
  rw [Hcx.out, Hcy.out]
  rw [hcx, hcy] at hB3 HXx HXy HXz Hs2 HD
  clear xx xy xz hcx hcy hz1 hzl hs2 hok hx hy h
  go_enter Tryz.func25, Tryz.ntmps25
  obtain ⟨n, hln⟩ : ∃ n, l.length = n := ⟨_, rfl⟩
  have Hn := Lib.hid hln
  rw [hln] at HD hm ⊢
  clear hln
  by_cases h8 : 8 < n
  · have h8' : (8 : Int) < (n : Int) := by omega
    have Hres : Hid (descR x y l = summR x y l) := Lib.hid (by unfold descR; rw [if_pos (by rw [Hn.out]; exact h8)])
    go_wp2_with (first
      | (refine wpList_alloc_row rfl 41 rfl z1 Hzi.out ?_; rw [Hs2.out]; generalize ((w.alloc (.cells cx 39)).alloc (.cells cy 39)).alloc (.cells z1 41) = w3 at *)
      | (refine wpList_load_mid rfl 39 (.tmp 3) rfl w.heap.size 0 rfl (bytesV x) _ HXx.out Tryz.underlying39 rfl (by rw [sizeDg, Hxl.out]) ?_)
      | (refine wpList_load_mid rfl 39 (.tmp 4) rfl (w.heap.size + 1) 0 rfl (bytesV y) _ HXy.out Tryz.underlying39 rfl (by rw [sizeDg, Hyl.out]) ?_))
    have hsum := rc_summary w3 x y Hx.out Hy.out _ l (by have h1 := HD.out; rw [← Hn.out] at h1; exact h1) (by rw [Hn.out]; exact hm)
    rw [Hn.out] at hsum
    refine hsum.mono ?_
    rintro e w4 ⟨rfl, hb4⟩
    have hB4 := Below.then hB3 hb4 hB3.size
    have HX4 := HXz.out.belowAll hb4
    clear hb4 hsum
    go_wp2_with (refine wpList_store_mid rfl 41 (.tmp 6) (.tmp 13) rfl (w.heap.size + 2) 0 ((summR x y l).cells (.slice none 0 0)).toArray rfl rfl (there_bx HX4 (by rw [Hzl.out, List.size_toArray, Hlen.out]; exact Nat.le_refl _)) (by rw [sizeRg, List.size_toArray, Hlen.out]) (by simpa using Hone.out) ?_)
    have xd2 := HX4.setAll (cx := ((summR x y l).cells (.slice none 0 0)).toArray) (by rw [Hzl.out, List.size_toArray, Hlen.out])
    refine bodyPost_ret (v := (summR x y l).V (.slice none 0 0)) (results_cell_row (d := .struct (Tryz.prog.fieldsOf 41)) Tryz.results25 _ _ (w.heap.size + 2) _ _ _ rfl xd2 (by kernel_rfl) rfl (by rw [sizeRg, List.size_toArray, Hlen.out])) rfl ?_
    rw [Hres.out]
    exact ⟨_, rfl, DigR.nil0 _ _, below_setCells (by omega) _ _ _ hB4⟩
  · have h8' : ¬ (8 : Int) < (n : Int) := by omega
    have Hres : Hid (descR x y l = listR x y l) := Lib.hid (by unfold descR; rw [if_neg (by rw [Hn.out]; exact h8)])
    go_wp2_with (refine wpList_alloc_row rfl 41 rfl z1 Hzi.out ?_; rw [Hs2.out]; generalize ((w.alloc (.cells cx 39)).alloc (.cells cy 39)).alloc (.cells z1 41) = w3 at *)
    have cQ := Lat.cells w3
    have l0 : w.heap.size < w3.heap.size := Nat.lt_of_lt_of_le (by omega) (Nat.le_of_lt HXz.out.lt)
    have l1 : w.heap.size + 1 < w3.heap.size := Nat.lt_of_lt_of_le (by omega) (Nat.le_of_lt HXz.out.lt)
    have l2 := HXz.out.lt
    have Hcl := Lib.hid (fun (yL : Lat w3) => sl_Clone yL.w _ l (by have h1 := HD.out.below yL.h; rw [← Hn.out] at h1; exact h1) (by rw [Hn.out]; exact hm))
    rw [Hn.out] at Hcl
    refine wp_region_lz 5 1 #[true, true, true, true, true, false] (fun i => if i = 3 then some ⟨fun r => r.x 0, fun r W => DgO W w3.heap.size (r.x 0) l⟩ else if i = 4 then some ⟨fun r => (listR x y []).V (r.x 0), fun r W => DgO W w3.heap.size (r.x 0) l⟩ else none) (by kernel_rfl) (by rfl) (by rfl) (by kernel_rfl) ?_
    simp only [List.take_succ_cons, List.take_zero]
    refine LW.block 3 3 (by rfl) (by kernel_rfl) (by kernel_rfl) ?_
    simp only [List.take_succ_cons, List.take_zero, List.drop_succ_cons, List.drop_zero]
    repeat (first | go_big_quiet_skip | (go_big_quiet_want; first | ((first | (refine quiet_load_row 39 (.tmp 3) rfl w.heap.size 0 rfl (bytesV x) _ (lat_range HXx.out l0) Tryz.underlying39 rfl (by rw [sizeDg, Hxl.out]) ?_) | (refine quiet_load_row 39 (.tmp 4) rfl (w.heap.size + 1) 0 rfl (bytesV y) _ (lat_range HXy.out l1) Tryz.underlying39 rfl (by rw [sizeDg, Hyl.out]) ?_)); simp only [Act.put, List.setIfInBounds_toArray, List.set_cons_zero, List.set_cons_succ]; go_big_quiet_on) | (go_big_quiet_op; go_big_quiet_on)))
    refine wpQuiet_nil ?_
    refine LW.lzy _ (by rfl) (by rfl) ?_ ?_
    · intro yL _
      unfold lzAt
      go_simp
      exact (Hcl.out yL).mono fun e w' ⟨u, he, ho, hb⟩ => ⟨u, he, hb, fun _ => u, rfl, fun w'' hb2 => (ho.lower yL.h.size).below hb2⟩
    intro r3
    simp only [Act.put, List.setIfInBounds_toArray, List.set_cons_zero, List.set_cons_succ]
    refine LW.lzy _ (by rfl) (by rfl) ?_ ?_
    · intro yL hF
      have ho : DgO yL.w w3.heap.size (r3.x 0) l := (hF 3 (by kernel_rfl)).get rfl rfl
      obtain ⟨o', m', c', hv⟩ := ownsRow_slice ho.1
      exact lz_val (run_build_op _ rfl (fs := [(0, dgV x), (1, dgV y), (2, .bool true), (5, r3.x 0)]) (by simp [Act.eval, dgV]) (rg_fill_listed Hx.out Hy.out (vi := r3.x 0) (by rw [hv]; rfl))) ⟨Below.refl _ _, fun _ => r3.x 0, rfl, fun w'' hb => ho.below hb⟩
    intro r4
    simp only [Act.put, List.setIfInBounds_toArray, List.set_cons_zero, List.set_cons_succ]
    refine LW.done ?_
    intro W' hG
    have ho4 : DgO W' w3.heap.size (r4.x 0) l := hG.get 4 rfl rfl
    have hb4 := hG.below
    generalize r4.x 0 = vi at *
    obtain ⟨o', m', c', rfl⟩ := ownsRow_slice ho4.1
    have hB4 := Below.then hB3 hb4 hB3.size
    have HX4 := HXz.out.belowAll hb4
    have Ho4 := Lib.hid ho4
    have Hlen2 := Lib.hid (Rg.len Hokl.out (.slice o' m' c'))
    have Hone2 := Lib.hid (Rg.one (listR x y []) (.slice o' m' c') rfl)
    clear hG cQ l0 l1 ho4 hb4
    refine wpAny_ready (rs := [5]) (by kernel_rfl) (by simp) ?_
    refine AllReady.cons rfl (fun K hK => ?_) AllReady.nil
    refine wp_store_mid 41 (.tmp 6) (.tmp 18) rfl (w.heap.size + 2) 0 ((listR x y []).cells (.slice o' m' c')).toArray rfl rfl (there_bx HX4 (by rw [Hzl.out, List.size_toArray, Hlen2.out]; exact Nat.le_refl _)) (by rw [sizeRg, List.size_toArray, Hlen2.out]) (by simpa using Hone2.out) ?_
    refine hK _ _ ?_
    clear hK K
    refine wpAny_done (by kernel_rfl) ?_ _
    have xd2 := HX4.setAll (cx := ((listR x y []).cells (.slice o' m' c')).toArray) (by rw [Hzl.out, List.size_toArray, Hlen2.out])
    go_wp2
    refine bodyPost_ret (v := (listR x y []).V (.slice o' m' c')) (results_cell_row (d := .struct (Tryz.prog.fieldsOf 41)) Tryz.results25 _ _ (w.heap.size + 2) _ _ _ rfl xd2 (by kernel_rfl) rfl (by rw [sizeRg, List.size_toArray, Hlen2.out])) rfl ?_
    rw [Hres.out]
    have hd : DgO (W'.setCells (w.heap.size + 2) 0 ((listR x y []).cells (.slice o' m' c')).toArray.toList) w3.heap.size (.slice o' m' c') l :=
      ⟨ownsRow_setCells Ho4.out.1 (fun e => by have := (Ho4.out.lt e).1; omega) _ _, Ho4.out.2⟩
    refine ⟨_, rfl, hd.dig.mono (fun b hb => ⟨by have := hB3.size; omega, hb.2⟩), below_setCells (by omega) _ _ _ hB4⟩
end Go.Proofs.YtebgopdmeghmhaaGreat
