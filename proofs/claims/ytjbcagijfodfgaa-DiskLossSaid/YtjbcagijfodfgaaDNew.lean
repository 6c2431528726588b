/- Contracts of New of layer 40, of the program's and the reference's. -/
import Derived.Test.YtjbcagijfodfgaaDWrite
import Derived.Test.YtjbcagijfodfgaaShelf
import Derived.Deep.RegionLaw
namespace Go.Proofs.Ytjbcagijfodfgaa
open Go.RowKit

theorem infoStr : (Try.prog.info? 9).map (fun i => (i.zero, i.size, i.bytes)) = some (some (.string .empty), 1, 16) := by kernel_rfl
theorem infoU8 : (Try.prog.info? 5).map (fun i => (i.zero, i.size, i.bytes)) = some (some (.int .u8 0), 1, 1) := by kernel_rfl

theorem madeU8 (n : Nat) : (madeCells (Value.int .u8 0).cells (n * 1)).toList = bytesV (List.replicate n 0) := by
  have e : (Value.int .u8 0).cells = #[.int .u8 0] := rfl
  rw [Nat.mul_one, e, toList_madeCells_one]
  simp [bytesV]
def zerosB (n : Nat) : ByteArray := ⟨(List.replicate n 0).toArray⟩

theorem newD_ok {p : Nat} {s : Int} {z : ByteArray} {o : Option Addr} {c : Nat} (hs : SlW o p c) (hp : p ≤ 2000) (hz : z.size ≤ 512) : DskOk ⟨s, List.replicate p z, [], -1⟩ o none c 0 := by
  refine ⟨by simpa using hs, .inl ⟨rfl, rfl, rfl⟩, by simp; omega, by simp, ?_, by simp, by simp⟩
  intro x hx
  simp at hx
  rw [hx.2]; omega

set_option maxHeartbeats 1000000 in
theorem ref40_new_ok (p s : Nat) (w : World) {S : Nat → Prop} (hr : rangedB p s = true) :
    Calls Try.prog 14 #[.int .i64 p, .int .i64 s] w (RetDE S w ⟨s, List.replicate p (zerosB s), [], -1⟩ 0) := by
  obtain ⟨i0, hi, hz0, hz1, hz2⟩ := info_parts infoStr
  obtain ⟨j0, hj, jz0, jz1, jz2⟩ := info_parts infoU8
  obtain ⟨z, ez⟩ : ∃ z, (⟨(List.replicate s 0).toArray⟩ : ByteArray) = z := ⟨_, rfl⟩
  have ezh := Lib.hid ez
  have hb : p ≤ 2000 ∧ s ≤ 512 := by simp [rangedB] at hr; omega
  go_enter Try.func14, Try.ntmps14
  go_wp2_with (first
    | (go_at_call 28; refine (ref40_ranged_b _ _ _ hr).mono ?_; rintro e w' ⟨rfl, rfl⟩)
    | (at_make; refine wpList_make_full _ rfl _ _ 48 rfl (w.heap.size + 1) 5 j0 _ 1 Try.underlying48 hj jz0 jz1 .i64 .i64 _ _ s rfl rfl rfl rfl (by rw [jz2]; omega) (by unfold maxLen; omega) (by simp) ?_; intro w1 hown hg; clear ez; have xR1 := (Bx.new w _ _).grown hg (by simp))
    | (refine wpList_str rfl (.tmp 15) 48 9 5 rfl Try.underlying48 Try.underlying5 Try.underlying9 _ _ _ (List.replicate s 0) rfl (by simp) (by rw [madeU8] at hown; obtain ⟨o, c, h1, h2, h3, h4⟩ := ownsRow_at hown; cases h1; exact h3) ?_; rw [ezh.out]))
  have hB1 : Below w.heap.size w w1 := ((Below.refl _ _).alloc (Nat.le_refl _) _).grown hg (by simp) (by intro k e; cases e)
  have hl1 : w.heap.size < w1.heap.size := xR1.lt
  clear hown hg
  go_loopw [8] (fun i wr => ∃ (k : Nat) (v : Value), k ≤ p ∧ i = .int .i64 k ∧ wr.ownsRow (w1.heap.size + 1) 9 1 v k (List.replicate k (.string z)) ∧ Bx wr w.heap.size #[.int .i64 0, .slice none 0 0, .slice none 0 0, .int .i64 0] 25 ∧ Bx wr w1.heap.size #[.int .i64 s, v, .slice none 0 0, .int .i64 (-1)] 25 ∧ Below w.heap.size w wr) (fun i _ => p - (intOf i).toNat)
  case atStart => exact ⟨0, _, Nat.zero_le _, rfl, World.ownsRow_nil _ _ _ _, xR1.alloc _, Bx.new _ _ _, hB1.alloc (by omega) _⟩
  case round =>
    obtain ⟨k, v, hk, rfl, hown, xR, xD, hB⟩ := hrel
    have hlD := xD.lt
    have cR := xR.cell
    have fR := xR.free
    have cD := xD.cell
    have fD := xD.free
    by_cases hlt : k < p
    · go_wp2_with (at_builtin; refine wpList_app rfl (.tmp 25) (.tmp 27) 22 rfl (w1.heap.size + 1) 9 i0 _ 1 16 Try.underlying22 hi hz0 hz1 hz2 rfl (by decide) v k _ rfl (hown.alloc _) _ 1 1 [.string z] rfl (by intro e; cases e) rfl (RowAt.bx (Bx.new wr _ _)) (by simp [Value.oneCell']) (by unfold maxLen; omega) (by omega) (by simp; omega) ?_; intro v2 w2 hown2 hg2; clear cR fR cD fD; obtain ⟨o2, c2, rfl, hs2, hr2, ho2⟩ := ownsRow_at hown2; have xR2 := (xR.alloc _).grown hg2 (by intro e; have := (hown.lt _ e.symm).1; omega); have xD2 := (xD.alloc _).grown hg2 (by intro e; have := (hown.lt _ e.symm).1; omega); have cR := xR2.cell; have fR := xR2.free; have cD := xD2.cell; have fD := xD2.free)
      have hB2 : Below w.heap.size w w2 := (hB.alloc (by omega) _).grown hg2 (by simp; omega) (by intro j e; have := (hown.lt _ e).1; omega)
      go_roundw
      case rel =>
        refine ⟨k + 1, _, by omega, by go_num, by rw [List.replicate_succ']; exact ownsRow_setB hown2 (by omega) _, xR2.setO (by simp; omega) _, by simpa using xD2.set 1 _, below_set1 hB2 (by omega)⟩
      case measure => simp [intOf]; omega
    · obtain rfl : k = p := by omega
      obtain ⟨o2, c2, rfl, hs2, hr2, ho2⟩ := ownsRow_at hown
      go_wp2
      refine bodyPost_ret (v := .tuple #[.agg #[.int .i64 s, .slice o2 k c2, .slice none 0 0, .int .i64 (-1)], .int .i64 0]) (by simp [results, Try.results14, go_sem, cR]) rfl ?_
      refine ⟨_, rfl, ⟨o2, c2, none, 0, by simp, ?_, by intro i h; simp at h, newD_ok (by simpa using hs2) hb.1 (by simp [zerosB, ByteArray.size]; exact hb.2)⟩, below_set4 (b := w.heap.size) hB (Nat.le_refl _)⟩
      refine StrsAt.mono (S := fun b => w1.heap.size + 1 ≤ b ∧ b < wr.heap.size) ?_ (fun b h => Gr.new (by omega) (by simp only [World.size_setCell]; omega))
      exact (StrsAt.of_row (by rw [show zerosB s = z from ezh.out]; simpa using hr2)).same ((Same.refl _ _).set4 (b := w.heap.size) (by omega))

set_option maxHeartbeats 1000000 in
theorem ref40_new (p s : Int) (w : World) {S : Nat → Prop} :
    Calls Try.prog 14 #[.int .i64 p, .int .i64 s] w (RetDE S w (newD p s).1 (newD p s).2) := by
  unfold newD
  cases hr : rangedB p s
  · rw [if_neg (by simp)]
    go_enter Try.func14, Try.ntmps14
    go_wp2_with (go_at_call 28; refine (ref40_ranged_b _ _ _ hr).mono ?_; rintro e w' ⟨rfl, rfl⟩)
    refine bodyPost_ret (v := .tuple #[.agg #[.int .i64 0, .slice none 0 0, .slice none 0 0, .int .i64 0], .int .i64 2]) (by simp [results, Try.results14, go_sem]) rfl ?_
    exact ⟨_, rfl, zero_DskR _, by repeat (first | exact Below.refl _ _ | (refine Below.setCell ?_ (by simp) _) | (refine Below.alloc ?_ (by simp) _))⟩
  · rw [if_pos rfl]
    have hb : 1 ≤ p ∧ 1 ≤ s := by simp [rangedB] at hr; omega
    obtain ⟨p, rfl⟩ := Int.eq_ofNat_of_zero_le (a := p) (by omega)
    obtain ⟨s, rfl⟩ := Int.eq_ofNat_of_zero_le (a := s) (by omega)
    exact ref40_new_ok p s w hr

theorem repeatL_zero (n : Nat) : Lib.repeatL [0] n = List.replicate n 0 := by
  induction n with
  | zero => rfl
  | succ n ih => simp [Lib.repeatL, ih, List.replicate_succ]
theorem repeat_zero (n : Nat) (hn : n ≤ 1000000) (w : World) :
    Calls Try.prog 27 #[.string { data := #[0] }, .int .i64 n] w fun e w' => e = .returned (.string (zerosB n)) ∧ Below w.heap.size w w' := by
  have h := Try.strings_Repeat { data := #[0] } n w (by omega) (by show 1 * n ≤ _; omega)
  rw [show ({ data := #[0] } : ByteArray).data.toList = [0] from rfl, repeatL_zero] at h
  exact h

set_option maxHeartbeats 1000000 in
theorem disk_new_ok (p s : Nat) (w : World) {S : Nat → Prop} (hr : rangedB p s = true) :
    Calls Try.prog 13 #[.int .i64 p, .int .i64 s] w (RetDE S w ⟨s, List.replicate p (zerosB s), [], -1⟩ 0) := by
  obtain ⟨i0, hi, hz0, hz1, hz2⟩ := info_parts infoStr
  have hb : p ≤ 2000 ∧ s ≤ 512 := by simp [rangedB] at hr; omega
  rcases rangedB_tests hr with ⟨a1, a2, a3, a4, h⟩ | ⟨_, h⟩ | ⟨_, _, h⟩ | ⟨_, _, _, h⟩ | ⟨_, _, _, _, h⟩
  rotate_left
  · cases h
  · cases h
  · cases h
  · cases h
  clear h
  obtain ⟨z, ez⟩ : ∃ z, zerosB s = z := ⟨_, rfl⟩
  have hrep : ∀ W : World, Calls Try.prog 27 #[.string { data := #[0] }, .int .i64 s] W fun e w' => e = .returned (.string z) ∧ Below W.heap.size W w' := fun W => ez ▸ repeat_zero s (by omega) W
  have ezh := Lib.hid ez
  clear ez
  go_enter Try.func13, Try.ntmps13
  go_wp2
  clear a1 a2 a3 a4
  go_loopw [25] (fun i wr => ∃ (k : Nat) (v : Value), k ≤ p ∧ i = .int .i64 k ∧ wr.ownsRow (w.heap.size + 2) 9 1 v k (List.replicate k (.string z)) ∧ Bx wr w.heap.size #[.int .i64 0, .slice none 0 0, .slice none 0 0, .int .i64 0] 25 ∧ Bx wr (w.heap.size + 1) #[.int .i64 s, v, .slice none 0 0, .int .i64 (-1)] 25 ∧ Below w.heap.size w wr) (fun i _ => p - (intOf i).toNat)
  case atStart => exact ⟨0, _, Nat.zero_le _, rfl, World.ownsRow_nil _ _ _ _, (Bx.new w _ _).alloc _, by simpa using Bx.new (w.alloc _) _ _, ((Below.refl _ _).alloc (Nat.le_refl _) _).alloc (by simp) _⟩
  case round =>
    obtain ⟨k, v, hk, rfl, hown, xR, xD, hB⟩ := hrel
    have hlD := xD.lt
    have cR := xR.cell
    have fR := xR.free
    have cD := xD.cell
    have fD := xD.free
    by_cases hlt : k < p
    · go_wp2
      go_region_law (first
        | (refine step_app rfl (.tmp 28) (.tmp 31) 22 rfl (w.heap.size + 2) 9 i0 _ 1 16 Try.underlying22 hi hz0 hz1 hz2 rfl (by decide) v k _ rfl (hown2.alloc _) _ 1 1 [.string z] rfl (by intro e; cases e) rfl (RowAt.bx (Bx.new w2 _ _)) (by simp [Value.oneCell']) (by unfold maxLen; omega) (by omega) (by simp; omega) ?_; intro v3 w3 hown3 hg3; clear cR2 fR2 cD2 fD2; obtain ⟨o3, c3, rfl, hs3, hr3, ho3⟩ := ownsRow_at hown3; have xR3 := (xR2.alloc _).grown hg3 (by intro e; have := (hown2.lt _ e.symm).1; omega); have xD3 := (xD2.alloc _).grown hg3 (by intro e; have := (hown2.lt _ e.symm).1; omega); have cR3 := xR3.cell; have fR3 := xR3.free; have cD3 := xD3.cell; have fD3 := xD3.free)
        | (go_simp; go_at_call 27; refine (hrep _).mono ?_; rintro e w2 ⟨rfl, hb2⟩; have xR2 := xR.drew.belowAll hb2; have xD2 := xD.drew.belowAll hb2; have hown2 := ownsRow_belowAll hown.drew hb2; have hB2 := hB.drew.trans (hb2.mono hB.size); have hl2 := xD2.lt; clear cR fR cD fD; have cR2 := xR2.cell; have fR2 := xR2.free; have cD2 := xD2.cell; have fD2 := xD2.free))
      all_goals
        have hB3 : Below w.heap.size w w3 := (hB2.alloc (by omega) _).grown hg3 (by simp; omega) (by intro j e; have := (hown2.lt _ e).1; omega)
        go_wp2
        go_roundw
        case rel =>
          refine ⟨k + 1, _, by omega, by go_num, by rw [List.replicate_succ']; exact ownsRow_setB hown3 (by omega) _, xR3.setO (by simp) _, by simpa using xD3.set 1 _, below_set1 hB3 (by omega)⟩
        case measure => simp [intOf]; omega
    · obtain rfl : k = p := by omega
      obtain ⟨o2, c2, rfl, hs2, hr2, ho2⟩ := ownsRow_at hown
      go_wp2
      refine bodyPost_ret (v := .tuple #[.agg #[.int .i64 s, .slice o2 k c2, .slice none 0 0, .int .i64 (-1)], .int .i64 0]) (by simp [results, Try.results13, go_sem, cR]) rfl ?_
      refine ⟨_, rfl, ⟨o2, c2, none, 0, by simp, ?_, by intro i h; simp at h, newD_ok (by simpa using hs2) hb.1 (by simp [zerosB, ByteArray.size]; exact hb.2)⟩, below_set4 (b := w.heap.size) hB (Nat.le_refl _)⟩
      refine StrsAt.mono (S := fun b => w.heap.size + 2 ≤ b ∧ b < wr.heap.size) ?_ (fun b h => Gr.new (by omega) (by simp only [World.size_setCell]; omega))
      exact (StrsAt.of_row (by rw [show zerosB s = z from ezh.out]; simpa using hr2)).same ((Same.refl _ _).set4 (b := w.heap.size) (by omega))

set_option maxHeartbeats 1000000 in
theorem disk_new (p s : Int) (w : World) {S : Nat → Prop} :
    Calls Try.prog 13 #[.int .i64 p, .int .i64 s] w (RetDE S w (newD p s).1 (newD p s).2) := by
  unfold newD
  cases hr : rangedB p s
  · rw [if_neg (by simp)]
    rcases rangedB_tests hr with ⟨_, _, _, _, h⟩ | ⟨a1, _⟩ | ⟨a1, a2, _⟩ | ⟨a1, a2, a3, _⟩ | ⟨a1, a2, a3, a4, _⟩
    · cases h
    all_goals
      go_enter Try.func13, Try.ntmps13
      go_wp2
      refine bodyPost_ret (v := .tuple #[.agg #[.int .i64 0, .slice none 0 0, .slice none 0 0, .int .i64 0], .int .i64 2]) (by simp [results, Try.results13, go_sem]) rfl ?_
      exact ⟨_, rfl, zero_DskR _, by repeat (first | exact Below.refl _ _ | (refine Below.setCell ?_ (by simp) _) | (refine Below.alloc ?_ (by simp) _))⟩
  · rw [if_pos rfl]
    have hb : 1 ≤ p ∧ 1 ≤ s := by simp [rangedB] at hr; omega
    obtain ⟨p, rfl⟩ := Int.eq_ofNat_of_zero_le (a := p) (by omega)
    obtain ⟨s, rfl⟩ := Int.eq_ofNat_of_zero_le (a := s) (by omega)
    exact disk_new_ok p s w hr
end Go.Proofs.Ytjbcagijfodfgaa
