/- slices.Grow of the nil slice and slices.Concat of two lists of digests. -/
import Derived.Test.YtfligkncdlocaaaLSub
import Derived.Lib.AppendZeros
namespace Go.Proofs.Ytfligkncdlocaaa
open Go.RowKit

set_option maxRecDepth 100000 in
set_option maxHeartbeats 1000000 in
theorem sl_Grow (w : World) (m : Int) (n : Nat) (hm : m = n) (hn : n ≤ 1000000) :
    Calls Try.prog 43 #[.slice none 0 0, .int .i64 m] w fun e w' => ∃ v, e = .returned v ∧ w'.ownsRow w.heap.size 31 32 v 0 [] ∧ Below w.heap.size w w' := by
  subst hm
  obtain ⟨idg, hidg, hzd, hsd, hbyd⟩ := info_parts infoDg
  rcases Nat.eq_zero_or_pos n with rfl | hp
  · have h0 : ¬ (0 : Int) < ((0 : Nat) : Int) := by omega
    go_enter Try.func43, Try.ntmps43
    go_wp2
    go_ret
    exact ⟨_, rfl, World.ownsRow_nil _ _ _ _, Below.refl _ _⟩
  · have hr := Lib.run_append_nil_zeros (P := Try.prog) w 25 3 25 31 idg _ .i64 .i64 Try.underlying25 Try.underlying3 hidg hzd n hp (by rw [hsd]; decide) (by omega) (by rw [hbyd]; omega)
    have hge := grownCap_ge w n 0 31
    have hcm := grownCap_le_maxLen w n 0 31 (by unfold maxLen; omega)
    have hsz : (Builtin.zeroCells (Value.agg (List.replicate 32 (Value.int .u8 0)).toArray).cells n ++ Builtin.zeroCells (Value.agg (List.replicate 32 (Value.int .u8 0)).toArray).cells (grownCap w n 0 31 - n)).size = grownCap w n 0 31 * 32 := by
      rw [Array.size_append, size_zeroCells, size_zeroCells, ← Nat.add_mul]
      simp [Value.cells]
      omega
    have hp' : (0 : Int) < (n : Int) := by omega
    generalize grownCap w n 0 31 = c at *
    have hc0 : 0 ≤ c := by omega
    have Hr := Lib.hid hr
    have Hsz := Lib.hid hsz
    have Hc := Lib.hid hcm
    clear hr hsz hcm hidg hzd hsd hbyd
    go_enter Try.func43, Try.ntmps43
    go_wp2_with (refine Lib.wpList_append_run _ rfl (.tmp 20) (.tmp 21) 25 3 rfl (.slice none 0 0) (.int .i64 n) rfl rfl _ _ Hr.out ?_)
    go_ret
    rw [show (Value.agg (List.replicate 32 (Value.int .u8 0)).toArray).cells = Array.replicate 32 (Value.int .u8 0) from rfl] at Hsz
    refine ⟨_, rfl, ⟨by simp, .inr ⟨w.heap.size, c, _, rfl, Nat.le_refl _, heap_alloc_new w _, Nat.zero_le _, Hc.out, Hsz.out, by simp⟩⟩, ?_⟩
    exact (Below.one w _).drew
theorem DigR.row {S : Nat → Prop} {w : World} {o : Option Addr} {c : Nat} {l : List (List UInt8)} (h : DigR S w (.slice o l.length c) l) : RowAt S w o (digC l).flatten ∧ (o = none → l.length = 0 ∧ c = 0) := by
  obtain ⟨⟨o', c', e, hs, hr⟩, _⟩ := h
  rw [digC_size] at e hs
  obtain ⟨rfl, rfl⟩ : o = o' ∧ c = c' := by simpa using e
  exact ⟨hr, hs.nil⟩
theorem digC_flat {l : List (List UInt8)} (h : Dok l) : (digC l).flatten.length = l.length * 32 := by rw [flat_len (digC_len h), digC_size]
theorem digC_one (l : List (List UInt8)) : ∀ u ∈ (digC l).flatten, u.oneCell' = true := by
  intro u hu
  obtain ⟨x, hx, hu⟩ := List.mem_flatten.1 hu
  obtain ⟨y, _, rfl⟩ := List.mem_map.1 hx
  exact bytesV_one y u hu
theorem digC_app (a b : List (List UInt8)) : (digC (a ++ b)).flatten = (digC a).flatten ++ (digC b).flatten := by unfold digC; rw [List.map_append, List.flatten_append]
set_option maxRecDepth 100000 in
set_option maxHeartbeats 2000000 in
theorem sl_Concat {S1 S2 : Nat → Prop} (w : World) (g : Nat) (va vb : Value) (x : Bx w g #[va, vb] 25) (a b : List (List UInt8)) (hA : DigR S1 w va a) (hB : DigR S2 w vb b) (la : a.length ≤ 1000) (lb : b.length ≤ 1000) :
    Calls Try.prog 27 #[.slice (some ⟨g, 0, none⟩) 2 2] w fun e w' => ∃ v, e = .returned v ∧ DigR (fun _ => True) w' v (a ++ b) ∧ Below w.heap.size w w' := by
  obtain ⟨oa, ca, rfl⟩ : ∃ o c, va = .slice o a.length c := by obtain ⟨⟨o, c, e, _⟩, _⟩ := hA; rw [digC_size] at e; exact ⟨o, c, e⟩
  obtain ⟨ob, cb, rfl⟩ : ∃ o c, vb = .slice o b.length c := by obtain ⟨⟨o, c, e, _⟩, _⟩ := hB; rw [digC_size] at e; exact ⟨o, c, e⟩
  obtain ⟨idg, hidg, hzd, hsd, hbyd⟩ := info_parts infoDg
  have Hidg : Hid (Try.prog.info? 31 = some idg ∧ idg.zero = some (.agg (List.replicate 32 (Value.int .u8 0)).toArray) ∧ idg.size = 32 ∧ idg.bytes = 32) := Lib.hid ⟨hidg, by rw [hzd]; rfl, hsd, hbyd⟩
  have HA := Lib.hid hA
  have HB := Lib.hid hB
  have X := Lib.hid x
  clear hA hB x hidg hzd hsd hbyd
  go_enter Try.func27, Try.ntmps27
  go_wp2
  go_loopw [3, 11] (fun s i wr => ((i = .int .i64 0 ∧ s = .int .i64 0) ∨ (i = .int .i64 1 ∧ s = .int .i64 (a.length : Int)) ∨ (i = .int .i64 2 ∧ s = .int .i64 ((a.length : Int) + (b.length : Int)))) ∧ Below w.heap.size w wr) (fun _ i _ => 2 - (intOf i).toNat)
  case atStart => exact ⟨.inl ⟨rfl, rfl⟩, Below.refl _ _⟩
  case round =>
    obtain ⟨hi, hb⟩ := hrel
    have xr := X.out.below hb X.out.lt
    have c0 : wr.cell? ⟨g, 0, none⟩ = some (.slice oa a.length ca) := by rw [xr.cell]; rfl
    have c1 : wr.cell? ⟨g, 1, none⟩ = some (.slice ob b.length cb) := by rw [xr.cell]; rfl
    rcases hi with ⟨rfl, rfl⟩ | ⟨rfl, rfl⟩ | ⟨rfl, rfl⟩
    · have h0 : ¬ ((a.length : Int) < 0) := by omega
      go_wp2
      go_roundw
      case rel => exact ⟨.inr (.inl ⟨rfl, rfl⟩), hb⟩
      case measure => simp [intOf]
    · have h0 : ¬ ((a.length : Int) + (b.length : Int) < 0) := by omega
      go_wp2
      go_roundw
      case rel => exact ⟨.inr (.inr ⟨rfl, rfl⟩), hb⟩
      case measure => simp [intOf]
    · have hgr := sl_Grow wr ((a.length : Int) + (b.length : Int)) (a.length + b.length) (by omega) (by omega)
      have Hgr := Lib.hid hgr
      clear hgr c0 c1 xr
      go_wp2_with fail
      refine Hgr.out.mono ?_
      rintro e w2 ⟨v2, rfl, ho2, hb2⟩
      have hB2 := Below.then hb hb2 hb.size
      have Ho2 := Lib.hid (ownsRow_lower ho2 hb.size)
      clear ho2 hb hb2 Hgr
      go_wp2
      go_loopw [6, 27] (fun u i wr => (∃ l : List (List UInt8), ((i = .int .i64 0 ∧ l = []) ∨ (i = .int .i64 1 ∧ l = a) ∨ (i = .int .i64 2 ∧ l = a ++ b)) ∧ wr.ownsRow w.heap.size 31 32 u l.length (digC l).flatten) ∧ Below w.heap.size w wr) (fun _ i _ => 2 - (intOf i).toNat)
      case atStart => exact ⟨⟨[], .inl ⟨rfl, rfl⟩, Ho2.out⟩, hB2⟩
      case round =>
        clear Ho2
        obtain ⟨⟨l, hi, ho⟩, hb⟩ := hrel
        have xr := X.out.below hb X.out.lt
        have c0 : wr.cell? ⟨g, 0, none⟩ = some (.slice oa a.length ca) := by rw [xr.cell]; rfl
        have c1 : wr.cell? ⟨g, 1, none⟩ = some (.slice ob b.length cb) := by rw [xr.cell]; rfl
        have Ho := Lib.hid ho
        have hz := hb.size
        clear ho
        rcases hi with ⟨rfl, hl⟩ | ⟨rfl, hl⟩ | ⟨rfl, hl⟩
        · rw [hl] at Ho
          have HR := Lib.hid (HA.out.below hb).row
          have Hf := Lib.hid (digC_flat HA.out.2)
          have Hone := Lib.hid (digC_one a)
          go_wp2_with (refine wpList_app rfl (.tmp 31) (.tmp 32) 25 rfl w.heap.size 31 idg _ 32 32 Try.underlying25 Hidg.out.1 Hidg.out.2.1 Hidg.out.2.2.1 Hidg.out.2.2.2 (by simp [Value.cells]) (by decide) _ _ _ rfl Ho.out oa a.length ca (digC a).flatten rfl HR.out.2 Hf.out HR.out.1 Hone.out (by simp [maxLen]; omega) (by simp; omega) (by omega) ?_; intro v3 w3 ho3 hg3)
          have hb3 : Below w.heap.size w w3 := hb.grown hg3 hz (fun k e => (Ho.out.lt k e).1)
          rw [List.length_nil, Nat.zero_add] at ho3
          have ho4 : w3.ownsRow w.heap.size 31 32 v3 a.length (digC a).flatten := ho3
          go_roundw
          case rel => exact ⟨⟨a, .inr (.inl ⟨rfl, rfl⟩), ho4⟩, hb3⟩
          case measure => simp [intOf]
        · rw [hl] at Ho
          have HR := Lib.hid (HB.out.below hb).row
          have Hf := Lib.hid (digC_flat HB.out.2)
          have Hone := Lib.hid (digC_one b)
          go_wp2_with (refine wpList_app rfl (.tmp 31) (.tmp 32) 25 rfl w.heap.size 31 idg _ 32 32 Try.underlying25 Hidg.out.1 Hidg.out.2.1 Hidg.out.2.2.1 Hidg.out.2.2.2 (by simp [Value.cells]) (by decide) _ _ _ rfl Ho.out ob b.length cb (digC b).flatten rfl HR.out.2 Hf.out HR.out.1 Hone.out (by simp [maxLen]; omega) (by omega) (by omega) ?_; intro v3 w3 ho3 hg3)
          have hb3 : Below w.heap.size w w3 := hb.grown hg3 hz (fun k e => (Ho.out.lt k e).1)
          have ho4 : w3.ownsRow w.heap.size 31 32 v3 (a ++ b).length (digC (a ++ b)).flatten := by rw [List.length_append, digC_app]; exact ho3
          go_roundw
          case rel => exact ⟨⟨a ++ b, .inr (.inr ⟨rfl, rfl⟩), ho4⟩, hb3⟩
          case measure => simp [intOf]
        · rw [hl] at Ho
          have hok : Dok (a ++ b) := fun x hx => (List.mem_append.1 hx).elim (HA.out.2 x) (HB.out.2 x)
          have HD := Lib.hid ((DigR.owns Ho.out hok).mono (T := fun _ => True) fun _ _ => trivial)
          clear c0 c1 xr
          go_wp2
          go_ret
          exact ⟨_, rfl, HD.out, hb⟩
end Go.Proofs.Ytfligkncdlocaaa
