/- law DiskLoss: the walk. -/
import Derived.Test.YtjbcagijfodfgaaLFrom
import Derived.Test.YtjbcagijfodfgaaLV
import Derived.Test.YtjbcagijfodfgaaLazy
namespace Go.Proofs.Ytjbcagijfodfgaa
open Go.RowKit

theorem infoInt : (Try.prog.info? 3).map (fun i => (i.zero, i.size, i.bytes)) = some (some (.int .i64 0), 1, 8) := by kernel_rfl
theorem loss_key (d : Dsk) (picks : List Int) {C0 C1 C2 : Dsk} (h : chk d = 0) (h0 : crashD d picks = C0) (h1 : crashD d [] = C1) (h2 : crashD d (List.replicate d.cache.length d.size) = C2) (k : Nat) (hk : k < d.pages.length) :
    ∃ s a, readD d k = (s, 0) ∧ readD C0 k = (a, 0) ∧ readD C1 k = (d.pages[k], 0) ∧ readD C2 k = (s, 0) ∧ (a.size : Int) = d.size ∧
      ∀ i, i < a.size → byteAt a i = byteAt d.pages[k] i ∨ ∃ x ∈ d.cache, x.page = k ∧ byteAt a i = byteAt x.data i := by
  obtain ⟨v1, v2, v3, v4⟩ := chk_zero h
  have hr := rangedB_true v1
  have hz : 0 ≤ d.size := by omega
  have rd : ∀ (q : List Int) (C : Dsk) (hC : crashD d q = C), readD C k = ((crashP q d.size 0 d.cache d.pages)[k]'(by rw [crashP_len]; exact hk), 0) := by
    rintro q C rfl
    have hkC : k < (crashD d q).pages.length := by rw [crash_len h]; exact hk
    rw [readD_ok (crash_chk h q) hkC, content_crash h q hkC]
  have ek : ∀ q, (crashP q d.size 0 d.cache d.pages).getD k ByteArray.empty = (crashP q d.size 0 d.cache d.pages)[k]'(by rw [crashP_len]; exact hk) := fun q => by
    simp [List.getD, crashP_len, hk]
  refine ⟨contentD d k hk, _, readD_ok h hk, rd picks C0 h0, ?_, ?_, ?_, ?_⟩
  · rw [rd [] C1 h1]
    congr 1
    have : crashP [] d.size 0 d.cache d.pages = d.pages := crashP_none _ _ _ (by simp)
    simp only [this]
  · rw [rd _ C2 h2]
    congr 1
    have := crashP_whole hz k d.cache 0 d.pages (List.replicate d.cache.length d.size) v2 v3 (fun i _ hi => by simp at hi; simp [hi]) hk
    rw [List.getElem?_eq_getElem (by rw [crashP_len]; exact hk)] at this
    exact Option.some.inj this
  · exact crashP_sizes hz d.cache 0 d.pages v2 v3 _ (List.getElem_mem _)
  · intro i _
    have := crashP_from (picks := picks) hz k i d.cache 0 d.pages v2 v3 hk
    rw [ek] at this
    exact this

/-- the annotation of a call of Crash: in blocks of S or in its own -/
def annC (n : Nat) (C : Dsk) : Ann := ⟨fun r => r.x 0, fun r W => DskR (fun b => b < n ∨ (r.lo ≤ b ∧ b < r.hi)) W (r.x 0) C⟩
/-- the annotation of a new box -/
def annB (cs : Array Value) (t : TypeId) : Ann := ⟨fun r => .pointer (some ⟨r.lo, 0, none⟩), fun r W => Bx W r.lo cs t ∧ r.hi = r.lo + 1⟩
theorem lz_box {cs : Array Value} {t : TypeId} (w : World) : lzPost (annB cs t) w (.pointer (some ⟨w.heap.size, 0, none⟩)) (w.alloc (.cells cs t)) :=
  ⟨Below.one _ _, fun _ => undef, rfl, fun _ hb => ⟨(Bx.new w cs t).belowAll hb, by simp⟩⟩
theorem lz_crash (d : Dsk) (v : Value) (picks : List Int) (qo : Option Addr) (qc : Nat) (W : World) {n : Nat} {T : Nat → Prop} (hD : DskV W v d) (hn' : W.heap.size ≤ n) (y : Lat W) (hq : IntsAt T W qo picks) (hql : picks.length ≤ 1000000) (hn : d.cache.length ≤ 1000000) {C : Dsk} (he : crashD d picks = C) :
    Calls Try.prog 18 #[v, .slice qo picks.length qc] y.w fun e w' => ∃ v', e = .returned v' ∧ lzPost (annC n C) y.w v' w' := by
  refine (disk_crash d v picks qo qc y.w ((inS_all W).below y.h) (DskR.below hD y.h) (hq.below y.h) hql hn).mono ?_
  rintro e w' ⟨v', rfl, h, hb⟩
  rw [he] at h
  refine ⟨v', rfl, hb, fun _ => v', rfl, fun w'' hb' => DskR.mono (DskR.below h hb') ?_⟩
  rintro b (h1 | ⟨h1, h2⟩)
  · exact .inl (Nat.lt_of_lt_of_le h1 hn')
  · exact .inr ⟨h1, h2⟩

set_option maxRecDepth 100000 in
set_option maxHeartbeats 8000000 in
theorem law40_loss_walk (w : World) (d : Dsk) (v : Value) (hD : DskV w v d) (picks : List Int) (qo : Option Addr) (qc : Nat) (hq : IntsAt (· < w.heap.size) w qo picks)
    (hg : greatW d.pages d.cache = false) (hl : decide ((30 : Int) < (picks.length : Int)) = false) (hc : (chk d != 0) = false) :
    Calls Try.prog 5 #[v, .slice qo picks.length qc] w fun e w' => e = .returned (.bool true) ∧ Below w.heap.size w w' := by
  have hD0 := hD
  obtain ⟨po, pc, co, cc, rfl⟩ := hD.agg
  have hst : StrsAt (· < w.heap.size) w po d.pages := by obtain ⟨_, _, _, _, e, h, _⟩ := hD; simp only [Value.agg.injEq, Array.mk.injEq, List.cons.injEq, Value.slice.injEq, and_true, true_and] at e; rw [e.1.1]; exact h
  clear hD
  obtain ⟨i0, hi, hz0', hz1', hz2'⟩ := info_parts infoInt
  have hl' := of_decide_eq_false hl
  have hg' := great_false hg
  have hc0 : chk d = 0 := by simpa using hc
  have hv := Lib.hid (chk_zero hc0)
  have hch := Lib.hid hc0
  obtain ⟨C0, e0⟩ : ∃ C, crashD d picks = C := ⟨_, rfl⟩
  obtain ⟨C1, e1⟩ : ∃ C, crashD d [] = C := ⟨_, rfl⟩
  obtain ⟨C2, e2⟩ : ∃ C, crashD d (List.replicate d.cache.length d.size) = C := ⟨_, rfl⟩
  have HK := Lib.hid (loss_key d picks hc0 e0 e1 e2)
  have E0 := Lib.hid e0
  have E1 := Lib.hid e1
  have E2 := Lib.hid e2
  clear hc0 e0 e1 e2
  go_enter Try.func5, Try.ntmps5
  go_wp2_with fail
  refine (v_great d _ _ (hD0.below (Below.one _ _)) hg).mono ?_
  rintro e w1 ⟨rfl, hb1⟩
  have x1 := (Bx.new w _ _).belowAll hb1
  have hB1 : Below w.heap.size w w1 := Below.then (Below.one _ _) hb1 (by simp)
  have z1 := hB1.size
  have cX := x1.cell
  have lX := x1.lt
  go_wp2_with fail
  refine (v_rcheck d _ _ (hD0.below hB1) hch.out).mono ?_
  rintro e w2 ⟨rfl, hb2⟩
  have x2 := x1.belowAll hb2
  have hB2 := Below.then hB1 hb2 z1
  have z2 := hB2.size
  clear x1 cX lX
  have cX := x2.cell
  have lX := x2.lt
  go_wp2
  have x3 := x2.alloc (.cells #[] 3)
  have hB3 := hB2.alloc z2 (.cells #[] 3)
  have o3 := ownsRow_empty w2 w2.heap.size w2.heap.size 3 1 rfl (Nat.le_refl _)
  have lXn := x2.lt
  have h23 := (Below.one w2 (.cells #[] 3)).size
  clear cX lX x2
  generalize w2.alloc (.cells #[] 3) = w3 at *
  generalize hn2 : w2.heap.size = n2 at *
  have hn2h := Lib.hid hn2
  clear hn2 hB2
  go_loopw [35, 5] (fun i v wr => ∃ k : Nat, k ≤ d.cache.length ∧ i = .int .i64 k ∧ wr.ownsRow n2 3 1 v k (List.replicate k (.int .i64 d.size)) ∧ Bx wr w.heap.size #[.int .i64 d.size, .slice po d.pages.length pc, .slice co d.cache.length cc, .int .i64 d.left] 25 ∧ Below w.heap.size w wr ∧ n2 ≤ wr.heap.size) (fun i _ _ => d.cache.length - (intOf i).toNat)
  case atStart => exact ⟨0, Nat.zero_le _, rfl, o3, x3, hB3, h23⟩
  case round =>
    obtain ⟨k, hk, rfl, hown, xX, hB, hn2w⟩ := hrel
    have hz := hB.size
    have cX := xX.cell
    have lX := xX.lt
    by_cases hlt : k < d.cache.length
    · go_wp2_with (at_builtin; refine wpList_app rfl (.tmp 37) (.tmp 40) 34 rfl n2 3 i0 _ 1 8 Try.underlying34 hi hz0' hz1' hz2' rfl (by decide) _ k _ rfl (hown.alloc _) _ 1 1 [.int .i64 d.size] rfl (by intro e; cases e) rfl (RowAt.bx (Bx.new wr _ _)) (by simp [Value.oneCell']) (by unfold maxLen; omega) (by omega) (by simp; omega) ?_; intro v2 w5 hown2 hg2; clear cX lX; have xX2 := (xX.alloc _).grown hg2 (by intro e; have := (hown.lt _ e.symm).1; omega))
      have hB2 : Below w.heap.size w w5 := (hB.alloc (by omega) _).grown hg2 (by simp; omega) (by intro j e; have := (hown.lt _ e).1; omega)
      go_roundw
      case rel => exact ⟨k + 1, by omega, by go_num, by rw [List.replicate_succ']; exact hown2, xX2, hB2, by have := hg2.size; simp at this; omega⟩
      case measure => simp [intOf]; omega
    · obtain rfl : k = d.cache.length := by omega
      obtain ⟨ao, ac, rfl, has, har, _⟩ := ownsRow_at hown
      have hall : IntsAt (fun b => n2 ≤ b ∧ b < wr.heap.size) wr ao (List.replicate d.cache.length d.size) := IntsAt.of_row (by simpa using har)
      have hDr := hD0.below hB
      have hnil : IntsAt (fun _ => True) wr none [] := by intro i h; simp at h
      have hqr := hq.below hB
      clear har hown
      go_wp2_with fail
      have cQ := Lat.cells wr
      refine wp_region_lz 11 3 #[true, true, true, true, true, true, true, true, true, true, true, false, false, false] (fun i => if i = 2 then some (annC wr.heap.size C0) else if i = 4 then some (annC wr.heap.size C1) else if i = 7 then some (annC wr.heap.size C2) else if i = 8 ∨ i = 9 ∨ i = 10 then some (annB #[.int .i64 0, .slice none 0 0, .slice none 0 0, .int .i64 0] 25) else none) (by kernel_rfl) (by rfl) (by rfl) (by kernel_rfl) ?_
      simp only [List.take_succ_cons, List.take_zero]
      refine LW.block 2 2 (by rfl) (by kernel_rfl) (by kernel_rfl) ?_
      simp only [List.take_succ_cons, List.take_zero, List.drop_succ_cons, List.drop_zero]
      repeat (first | go_big_quiet_skip | (go_big_quiet_want; go_big_quiet_op; go_big_quiet_on))
      refine wpQuiet_nil ?_
      refine LW.lzy _ (by rfl) (by rfl) ?_ ?_
      · intro y _
        unfold lzAt
        go_simp
        exact lz_crash d _ picks qo qc wr hDr (Nat.le_refl _) y hqr (by omega) (by omega) E0.out
      intro r2
      simp only [Act.put, List.setIfInBounds_toArray, List.set_cons_zero, List.set_cons_succ]
      refine LW.block 1 4 (by rfl) (by kernel_rfl) (by kernel_rfl) ?_
      simp only [List.take_succ_cons, List.take_zero, List.drop_succ_cons, List.drop_zero]
      repeat (first | go_big_quiet_skip | (go_big_quiet_want; go_big_quiet_op; go_big_quiet_on))
      refine wpQuiet_nil ?_
      refine LW.lzy _ (by rfl) (by rfl) ?_ ?_
      · intro y _
        unfold lzAt
        go_simp
        exact lz_crash d _ [] none 0 wr hDr (Nat.le_refl _) y hnil (by simp) (by omega) E1.out
      intro r4
      simp only [Act.put, List.setIfInBounds_toArray, List.set_cons_zero, List.set_cons_succ]
      refine LW.block 2 7 (by rfl) (by kernel_rfl) (by kernel_rfl) ?_
      simp only [List.take_succ_cons, List.take_zero, List.drop_succ_cons, List.drop_zero]
      repeat (first | go_big_quiet_skip | (go_big_quiet_want; go_big_quiet_op; go_big_quiet_on))
      refine wpQuiet_nil ?_
      refine LW.lzy _ (by rfl) (by rfl) ?_ ?_
      · intro y _
        unfold lzAt
        go_simp
        have := lz_crash d _ (List.replicate d.cache.length d.size) ao ac wr hDr (Nat.le_refl _) y hall (by simp; omega) (by omega) E2.out
        rw [List.length_replicate] at this
        exact this
      intro r7
      simp only [Act.put, List.setIfInBounds_toArray, List.set_cons_zero, List.set_cons_succ]
      refine LW.lzy _ (by rfl) (by rfl) ?_ ?_
      · intro y _
        unfold lzAt
        go_simp
        exact lz_box y.w
      intro r8
      simp only [Act.put, List.setIfInBounds_toArray, List.set_cons_zero, List.set_cons_succ]
      refine LW.lzy _ (by rfl) (by rfl) ?_ ?_
      · intro y _
        unfold lzAt
        go_simp
        exact lz_box y.w
      intro r9
      simp only [Act.put, List.setIfInBounds_toArray, List.set_cons_zero, List.set_cons_succ]
      refine LW.lzy _ (by rfl) (by rfl) ?_ ?_
      · intro y _
        unfold lzAt
        go_simp
        exact lz_box y.w
      intro r10
      simp only [Act.put, List.setIfInBounds_toArray, List.set_cons_zero, List.set_cons_succ]
      refine LW.done ?_
      intro W' hG
      simp only [annC, annB]
      have hR2 : DskR (fun b => b < wr.heap.size ∨ (r2.lo ≤ b ∧ b < r2.hi)) W' (r2.x 0) C0 := hG.get 2 rfl rfl
      have hR4 : DskR (fun b => b < wr.heap.size ∨ (r4.lo ≤ b ∧ b < r4.hi)) W' (r4.x 0) C1 := hG.get 4 rfl rfl
      have hR7 : DskR (fun b => b < wr.heap.size ∨ (r7.lo ≤ b ∧ b < r7.hi)) W' (r7.x 0) C2 := hG.get 7 rfl rfl
      obtain ⟨b8, s8⟩ : Bx W' r8.lo #[.int .i64 0, .slice none 0 0, .slice none 0 0, .int .i64 0] 25 ∧ r8.hi = r8.lo + 1 := hG.get 8 rfl rfl
      obtain ⟨b9, s9⟩ : Bx W' r9.lo #[.int .i64 0, .slice none 0 0, .slice none 0 0, .int .i64 0] 25 ∧ r9.hi = r9.lo + 1 := hG.get 9 rfl rfl
      obtain ⟨b10, s10⟩ : Bx W' r10.lo #[.int .i64 0, .slice none 0 0, .slice none 0 0, .int .i64 0] 25 ∧ r10.hi = r10.lo + 1 := hG.get 10 rfl rfl
      have g2 := hG.range 2 r2 rfl
      have g4 := hG.range 4 r4 rfl
      have g7 := hG.range 7 r7 rfl
      have g8 := hG.range 8 r8 rfl
      have g9 := hG.range 9 r9 rfl
      have g10 := hG.range 10 r10 rfl
      have p28 := hG.apart 2 8 r2 r8 (by decide) rfl rfl
      have p29 := hG.apart 2 9 r2 r9 (by decide) rfl rfl
      have p210 := hG.apart 2 10 r2 r10 (by decide) rfl rfl
      have p48 := hG.apart 4 8 r4 r8 (by decide) rfl rfl
      have p49 := hG.apart 4 9 r4 r9 (by decide) rfl rfl
      have p410 := hG.apart 4 10 r4 r10 (by decide) rfl rfl
      have p78 := hG.apart 7 8 r7 r8 (by decide) rfl rfl
      have p79 := hG.apart 7 9 r7 r9 (by decide) rfl rfl
      have p710 := hG.apart 7 10 r7 r10 (by decide) rfl rfl
      have p89 := hG.apart 8 9 r8 r9 (by decide) rfl rfl
      have p810 := hG.apart 8 10 r8 r10 (by decide) rfl rfl
      have p910 := hG.apart 9 10 r9 r10 (by decide) rfl rfl
      have hBW := Below.then hB hG.below hz
      have xW := xX.belowAll hG.below
      have q89 : r8.lo ≠ r9.lo := by omega
      have q810 : r8.lo ≠ r10.lo := by omega
      have q910 : r9.lo ≠ r10.lo := by omega
      have q8 : w.heap.size < r8.lo := by have := xX.lt; omega
      have q9 : w.heap.size < r9.lo := by have := xX.lt; omega
      have q10 : w.heap.size < r10.lo := by have := xX.lt; omega
      have hR2 := DskR.mono (T := fun b => b ≠ r8.lo ∧ b ≠ r9.lo ∧ b ≠ r10.lo ∧ b < W'.heap.size) hR2 (by rintro b (h | h) <;> omega)
      have hR4 := DskR.mono (T := fun b => b ≠ r8.lo ∧ b ≠ r9.lo ∧ b ≠ r10.lo ∧ b < W'.heap.size) hR4 (by rintro b (h | h) <;> omega)
      have hR7 := DskR.mono (T := fun b => b ≠ r8.lo ∧ b ≠ r9.lo ∧ b ≠ r10.lo ∧ b < W'.heap.size) hR7 (by rintro b (h | h) <;> omega)
      have m8 : w.heap.size ≤ r8.lo := by omega
      have m9 : w.heap.size ≤ r9.lo := by omega
      have m10 : w.heap.size ≤ r10.lo := by omega
      clear g2 g4 g7 g8 g9 g10 p28 p29 p210 p48 p49 p410 p78 p79 p710 p89 p810 p910 s8 s9 s10 cX lX hDr hqr hall xX cQ
      have hM2 := hR2
      have hM4 := hR4
      have hM7 := hR7
      obtain ⟨po2, pc2, co2, cc2, y2, _, _, _⟩ := hR2
      obtain ⟨po4, pc4, co4, cc4, y4, _, _, _⟩ := hR4
      obtain ⟨po7, pc7, co7, cc7, y7, _, _, _⟩ := hR7
      rw [y2] at hM2
      rw [y4] at hM4
      rw [y7] at hM7
      rw [y2, y4, y7]
      clear y2 y4 y7
      have c8 := b8.cell
      have f8 := b8.free
      have l8 := b8.lt
      have c9 := b9.cell
      have f9 := b9.free
      have l9 := b9.lt
      have c10 := b10.cell
      have f10 := b10.free
      have l10 := b10.lt
      refine wpAny_ready (rs := [11]) (by kernel_rfl) (by simp) ?_
      refine AllReady.cons rfl (fun K hK => ?_) AllReady.nil
      go_simp
      refine hK _ _ ?_
      clear hK K
      refine wpAny_ready (rs := [12]) (by kernel_rfl) (by simp) ?_
      refine AllReady.cons rfl (fun K hK => ?_) AllReady.nil
      go_simp
      refine hK _ _ ?_
      clear hK K
      refine wpAny_ready (rs := [13]) (by kernel_rfl) (by simp) ?_
      refine AllReady.cons rfl (fun K hK => ?_) AllReady.nil
      go_simp
      refine hK _ _ ?_
      clear hK K
      refine wpAny_done (by kernel_rfl) ?_ _
      have xL := ((xW.setO4 (b' := r8.lo) (v0 := .int .i64 C0.size) (v1 := .slice po2 C0.pages.length pc2) (v2 := .slice co2 C0.cache.length cc2) (v3 := .int .i64 C0.left) (by omega)).setO4 (b' := r9.lo) (v0 := .int .i64 C1.size) (v1 := .slice po4 C1.pages.length pc4) (v2 := .slice co4 C1.cache.length cc4) (v3 := .int .i64 C1.left) (by omega)).setO4 (b' := r10.lo) (v0 := .int .i64 C2.size) (v1 := .slice po7 C2.pages.length pc7) (v2 := .slice co7 C2.cache.length cc7) (v3 := .int .i64 C2.left) (by omega)
      have x8 := ((b8.set4 (v0 := .int .i64 C0.size) (v1 := .slice po2 C0.pages.length pc2) (v2 := .slice co2 C0.cache.length cc2) (v3 := .int .i64 C0.left)).setO4 (b' := r9.lo) (v0 := .int .i64 C1.size) (v1 := .slice po4 C1.pages.length pc4) (v2 := .slice co4 C1.cache.length cc4) (v3 := .int .i64 C1.left) q89).setO4 (b' := r10.lo) (v0 := .int .i64 C2.size) (v1 := .slice po7 C2.pages.length pc7) (v2 := .slice co7 C2.cache.length cc7) (v3 := .int .i64 C2.left) q810
      have x9 := ((b9.setO4 (b' := r8.lo) (v0 := .int .i64 C0.size) (v1 := .slice po2 C0.pages.length pc2) (v2 := .slice co2 C0.cache.length cc2) (v3 := .int .i64 C0.left) (fun e => q89 e.symm)).set4 (v0 := .int .i64 C1.size) (v1 := .slice po4 C1.pages.length pc4) (v2 := .slice co4 C1.cache.length cc4) (v3 := .int .i64 C1.left)).setO4 (b' := r10.lo) (v0 := .int .i64 C2.size) (v1 := .slice po7 C2.pages.length pc7) (v2 := .slice co7 C2.cache.length cc7) (v3 := .int .i64 C2.left) q910
      have x10 := ((b10.setO4 (b' := r8.lo) (v0 := .int .i64 C0.size) (v1 := .slice po2 C0.pages.length pc2) (v2 := .slice co2 C0.cache.length cc2) (v3 := .int .i64 C0.left) (fun e => q810 e.symm)).setO4 (b' := r9.lo) (v0 := .int .i64 C1.size) (v1 := .slice po4 C1.pages.length pc4) (v2 := .slice co4 C1.cache.length cc4) (v3 := .int .i64 C1.left) (fun e => q910 e.symm)).set4 (v0 := .int .i64 C2.size) (v1 := .slice po7 C2.pages.length pc7) (v2 := .slice co7 C2.cache.length cc7) (v3 := .int .i64 C2.left)
      have hBL := below_set4 (b := r10.lo) (v0 := .int .i64 C2.size) (v1 := .slice po7 C2.pages.length pc7) (v2 := .slice co7 C2.cache.length cc7) (v3 := .int .i64 C2.left) (below_set4 (b := r9.lo) (v0 := .int .i64 C1.size) (v1 := .slice po4 C1.pages.length pc4) (v2 := .slice co4 C1.cache.length cc4) (v3 := .int .i64 C1.left) (below_set4 (b := r8.lo) (v0 := .int .i64 C0.size) (v1 := .slice po2 C0.pages.length pc2) (v2 := .slice co2 C0.cache.length cc2) (v3 := .int .i64 C0.left) hBW m8) m9) m10
      have hL2 := DskR.mono (T := (· < (((((((((((((W').setCell ⟨r8.lo, 0, none⟩ (.int .i64 C0.size)).setCell ⟨r8.lo, 1, none⟩ (.slice po2 C0.pages.length pc2)).setCell ⟨r8.lo, 2, none⟩ (.slice co2 C0.cache.length cc2)).setCell ⟨r8.lo, 3, none⟩ (.int .i64 C0.left)).setCell ⟨r9.lo, 0, none⟩ (.int .i64 C1.size)).setCell ⟨r9.lo, 1, none⟩ (.slice po4 C1.pages.length pc4)).setCell ⟨r9.lo, 2, none⟩ (.slice co4 C1.cache.length cc4)).setCell ⟨r9.lo, 3, none⟩ (.int .i64 C1.left)).setCell ⟨r10.lo, 0, none⟩ (.int .i64 C2.size)).setCell ⟨r10.lo, 1, none⟩ (.slice po7 C2.pages.length pc7)).setCell ⟨r10.lo, 2, none⟩ (.slice co7 C2.cache.length cc7)).setCell ⟨r10.lo, 3, none⟩ (.int .i64 C2.left)).heap.size)) (hM2.same ((((Same.refl _ W').set4 (b := r8.lo) (v0 := .int .i64 C0.size) (v1 := .slice po2 C0.pages.length pc2) (v2 := .slice co2 C0.cache.length cc2) (v3 := .int .i64 C0.left) (fun h => h.1 rfl)).set4 (b := r9.lo) (v0 := .int .i64 C1.size) (v1 := .slice po4 C1.pages.length pc4) (v2 := .slice co4 C1.cache.length cc4) (v3 := .int .i64 C1.left) (fun h => h.2.1 rfl)).set4 (b := r10.lo) (v0 := .int .i64 C2.size) (v1 := .slice po7 C2.pages.length pc7) (v2 := .slice co7 C2.cache.length cc7) (v3 := .int .i64 C2.left) (fun h => h.2.2.1 rfl))) (fun b h => by simpa using h.2.2.2)
      have hL4 := DskR.mono (T := (· < (((((((((((((W').setCell ⟨r8.lo, 0, none⟩ (.int .i64 C0.size)).setCell ⟨r8.lo, 1, none⟩ (.slice po2 C0.pages.length pc2)).setCell ⟨r8.lo, 2, none⟩ (.slice co2 C0.cache.length cc2)).setCell ⟨r8.lo, 3, none⟩ (.int .i64 C0.left)).setCell ⟨r9.lo, 0, none⟩ (.int .i64 C1.size)).setCell ⟨r9.lo, 1, none⟩ (.slice po4 C1.pages.length pc4)).setCell ⟨r9.lo, 2, none⟩ (.slice co4 C1.cache.length cc4)).setCell ⟨r9.lo, 3, none⟩ (.int .i64 C1.left)).setCell ⟨r10.lo, 0, none⟩ (.int .i64 C2.size)).setCell ⟨r10.lo, 1, none⟩ (.slice po7 C2.pages.length pc7)).setCell ⟨r10.lo, 2, none⟩ (.slice co7 C2.cache.length cc7)).setCell ⟨r10.lo, 3, none⟩ (.int .i64 C2.left)).heap.size)) (hM4.same ((((Same.refl _ W').set4 (b := r8.lo) (v0 := .int .i64 C0.size) (v1 := .slice po2 C0.pages.length pc2) (v2 := .slice co2 C0.cache.length cc2) (v3 := .int .i64 C0.left) (fun h => h.1 rfl)).set4 (b := r9.lo) (v0 := .int .i64 C1.size) (v1 := .slice po4 C1.pages.length pc4) (v2 := .slice co4 C1.cache.length cc4) (v3 := .int .i64 C1.left) (fun h => h.2.1 rfl)).set4 (b := r10.lo) (v0 := .int .i64 C2.size) (v1 := .slice po7 C2.pages.length pc7) (v2 := .slice co7 C2.cache.length cc7) (v3 := .int .i64 C2.left) (fun h => h.2.2.1 rfl))) (fun b h => by simpa using h.2.2.2)
      have hL7 := DskR.mono (T := (· < (((((((((((((W').setCell ⟨r8.lo, 0, none⟩ (.int .i64 C0.size)).setCell ⟨r8.lo, 1, none⟩ (.slice po2 C0.pages.length pc2)).setCell ⟨r8.lo, 2, none⟩ (.slice co2 C0.cache.length cc2)).setCell ⟨r8.lo, 3, none⟩ (.int .i64 C0.left)).setCell ⟨r9.lo, 0, none⟩ (.int .i64 C1.size)).setCell ⟨r9.lo, 1, none⟩ (.slice po4 C1.pages.length pc4)).setCell ⟨r9.lo, 2, none⟩ (.slice co4 C1.cache.length cc4)).setCell ⟨r9.lo, 3, none⟩ (.int .i64 C1.left)).setCell ⟨r10.lo, 0, none⟩ (.int .i64 C2.size)).setCell ⟨r10.lo, 1, none⟩ (.slice po7 C2.pages.length pc7)).setCell ⟨r10.lo, 2, none⟩ (.slice co7 C2.cache.length cc7)).setCell ⟨r10.lo, 3, none⟩ (.int .i64 C2.left)).heap.size)) (hM7.same ((((Same.refl _ W').set4 (b := r8.lo) (v0 := .int .i64 C0.size) (v1 := .slice po2 C0.pages.length pc2) (v2 := .slice co2 C0.cache.length cc2) (v3 := .int .i64 C0.left) (fun h => h.1 rfl)).set4 (b := r9.lo) (v0 := .int .i64 C1.size) (v1 := .slice po4 C1.pages.length pc4) (v2 := .slice co4 C1.cache.length cc4) (v3 := .int .i64 C1.left) (fun h => h.2.1 rfl)).set4 (b := r10.lo) (v0 := .int .i64 C2.size) (v1 := .slice po7 C2.pages.length pc7) (v2 := .slice co7 C2.cache.length cc7) (v3 := .int .i64 C2.left) (fun h => h.2.2.1 rfl))) (fun b h => by simpa using h.2.2.2)
      generalize ((((((((((((W').setCell ⟨r8.lo, 0, none⟩ (.int .i64 C0.size)).setCell ⟨r8.lo, 1, none⟩ (.slice po2 C0.pages.length pc2)).setCell ⟨r8.lo, 2, none⟩ (.slice co2 C0.cache.length cc2)).setCell ⟨r8.lo, 3, none⟩ (.int .i64 C0.left)).setCell ⟨r9.lo, 0, none⟩ (.int .i64 C1.size)).setCell ⟨r9.lo, 1, none⟩ (.slice po4 C1.pages.length pc4)).setCell ⟨r9.lo, 2, none⟩ (.slice co4 C1.cache.length cc4)).setCell ⟨r9.lo, 3, none⟩ (.int .i64 C1.left)).setCell ⟨r10.lo, 0, none⟩ (.int .i64 C2.size)).setCell ⟨r10.lo, 1, none⟩ (.slice po7 C2.pages.length pc7)).setCell ⟨r10.lo, 2, none⟩ (.slice co7 C2.cache.length cc7)).setCell ⟨r10.lo, 3, none⟩ (.int .i64 C2.left) = WL at *
      clear c8 f8 l8 c9 f9 l9 c10 f10 l10 b8 b9 b10 xW hM2 hM4 hM7 q8 q9 q10 m8 m9 m10 q89 q810 q910 hBW hG
      have cX := xL.cell
      have lX := xL.lt
      go_wp2
      clear cX lX
      go_loopw [54] (fun t wr => ∃ k : Nat, k ≤ d.pages.length ∧ t = .int .i64 k ∧ Below w.heap.size w wr ∧ Bx wr w.heap.size #[.int .i64 d.size, .slice po d.pages.length pc, .slice co d.cache.length cc, .int .i64 d.left] 25 ∧ Bx wr r8.lo #[.int .i64 C0.size, .slice po2 C0.pages.length pc2, .slice co2 C0.cache.length cc2, .int .i64 C0.left] 25 ∧ Bx wr r9.lo #[.int .i64 C1.size, .slice po4 C1.pages.length pc4, .slice co4 C1.cache.length cc4, .int .i64 C1.left] 25 ∧ Bx wr r10.lo #[.int .i64 C2.size, .slice po7 C2.pages.length pc7, .slice co7 C2.cache.length cc7, .int .i64 C2.left] 25 ∧
        DskV wr (.agg #[.int .i64 C0.size, .slice po2 C0.pages.length pc2, .slice co2 C0.cache.length cc2, .int .i64 C0.left]) C0 ∧ DskV wr (.agg #[.int .i64 C1.size, .slice po4 C1.pages.length pc4, .slice co4 C1.cache.length cc4, .int .i64 C1.left]) C1 ∧ DskV wr (.agg #[.int .i64 C2.size, .slice po7 C2.pages.length pc7, .slice co7 C2.cache.length cc7, .int .i64 C2.left]) C2) (fun t _ => d.pages.length - (intOf t).toNat)
      case atStart => exact ⟨0, Nat.zero_le _, rfl, hBL, xL, x8, x9, x10, hL2, hL4, hL7⟩
      case round =>
        clear hBL xL x8 x9 x10 hL2 hL4 hL7
        obtain ⟨j, hj, rfl, hb, xL, x8, x9, x10, h2, h4, h7⟩ := hrel
        have hzb := hb.size
        by_cases hjl : j < d.pages.length
        · obtain ⟨s, a, k1, k2, k3, k4, k5, k6⟩ := HK.out j hjl
          have K1 := Lib.hid k1
          have K2 := Lib.hid k2
          have K3 := Lib.hid k3
          have K4 := Lib.hid k4
          have K5 := Lib.hid (And.intro k5 k6)
          clear k1 k2 k3 k4 k5 k6
          obtain ⟨pb, poff, rfl, hpc0, _⟩ := hst j hjl
          have hpc : wr.cell? ⟨pb, poff + j, none⟩ = some (.string d.pages[j]) := by rw [hb.cell (World.block_lt_of_cell? w _ hpc0)]; exact hpc0
          have lP : pb < wr.heap.size := World.block_lt_of_cell? wr _ hpc
          have cX := xL.cell
          have lX := xL.lt
          have c8 := x8.cell
          have l8 := x8.lt
          have c9 := x9.cell
          have l9 := x9.lt
          have c10 := x10.cell
          have l10 := x10.lt
          go_wp2_with fail
          refine (v_read d _ j _ (hD0.below hb) K1.out).mono ?_
          rintro e t1 ⟨rfl, hr1⟩
          obtain ⟨q1, _⟩ := bcell hr1
          go_wp2_with fail
          refine (v_read C0 _ j _ (h2.below hr1) K2.out).mono ?_
          rintro e t2 ⟨rfl, hr2⟩
          have hr2 := Below.then hr1 hr2 hr1.size
          obtain ⟨q2, _⟩ := bcell hr2
          go_wp2_with fail
          refine (v_read C1 _ j _ (h4.below hr2) K3.out).mono ?_
          rintro e t3 ⟨rfl, hr3⟩
          have hr3 := Below.then hr2 hr3 hr2.size
          obtain ⟨q3, _⟩ := bcell hr3
          go_wp2_with fail
          refine (v_read C2 _ j _ (h7.below hr3) K4.out).mono ?_
          rintro e t4 ⟨rfl, hr4⟩
          have hr4 := Below.then hr3 hr4 hr3.size
          obtain ⟨q4, _⟩ := bcell hr4
          go_wp2_with fail
          refine (law40_from d _ _ ((hD0.below hb).below hr4) j hjl a K5.out.1 hv.out.2.1 (fun x hx => (hv.out.2.2.1 x hx).2.2) K5.out.2).mono ?_
          rintro e t5 ⟨rfl, hr5⟩
          have hr5 := Below.then hr4 hr5 hr4.size
          obtain ⟨q5, _⟩ := bcell hr5
          go_wp2
          go_roundw
          case rel => exact ⟨j + 1, by omega, by go_num, Below.then hb hr5 hzb, xL.belowAll hr5, x8.belowAll hr5, x9.belowAll hr5, x10.belowAll hr5, h2.below hr5, h4.below hr5, h7.below hr5⟩
          case measure => simp [intOf]; omega
        · go_wp2_with fail
          refine (law40_awake _).mono ?_
          rintro e w9 ⟨rfl, hb9⟩
          go_wp2
          go_ret
          exact ⟨rfl, Below.then hb hb9 hzb⟩
set_option maxRecDepth 100000 in
set_option maxHeartbeats 4000000 in
theorem law40_loss (w : World) (d : Dsk) (v : Value) (hD : DskV w v d) (picks : List Int) (qo : Option Addr) (qc : Nat) (hq : IntsAt (· < w.heap.size) w qo picks) (_hql : picks.length * 8 ≤ 140737488351232) (_hpw : ∀ x ∈ picks, -9223372036854775808 ≤ x ∧ x ≤ 9223372036854775807) :
    Calls Try.prog 5 #[v, .slice qo picks.length qc] w fun e w' => e = .returned (.bool true) ∧ Below w.heap.size w w' := by
  have hD0 := hD
  obtain ⟨po, pc, co, cc, rfl⟩ := hD.agg
  cases hg : greatW d.pages d.cache
  · cases hl : decide ((30 : Int) < (picks.length : Int))
    · obtain ⟨c, hc0⟩ : ∃ c, chk d = c := ⟨_, rfl⟩
      cases hc : (c != 0)
      · exact law40_loss_walk w d _ hD picks qo qc hq hg hl (hc0 ▸ hc)
      · have hch := Lib.hid hc0
        clear hc0 hD
        go_enter Try.func5, Try.ntmps5
        go_wp2_with fail
        refine (v_great d _ _ (hD0.below (Below.one _ _)) hg).mono ?_
        rintro e w1 ⟨rfl, hb1⟩
        have x1 := (Bx.new w _ _).belowAll hb1
        have hB1 : Below w.heap.size w w1 := Below.then (Below.one _ _) hb1 (by simp)
        have cX := x1.cell
        have lX := x1.lt
        go_wp2_with fail
        refine (v_rcheck d _ _ (hD0.below hB1) hch.out).mono ?_
        rintro e w2 ⟨rfl, hb2⟩
        have x2 := x1.belowAll hb2
        clear cX lX
        have cX := x2.cell
        have lX := x2.lt
        have hB1 := Below.then hB1 hb2 hB1.size
        go_wp2_with fail
        refine (law40_awake _).mono ?_
        rintro e w9 ⟨rfl, hb9⟩
        go_wp2
        go_ret
        exact ⟨rfl, Below.then hB1 hb9 hB1.size⟩
    · go_enter Try.func5, Try.ntmps5
      go_wp2_with fail
      refine (v_great d _ _ (hD0.below (Below.one _ _)) hg).mono ?_
      rintro e w1 ⟨rfl, hb1⟩
      have x1 := (Bx.new w _ _).belowAll hb1
      have hB1 : Below w.heap.size w w1 := Below.then (Below.one _ _) hb1 (by simp)
      have cX := x1.cell
      have lX := x1.lt
      go_wp2_with fail
      refine (law40_awake _).mono ?_
      rintro e w9 ⟨rfl, hb9⟩
      go_wp2
      go_ret
      exact ⟨rfl, Below.then hB1 hb9 hB1.size⟩
  · go_enter Try.func5, Try.ntmps5
    go_wp2_with fail
    refine (v_great d _ _ (hD0.below (Below.one _ _)) hg).mono ?_
    rintro e w1 ⟨rfl, hb1⟩
    have x1 := (Bx.new w _ _).belowAll hb1
    have hB1 : Below w.heap.size w w1 := Below.then (Below.one _ _) hb1 (by simp)
    have cX := x1.cell
    have lX := x1.lt
    go_wp2_with fail
    refine (law40_awake _).mono ?_
    rintro e w9 ⟨rfl, hb9⟩
    go_wp2
    go_ret
    exact ⟨rfl, Below.then hB1 hb9 hB1.size⟩
end Go.Proofs.Ytjbcagijfodfgaa
