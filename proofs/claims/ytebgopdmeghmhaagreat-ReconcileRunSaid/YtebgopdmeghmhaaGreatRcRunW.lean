/- slices.Compact of a list without doubles; reconcile.sorted. Two rows of digests in one block, appended to in turn; ranges that lie elsewhere. reconcile.Run. -/
import Derived.Test.YtebgopdmeghmhaaGreatRcMap
import Derived.Test.YtebgopdmeghmhaaGreatRcSpec
import Derived.Test.YtebgopdmeghmhaaGreatRcAdd1
import Derived.Test.YtebgopdmeghmhaaGreatRcAns
import Derived.Test.YtebgopdmeghmhaaGreatRcStart
namespace Go.Proofs.YtebgopdmeghmhaaGreat
open Go.RowKit

theorem nodup_next {l : List (List UInt8)} (h : l.Nodup) {k : Nat} (hk : k + 1 < l.length) : l[k + 1] ≠ l[k]'(by omega) := by
  unfold List.Nodup at h
  rw [List.pairwise_iff_getElem] at h
  exact (h k (k + 1) (by omega) hk (by omega)).symm
set_option maxRecDepth 100000 in
set_option maxHeartbeats 2000000 in
theorem sl_Compact {S : Nat → Prop} (w : World) (v : Value) (l : List (List UInt8)) (h : DigR S w v l) (hm : l.length ≤ 1000000) (hnd : l.Nodup) :
    Calls Tryz.prog 34 #[v] w fun e w' => e = .returned v ∧ Below w.heap.size w w' := by
  obtain ⟨o, c, rfl⟩ : ∃ o c, v = .slice o l.length c := by obtain ⟨⟨o, c, e, _⟩, _⟩ := h; rw [digC_size] at e; exact ⟨o, c, e⟩
  have HD := Lib.hid h
  have Hnd := Lib.hid hnd
  obtain ⟨n, hn⟩ : ∃ n, l.length = n := ⟨_, rfl⟩
  have Hn := Lib.hid hn
  rw [hn] at HD hm ⊢
  clear h hnd hn
  go_enter Tryz.func34, Tryz.ntmps34
  by_cases h2 : n < 2
  · have h2' : (n : Int) < 2 := by omega
    go_wp2
    go_ret
    exact ⟨rfl, Below.refl _ _⟩
  · have h2' : ¬ (n : Int) < 2 := by omega
    go_wp2
    go_loopw [3] (fun i wr => ∃ k : Nat, k < n ∧ i = .int .i64 ((k : Int) + 1) ∧ Below w.heap.size w wr) (fun i _ => n - (intOf i).toNat)
    case atStart => exact ⟨0, by omega, rfl, Below.refl _ _⟩
    case round =>
      obtain ⟨k, hk, rfl, hB⟩ := hrel
      by_cases hlt : k + 1 < n
      · have hltl : k + 1 < l.length := by rw [Hn.out]; exact hlt
        have hlt' : (k : Int) + 1 < (n : Int) := by omega
        obtain ⟨b, off, c', e', _, _, _, hb, hra⟩ := (HD.out.below hB).at hltl
        rw [Hn.out] at e'
        obtain ⟨rfl, rfl⟩ : o = some ⟨b, off, none⟩ ∧ c = c' := by simpa using e'
        obtain ⟨b', off', c', e', _, _, _, _, hrb⟩ := (HD.out.below hB).at (i := k) (by omega)
        rw [Hn.out] at e'
        obtain ⟨⟨rfl, rfl⟩, rfl⟩ : (b = b' ∧ off = off') ∧ c = c' := by simpa using e'
        have Hx := Lib.hid (HD.out.2 _ (List.getElem_mem hltl))
        have Hy := Lib.hid (HD.out.2 _ (List.getElem_mem (show k < l.length by omega)))
        have Hra := Lib.hid hra
        have Hrb := Lib.hid hrb
        have Hne := Lib.hid (decide_eq_false (nodup_next Hnd.out hltl))
        clear hra hrb e'
        generalize l[k + 1] = x at *
        generalize l[k] = y at *
        clear hltl
        have Hxb : Hid ((bytesV x).length = 32) := Lib.hid (by rw [bytesV_len, Hx.out])
        have Hyb : Hid ((bytesV y).length = 32) := Lib.hid (by rw [bytesV_len, Hy.out])
        go_wp2
        have cQ := Lat.cells wr
        refine wp_region_lat (by kernel_rfl) (by kernel_rfl) ?_
        repeat (first | go_big_quiet_skip | (go_big_quiet_want; first | ((first | (refine quiet_load_row 39 (.tmp 18) rfl b (off + (k + 1) * 32) rfl (bytesV x) _ (lat_range Hra.out hb) Tryz.underlying39 rfl (by rw [sizeDg, Hxb.out]) ?_) | (refine quiet_load_row 39 (.tmp 23) rfl b (off + k * 32) rfl (bytesV y) _ (lat_range Hrb.out hb) Tryz.underlying39 rfl (by rw [sizeDg, Hyb.out]) ?_) | (refine quiet_run (.bool false) (fun w => by rw [run_eql_dg _ (.tmp 19) (.tmp 24) rfl x y Hx.out Hy.out rfl rfl, Hne.out]) ?_)); simp only [Act.put, List.setIfInBounds_toArray, List.set_cons_zero, List.set_cons_succ]; go_big_quiet_on) | (go_big_quiet_op; first | go_big_quiet_on | go_big_quiet_call ((fail)))))
        refine wpQuiet_nil ?_
        rintro W4 ⟨⟨_, hb4⟩, rfl⟩
        have hB4 := Below.then hB hb4 hB.size
        clear cQ
        go_wp2
        go_roundw
        case rel => exact ⟨k + 1, hlt, by go_num, hB4⟩
        case measure => simp [intOf]; omega
      · obtain rfl : k + 1 = n := by omega
        have hlt' : ¬ (k : Int) + 1 < ((k + 1 : Nat) : Int) := by omega
        go_wp2
        go_ret
        exact ⟨rfl, hB⟩
set_option maxRecDepth 100000 in
set_option maxHeartbeats 2000000 in
theorem rc_sorted (w : World) {base : Nat} (v : Value) (l : List (List UInt8)) (h : DgO w base v l) (hm : l.length ≤ 1000000) (hnd : l.Nodup) :
    Calls Tryz.prog 14 #[v] w fun e w' => e = .returned v ∧ DgO w' base v (sortD l) ∧ w.grownBy w' v.ownBlock := by
  have hl : (sortD l).length = l.length := (sortD_perm l).length_eq
  have Hs := Lib.hid (sort_digs h.1 h.2 (by omega))
  have Hc := Lib.hid (fun W (h2 : DgO W base v (sortD l)) => sl_Compact W v (sortD l) h2.dig (by rw [hl]; exact hm) ((sortD_perm l).nodup_iff.2 hnd))
  have Hok : Hid (Dok (sortD l)) := Lib.hid fun d hd => h.2 d ((sortD_perm l).mem_iff.1 hd)
  have Hl := Lib.hid hl
  clear hl
  obtain ⟨o, m, c, rfl⟩ := ownsRow_slice h.1
  clear h
  go_enter Tryz.func14, Tryz.ntmps14
  go_wp2_with fail
  refine Hs.out.mono ?_
  rintro e w2 ⟨rfl, ho2, hg2⟩
  have Ho2 : Hid (DgO w2 base (.slice o m c) (sortD l)) := Lib.hid ⟨by rw [Hl.out]; exact ho2, Hok.out⟩
  have Hg2 := Lib.hid hg2
  have Hc2 := Lib.hid (Hc.out w2 Ho2.out)
  clear ho2 hg2
  go_wp2_with fail
  refine Hc2.out.mono ?_
  rintro e w3 ⟨rfl, hb3⟩
  have Ho3 := Lib.hid (Ho2.out.below hb3)
  have Hg3 := Lib.hid (Hg2.out.trans (grownBy_below hb3 (Nat.le_refl _) _))
  clear hb3
  go_wp2
  go_ret
  exact ⟨rfl, Ho3.out, Hg3.out⟩
end Go.Proofs.YtebgopdmeghmhaaGreat
namespace Go.Proofs.YtebgopdmeghmhaaGreat
open Go.RowKit

/-- neither the block nor one of the two rows -/
def OffM (M : Nat) (u v : Value) (b : Nat) : Prop := b ≠ M ∧ u.ownBlock ≠ some b ∧ v.ownBlock ≠ some b
structure Ms (w : World) (base M : Nat) (t : TypeId) (u v : Value) (A B : List (List UInt8)) : Prop where
  x : Bx w M #[u, v] t
  a : DgO w base u A
  b : DgO w base v B
  ne : ∀ k, u.ownBlock = some k → v.ownBlock ≠ some k
  lt : M < base
  lb : base ≤ w.heap.size
/-- the ranges stay, over an append and a store -/
theorem RgsR.off {F F' : Nat → Prop} {w w' : World} {row : Option Nat} {v u : Value} {l : List Rg} {g k : Nat} (h : RgsR F w v l) (hg : w.grownBy w' row) (hF : ∀ b, row = some b → ¬ F b) (hg' : ∀ b, F b → b ≠ g) (hF' : ∀ b, F b → b < w.heap.size → F' b) : RgsR F' (w'.setCell ⟨g, k, none⟩ u) v l := by
  obtain ⟨o, c, vs, e, hs, hv, hr, hd, hok⟩ := h
  refine ⟨o, c, vs, e, hs, hv, ?_, fun i hi => (hd i hi).off hg hF hg' hF', hok⟩
  intro j hj
  obtain ⟨b, off, ho, hc, hS⟩ := hr j hj
  have hlt := World.block_lt_of_cell? w _ hc
  refine ⟨b, off, ho, ?_, hF' b hS hlt⟩
  have h1 := hg.cell hc fun e => hF b e.symm hS
  rw [← h1]
  exact World.cell?_of_block (Below.heap_setCell w' ⟨g, k, none⟩ u b fun e => hg' b hS e)
theorem RgsR.lt {F : Nat → Prop} {w : World} {v : Value} {l : List Rg} (h : RgsR F w v l) : RgsR (fun b => F b ∧ b < w.heap.size) w v l := by
  obtain ⟨o, c, vs, e, hs, hv, hr, hd, hok⟩ := h
  refine ⟨o, c, vs, e, hs, hv, ?_, fun i hi => (hd i hi).lt, hok⟩
  intro j hj
  obtain ⟨b, off, ho, hc, hS⟩ := hr j hj
  exact ⟨b, off, ho, hc, hS, World.block_lt_of_cell? w _ hc⟩
section
variable {w w' : World} {base M : Nat} {t : TypeId} {u v v' : Value} {A B X : List (List UInt8)}
theorem Ms.below (h : Ms w base M t u v A B) (hb : Below w.heap.size w w') : Ms w' base M t u v A B :=
  ⟨h.x.belowAll hb, h.a.below hb, h.b.below hb, h.ne, h.lt, Nat.le_trans h.lb hb.size⟩
theorem DgO.setM (h : DgO w base v A) {M k : Nat} (hM : M < base) (u : Value) : DgO (w.setCell ⟨M, k, none⟩ u) base v A := ⟨ownsRow_setB h.1 hM u, h.2⟩
theorem Ms.add0 (h : Ms w base M t u v A B) (ho : w'.ownsRow base 39 32 v' (A.length + X.length) ((digC A).flatten ++ (digC X).flatten)) (hX : Dok X) (hg : w.grownBy w' u.ownBlock) (hk : ∀ k, v'.ownBlock = some k → u.ownBlock = some k ∨ k = w.heap.size) :
    Ms (w'.setCell ⟨M, 0, none⟩ v') base M t v' v (A ++ X) B := by
  have hlt := h.lt
  have hlb := h.lb
  refine ⟨?_, DgO.setM ⟨by rw [List.length_append, digC_app]; exact ho, fun x hx => (List.mem_append.1 hx).elim (h.a.2 x) (hX x)⟩ h.lt _, (h.b.kept hg fun b e => h.ne b e).setM h.lt _, fun k e e2 => ?_, h.lt, by have := hg.size; simp; omega⟩
  · have h1 := (h.x.grown hg (fun e => by have := (h.a.lt e.symm).1; omega)).set 0 v'
    simpa using h1
  · rcases hk k e with h1 | h1
    · exact h.ne k h1 e2
    · have := (h.b.lt e2).2; omega
theorem Ms.add1 (h : Ms w base M t u v A B) (ho : w'.ownsRow base 39 32 v' (B.length + X.length) ((digC B).flatten ++ (digC X).flatten)) (hX : Dok X) (hg : w.grownBy w' v.ownBlock) (hk : ∀ k, v'.ownBlock = some k → v.ownBlock = some k ∨ k = w.heap.size) :
    Ms (w'.setCell ⟨M, 1, none⟩ v') base M t u v' A (B ++ X) := by
  have hlt := h.lt
  have hlb := h.lb
  refine ⟨?_, (h.a.kept hg fun b e e2 => h.ne b e2 e).setM h.lt _, DgO.setM ⟨by rw [List.length_append, digC_app]; exact ho, fun x hx => (List.mem_append.1 hx).elim (h.b.2 x) (hX x)⟩ h.lt _, fun k e e2 => ?_, h.lt, by have := hg.size; simp; omega⟩
  · have h1 := (h.x.grown hg (fun e => by have := (h.b.lt e.symm).1; omega)).set 1 v'
    simpa using h1
  · rcases hk k e2 with h1 | h1
    · exact h.ne k e h1
    · have := (h.a.lt e).2; omega
theorem Ms.up0 (_h : Ms w base M t u v A B) (hk : ∀ k, v'.ownBlock = some k → u.ownBlock = some k ∨ k = w.heap.size) : ∀ b, OffM M u v b → b < w.heap.size → OffM M v' v b := fun b hb hlt => ⟨hb.1, fun e => by
    rcases hk b e with h1 | h1
    · exact hb.2.1 h1
    · omega, hb.2.2⟩
theorem Ms.up1 (_h : Ms w base M t u v A B) (hk : ∀ k, v'.ownBlock = some k → v.ownBlock = some k ∨ k = w.heap.size) : ∀ b, OffM M u v b → b < w.heap.size → OffM M u v' b := fun b hb hlt => ⟨hb.1, hb.2.1, fun e => by
    rcases hk b e with h1 | h1
    · exact hb.2.2 h1
    · omega⟩
/-- what is made later lies elsewhere -/
theorem Ms.offN (h : Ms w base M t u v A B) {b : Nat} (hb : w.heap.size ≤ b) : OffM M u v b :=
  ⟨by have := h.lt; have := h.lb; omega, fun e => by have := (h.a.lt e).2; omega, fun e => by have := (h.b.lt e).2; omega⟩
theorem Ms.offO (h : Ms w base M t u v A B) {b : Nat} (hb : b < M) : OffM M u v b :=
  ⟨by omega, fun e => by have := (h.a.lt e).1; have := h.lt; omega, fun e => by have := (h.b.lt e).1; have := h.lt; omega⟩
theorem Ms.bel0 {w0 : World} {B0 : Nat} (h : Ms w base M t u v A B) (hb : Below B0 w0 w) (hB : B0 ≤ M) (hg : w.grownBy w' u.ownBlock) (x : Value) : Below B0 w0 (w'.setCell ⟨M, 0, none⟩ x) :=
  (hb.grown hg (by have := h.lt; have := h.lb; omega) (fun k e => by have := (h.a.lt e).1; have := h.lt; omega)).setCell (p := ⟨M, 0, none⟩) hB _
theorem Ms.bel1 {w0 : World} {B0 : Nat} (h : Ms w base M t u v A B) (hb : Below B0 w0 w) (hB : B0 ≤ M) (hg : w.grownBy w' v.ownBlock) (x : Value) : Below B0 w0 (w'.setCell ⟨M, 1, none⟩ x) :=
  (hb.grown hg (by have := h.lt; have := h.lb; omega) (fun k e => by have := (h.b.lt e).1; have := h.lt; omega)).setCell (p := ⟨M, 1, none⟩) hB _
end
/-- a list without doubles, all in another, is no longer -/
theorem nodup_len {l m : List (List UInt8)} (hl : l.Nodup) (hm : m.Nodup) (h : ∀ d ∈ l, d ∈ m) : l.length ≤ m.length := by
  have hp : l.Perm (m.filter fun d => decide (d ∈ l)) := (List.perm_ext_iff_of_nodup hl (hm.filter _)).2 fun d => by
    rw [List.mem_filter]
    exact ⟨fun hd => ⟨h d hd, by simpa using hd⟩, fun hd => by simpa using hd.2⟩
  rw [hp.length_eq]
  exact List.length_filter_le _ _
end Go.Proofs.YtebgopdmeghmhaaGreat
namespace Go.Proofs.YtebgopdmeghmhaaGreat
open Go.RowKit

def RunP (w : World) (x : List (List UInt8) × List (List UInt8) × Nat) (e : Ending) (w' : World) : Prop :=
  ∃ u v, e = .returned (.tuple #[u, v, .int .i64 (x.2.2 : Int)]) ∧ DigR (New w w') w' u x.1 ∧ DigR (New w w') w' v x.2.1 ∧ Below w.heap.size w w'
section
variable {a b : List (List UInt8)} (ha : Asc a) (hb : Asc b) (da : Dok a) (db : Dok b) (la : a.length ≤ 60) (lb : b.length ≤ 60)
include ha hb da db la lb
theorem ex_at (j : Nat) (hj : j ≤ 9) : Ex a b 3 (itR a b j) ∧ (itR a b j).l.length ≤ 512 ∧ ((itR a b j).l.length ≠ 0 → (itR a b j).c = j ∧ j ≤ 7) ∧ (itR a b j).c ≤ j := by
  obtain ⟨h1, h2, h3, h4⟩ := ex_all ha hb da db (by omega) (by omega) (k_of lb) j hj
  refine ⟨h1, Nat.le_trans h2 (Nat.le_trans (Nat.pow_le_pow_right (by decide) hj) (by decide)), fun h0 => ⟨h3 h0, ?_⟩, h4⟩
  rcases Nat.lt_or_ge j 8 with h | h
  · omega
  · have he := ex_end ha hb da db (by omega) (by omega) (k_of lb) (by decide)
    have := itR_stop' he (n := j) (by omega)
    rw [this] at h0
    exact absurd he h0
theorem m_len (j : Nat) (hj : j ≤ 9) : (itR a b j).m0.length ≤ 60 ∧ (itR a b j).m1.length ≤ 60 := by
  have h := (ex_at ha hb da db la lb j hj).1
  exact ⟨Nat.le_trans (nodup_len h.n0 hb.nodup fun d hd => (h.m0 d hd).1) lb, Nat.le_trans (nodup_len h.n1 ha.nodup fun d hd => (h.m1 d hd).1) la⟩
theorem st_even (j : Nat) (hj : j ≤ 8) (h0 : (itR a b j).l.length ≠ 0) (hc : (itR a b j).c % 2 = 0) : (ansD b (itR a b j).l).e = 0 ∧ itR a b (j + 1) = ⟨(ansD b (itR a b j).l).r, (itR a b j).m0 ++ (ansD b (itR a b j).l).g, (itR a b j).m1 ++ (ansD b (itR a b j).l).w, (itR a b j).c + 1⟩ := by
  obtain ⟨h, hl, _, _⟩ := ex_at ha hb da db la lb j (by omega)
  have hf := h.fine
  rw [if_pos hc] at hf
  have he := ansD_ok hb (checkR_ok (fun r hr => (hf r hr).one ha (by omega)) h.sep (by omega))
  have he0 : (ansD b (itR a b j).l).e = 0 := by rw [he]
  refine ⟨he0, ?_⟩
  show stepR a b (itR a b j) = _
  unfold stepR
  rw [if_neg h0, if_neg (by omega), if_pos he0]
theorem st_odd (j : Nat) (hj : j ≤ 8) (h0 : (itR a b j).l.length ≠ 0) (hc : (itR a b j).c % 2 = 1) : (ansD a (itR a b j).l).e = 0 ∧ itR a b (j + 1) = ⟨(ansD a (itR a b j).l).r, (itR a b j).m0 ++ (ansD a (itR a b j).l).w, (itR a b j).m1 ++ (ansD a (itR a b j).l).g, (itR a b j).c + 1⟩ := by
  obtain ⟨h, hl, _, _⟩ := ex_at ha hb da db la lb j (by omega)
  have hf := h.fine
  rw [if_neg (by omega)] at hf
  have he := ansD_ok ha (checkR_ok (fun r hr => (hf r hr).one hb (by omega)) h.sep (by omega))
  have he0 : (ansD a (itR a b j).l).e = 0 := by rw [he]
  refine ⟨he0, ?_⟩
  show stepR a b (itR a b j) = _
  unfold stepR
  rw [if_neg h0, if_pos (by omega), if_pos he0]
theorem ids_len (j : Nat) (hj : j ≤ 9) : ∀ r ∈ (itR a b j).l, r.ids.length ≤ 1000000 := by
  have h := (ex_at ha hb da db la lb j hj).1
  intro r hr
  have hf := h.fine r hr
  cases hl : r.listed
  · rw [(hf.unl hl).1]; decide
  · have := (hf.lst hl).2.2.2; omega
theorem run_at (j : Nat) (hj : j ≤ 9) (h0 : (itR a b j).l.length = 0) : runR a b = (sortD (itR a b j).m0, sortD (itR a b j).m1, (itR a b j).c) := by
  have h1 := itR_stop' h0 (n := 40) (by omega)
  have h2 := run_nodup ha hb da db la lb
  rw [run_asc ha hb, h2.1, h2.2, h1]
end
set_option maxRecDepth 100000 in
set_option maxHeartbeats 8000000 in
theorem rc_Run {S1 S2 : Nat → Prop} (w : World) (va vb : Value) (a b : List (List UInt8)) (h : DigR S1 w va a) (h2 : DigR S2 w vb b) (la : a.length ≤ 60) (lb : b.length ≤ 60) :
    Calls Tryz.prog 5 #[va, vb] w (RunP w (runR a b)) := by
  obtain ⟨oa, ca, rfl⟩ : ∃ o c, va = .slice o a.length c := by obtain ⟨⟨o, c, e, _⟩, _⟩ := h; rw [digC_size] at e; exact ⟨o, c, e⟩
  obtain ⟨ob, cb, rfl⟩ : ∃ o c, vb = .slice o b.length c := by obtain ⟨⟨o, c, e, _⟩, _⟩ := h2; rw [digC_size] at e; exact ⟨o, c, e⟩
  have Hasc := Lib.hid (rc_ascending w _ a h (by omega))
  have Hasb := Lib.hid (fun W (hW : Below w.heap.size w W) => rc_ascending W _ b (h2.below hW) (by omega))
  have HDa := Lib.hid h
  have HDb := Lib.hid h2
  have da := Lib.hid h.2
  have db := Lib.hid h2.2
  obtain ⟨idg, hidg, hzd, hsd, hbyd⟩ := info_parts infoDg
  have Hi := Lib.hid (And.intro hidg (And.intro hzd (And.intro hsd hbyd)))
  clear h h2 hidg hzd hsd hbyd
  cases hxa : ascB a
  · rw [hxa] at Hasc
    have Hres : Hid (runR a b = ([], [], 0)) := Lib.hid (by unfold runR; rw [hxa]; rfl)
    obtain ⟨na, hna⟩ : ∃ n, a.length = n := ⟨_, rfl⟩
    obtain ⟨nb, hnb⟩ : ∃ n, b.length = n := ⟨_, rfl⟩
    rw [hna] at Hasc ⊢
    rw [hnb]
    go_enter Tryz.func5, Tryz.ntmps5
    go_wp2_with fail
    refine Hasc.out.mono ?_
    rintro e w1 ⟨rfl, hb1⟩
    go_wp2
    rw [Hres.out]
    exact bodyPost_ret (v := .tuple #[.slice none 0 0, .slice none 0 0, .int .i64 0]) (by simp [results, Tryz.results5, go_sem]) rfl ⟨_, _, rfl, DigR.nil0 _ _, DigR.nil0 _ _, hb1⟩
  · rw [hxa] at Hasc
    cases hxb : ascB b
    · rw [hxb] at Hasb
      have Hres : Hid (runR a b = ([], [], 0)) := Lib.hid (by unfold runR; rw [hxa, hxb]; rfl)
      obtain ⟨na, hna⟩ : ∃ n, a.length = n := ⟨_, rfl⟩
      obtain ⟨nb, hnb⟩ : ∃ n, b.length = n := ⟨_, rfl⟩
      rw [hna] at Hasc ⊢
      rw [hnb] at Hasb ⊢
      go_enter Tryz.func5, Tryz.ntmps5
      go_wp2_with fail
      refine Hasc.out.mono ?_
      rintro e w1 ⟨rfl, hb1⟩
      go_wp2_with fail
      refine (Hasb.out w1 hb1).mono ?_
      rintro e w2 ⟨rfl, hb2⟩
      have hB2 := Below.then hb1 hb2 hb1.size
      go_wp2
      rw [Hres.out]
      exact bodyPost_ret (v := .tuple #[.slice none 0 0, .slice none 0 0, .int .i64 0]) (by simp [results, Tryz.results5, go_sem]) rfl ⟨_, _, rfl, DigR.nil0 _ _, DigR.nil0 _ _, hB2⟩
    · rw [hxb] at Hasb
      have hA := Lib.hid (of_decide_eq_true hxa)
      have hB := Lib.hid (of_decide_eq_true hxb)
      obtain ⟨na, hna⟩ : ∃ n, a.length = n := ⟨_, rfl⟩
      obtain ⟨nb, hnb⟩ : ∃ n, b.length = n := ⟨_, rfl⟩
      have Hna := Lib.hid hna
      have Hnb := Lib.hid hnb
      rw [hna] at Hasc HDa ⊢
      rw [hnb] at Hasb HDb ⊢
      have Hla := Lib.hid la
      have Hlb := Lib.hid lb
      clear hxa hxb hna hnb la lb
      go_enter Tryz.func5, Tryz.ntmps5
      go_wp2_with fail
      refine Hasc.out.mono ?_
      rintro e w1 ⟨rfl, hb1⟩
      go_wp2_with fail
      refine (Hasb.out w1 hb1).mono ?_
      rintro e w2 ⟨rfl, hb2⟩
      have hB2 := Below.then hb1 hb2 hb1.size
      clear hb1 hb2 Hasc Hasb
      have hB4 : Below w.heap.size w ((w2.alloc (.cells #[.slice oa na ca, .slice ob nb cb] 43)).alloc (.cells #[.slice none 0 0, .slice none 0 0] 43)) := (hB2.alloc hB2.size _).alloc (by have := hB2.size; simp; omega) _
      have xs := Lib.hid ((Bx.new w2 #[.slice oa na ca, .slice ob nb cb] 43).alloc (.cells #[.slice none 0 0, .slice none 0 0] 43))
      have xm := Lib.hid (Bx.newAt (w2.alloc (.cells #[.slice oa na ca, .slice ob nb cb] 43)) #[.slice none 0 0, .slice none 0 0] 43 (w2.heap.size + 1) (by simp))
      have hs4 : ((w2.alloc (.cells #[.slice oa na ca, .slice ob nb cb] 43)).alloc (.cells #[.slice none 0 0, .slice none 0 0] 43)).heap.size = w2.heap.size + 2 := by simp
      have Hs4 := Lib.hid hs4
      have hw2 := hB2.size
      clear hs4
      go_wp2_with fail
      generalize (w2.alloc (.cells #[.slice oa na ca, .slice ob nb cb] 43)).alloc (.cells #[.slice none 0 0, .slice none 0 0] 43) = w4 at *
      have hst := rc_Start w4 (.slice oa a.length ca) a (by have h1 := HDa.out.below hB4; rw [← Hna.out] at h1; exact h1) (by have := Hla.out; omega)
      rw [Hna.out] at hst
      refine hst.mono ?_
      rintro e w5 ⟨lv0, rfl, hR5, hb5⟩
      have hB5 := Below.then hB4 hb5 hB4.size
      have xs5 := Lib.hid (xs.out.belowAll hb5)
      have hMs5 : Hid (Ms w5 (w2.heap.size + 2) (w2.heap.size + 1) 43 (.slice none 0 0) (.slice none 0 0) (itR a b 0).m0 (itR a b 0).m1) := Lib.hid
        ⟨xm.out.belowAll hb5, DgO.nil _ _, DgO.nil _ _, (fun k e => by cases e), by omega, by have := hb5.size; rw [Hs4.out] at this; exact this⟩
      have HR5 : Hid (RgsR (OffM (w2.heap.size + 1) (.slice none 0 0) (.slice none 0 0)) w5 lv0 (itR a b 0).l) := Lib.hid (hR5.mono fun q hq => ⟨by have := hq.1; rw [Hs4.out] at this; omega, (fun e => by cases e), fun e => by cases e⟩)
      clear hst hR5 hb5 hB4 xs xm hB2
      go_wp2_with fail
      go_loopw [9, 10] (fun a9 a10 wr => ∃ (j : Nat) (lv u v : Value), j ≤ 8 ∧ a9 = .int .i64 ((itR a b j).c : Int) ∧ a10 = lv ∧ Hid (RgsR (OffM (w2.heap.size + 1) u v) wr lv (itR a b j).l) ∧ Hid (Ms wr (w2.heap.size + 2) (w2.heap.size + 1) 43 u v (itR a b j).m0 (itR a b j).m1) ∧ Bx wr w2.heap.size #[.slice oa na ca, .slice ob nb cb] 43 ∧ Below w.heap.size w wr) (fun a9 _ _ => 10 - (intOf a9).toNat)
      case atStart => exact ⟨0, lv0, _, _, by omega, rfl, rfl, HR5, hMs5, xs5.out, hB5⟩
      case round =>
        clear HR5 hMs5 xs5 hB5
        obtain ⟨j, lv, u, v, hj, rfl, rfl, HR, HM, hx, hBr⟩ := hrel
        have HX := Lib.hid hx
        clear hx
        obtain ⟨hex, hl512, hcj, hcle⟩ := ex_at hA.out hB.out da.out db.out Hla.out Hlb.out j (by omega)
        by_cases h0 : (itR a b j).l.length = 0
        · obtain ⟨ol, cl, hlv⟩ := HR.out.slice
          subst hlv
          have hmr := run_at hA.out hB.out da.out db.out Hla.out Hlb.out j (by omega) h0
          have hml := m_len hA.out hB.out da.out db.out Hla.out Hlb.out j (by omega)
          have hn := ex_at hA.out hB.out da.out db.out Hla.out Hlb.out j (by omega)
          have Hn0 := Lib.hid hn.1.n0
          have Hn1 := Lib.hid hn.1.n1
          have Hres := Lib.hid hmr
          have Hml := Lib.hid hml
          have hpos : ¬ (0 : Int) < 0 := by omega
          rw [h0]
          obtain ⟨cc, hcc⟩ : ∃ cc, (itR a b j).c = cc := ⟨_, rfl⟩
          rw [hcc]
          rw [hcc] at Hres
          clear hcj hex hl512 hn hcle hmr hml hcc h0
          have Hs0 := Lib.hid fun W (hW : DgO W (w2.heap.size + 2) u (itR a b j).m0) => rc_sorted W u _ hW (by have := Hml.out; omega) Hn0.out
          have Hs1 := Lib.hid fun W (hW : DgO W (w2.heap.size + 2) v (itR a b j).m1) => rc_sorted W v _ hW (by have := Hml.out; omega) Hn1.out
          go_wp2_with fail
          refine wp_region_start #[false, false, false, false, false, false, false, false, false, false] 10 (by kernel_rfl) (by rfl) rfl ?_
          have hbd : Below wr.heap.size wr wr.drew := (Below.refl _ _).drew
          have HMd := Lib.hid (HM.out.below hbd)
          have hBd := Below.then hBr hbd hBr.size
          clear HM HX HR hbd hBr
          generalize wr.drew = wd at *
          refine wpAny_take (i := 0) (v := .pointer (some ⟨w2.heap.size + 1, 0, none⟩)) rfl (by kernel_rfl) (by kernel_rfl) (by kernel_rfl) (fun _ _ _ h => h) (Or.inl ⟨by rfl, fun w => by first | rfl | (go_simp; try with_reducible rfl)⟩) ?_
          simp only [List.getElem_toArray, List.getElem_cons_zero, Act.put, List.setIfInBounds_toArray, List.set_cons_zero, List.set_cons_succ]
          refine wpAny_take (i := 3) (v := .pointer (some ⟨w2.heap.size + 1, 1, none⟩)) rfl (by kernel_rfl) (by kernel_rfl) (by kernel_rfl) (fun _ _ _ h => h) (Or.inl ⟨by rfl, fun w => by first | rfl | (go_simp; try with_reducible rfl)⟩) ?_
          simp only [List.getElem_toArray, List.getElem_cons_succ, List.getElem_cons_zero, Act.put, List.setIfInBounds_toArray, List.set_cons_zero, List.set_cons_succ]
          refine wpAny_take (i := 6) (v := .int .i64 (cc : Int)) rfl (by kernel_rfl) (by kernel_rfl) (by kernel_rfl) (fun _ _ _ h => h) (Or.inl ⟨by rfl, fun w => by first | rfl | (go_simp; try with_reducible rfl)⟩) ?_
          simp only [List.getElem_toArray, List.getElem_cons_succ, List.getElem_cons_zero, Act.put, List.setIfInBounds_toArray, List.set_cons_zero, List.set_cons_succ]
          have m0 : wd.cell? ⟨w2.heap.size + 1, 0, none⟩ = some u := by rw [HMd.out.x.cell]; rfl
          have m1 : wd.cell? ⟨w2.heap.size + 1, 1, none⟩ = some v := by rw [HMd.out.x.cell]; rfl
          refine wpAny_ready (rs := [1, 4]) (by kernel_rfl) (by simp) ?_
          refine AllReady.cons rfl (fun K hK => ?_) (AllReady.cons rfl (fun K hK => ?_) AllReady.nil)
          · go_simp
            refine hK _ _ ?_
            clear hK K
            refine wpAny_ready (rs := [2, 4]) (by kernel_rfl) (by simp) ?_
            refine AllReady.cons rfl (fun K hK => ?_) (AllReady.cons rfl (fun K hK => ?_) AllReady.nil)
            · go_simp
              refine (Hs0.out _ HMd.out.a).mono ?_
              rintro e w7 ⟨rfl, ho7, hg7⟩
              refine hK _ _ ?_
              clear hK K m0 m1
              have Ho7 := Lib.hid ho7
              have Hb7 := Lib.hid (HMd.out.b.kept hg7 fun q e => HMd.out.ne q e)
              have Hx7 := Lib.hid (HMd.out.x.grown hg7 (fun e => by have := (HMd.out.a.lt e.symm).1; omega))
              have m1 : w7.cell? ⟨w2.heap.size + 1, 1, none⟩ = some v := by rw [Hx7.out.cell]; rfl
              have hs2 := hw2
              have hB7 := hBd.grown hg7 hBd.size (fun q e => by have := (HMd.out.a.lt e).1; omega)
              clear ho7 hg7 Hs0
              refine wpAny_ready (rs := [4]) (by kernel_rfl) (by simp) ?_
              refine AllReady.cons rfl (fun K hK => ?_) AllReady.nil
              go_simp
              refine hK _ _ ?_
              clear hK K
              refine wpAny_ready (rs := [5]) (by kernel_rfl) (by simp) ?_
              refine AllReady.cons rfl (fun K hK => ?_) AllReady.nil
              go_simp
              refine (Hs1.out _ Hb7.out).mono ?_
              rintro e w8 ⟨rfl, ho8, hg8⟩
              refine hK _ _ ?_
              clear hK K m1
              have Ho8 := Lib.hid ho8
              have Ho9 := Lib.hid (Ho7.out.kept hg8 fun q e e2 => HMd.out.ne q e2 e)
              have hB8 := hB7.grown hg8 hB7.size (fun q e => by have := (HMd.out.b.lt e).1; omega)
              clear ho8 hg8 Hs1
              refine wpAny_take (i := 7) (v := u) rfl (by kernel_rfl) (by kernel_rfl) (by kernel_rfl) (fun _ _ _ h => h) (Or.inl ⟨by rfl, fun w => by first | rfl | (go_simp; try with_reducible rfl)⟩) ?_
              simp only [List.getElem_toArray, List.getElem_cons_succ, List.getElem_cons_zero, Act.put, List.setIfInBounds_toArray, List.set_cons_zero, List.set_cons_succ]
              refine wpAny_take (i := 8) (v := v) rfl (by kernel_rfl) (by kernel_rfl) (by kernel_rfl) (fun _ _ _ h => h) (Or.inl ⟨by rfl, fun w => by first | rfl | (go_simp; try with_reducible rfl)⟩) ?_
              simp only [List.getElem_toArray, List.getElem_cons_succ, List.getElem_cons_zero, Act.put, List.setIfInBounds_toArray, List.set_cons_zero, List.set_cons_succ]
              refine wpAny_take (i := 9) (v := .int .i64 (cc : Int)) rfl (by kernel_rfl) (by kernel_rfl) (by kernel_rfl) (fun _ _ _ h => h) (Or.inl ⟨by rfl, fun w => by first | rfl | (go_simp; try with_reducible rfl)⟩) ?_
              simp only [List.getElem_toArray, List.getElem_cons_succ, List.getElem_cons_zero, Act.put, List.setIfInBounds_toArray, List.set_cons_zero, List.set_cons_succ]
              refine wpAny_done (by kernel_rfl) ?_ _
              go_wp2
              rw [Hres.out]
              refine bodyPost_ret (v := .tuple #[u, v, .int .i64 cc]) (by simp [results, Tryz.results5, go_sem]) rfl ⟨_, _, rfl, Ho9.out.dig.mono fun q hq => ⟨by omega, hq.2⟩, Ho8.out.dig.mono fun q hq => ⟨by omega, hq.2⟩, hB8⟩
            · go_simp
              refine hK _ _ ?_
              clear hK K
              refine wpAny_ready (rs := [2]) (by kernel_rfl) (by simp) ?_
              refine AllReady.cons rfl (fun K hK => ?_) AllReady.nil
              go_simp
              refine (Hs0.out _ HMd.out.a).mono ?_
              rintro e w7 ⟨rfl, ho7, hg7⟩
              refine hK _ _ ?_
              clear hK K m0 m1
              have Ho7 := Lib.hid ho7
              have Hb7 := Lib.hid (HMd.out.b.kept hg7 fun q e => HMd.out.ne q e)
              have Hx7 := Lib.hid (HMd.out.x.grown hg7 (fun e => by have := (HMd.out.a.lt e.symm).1; omega))
              have m1 : w7.cell? ⟨w2.heap.size + 1, 1, none⟩ = some v := by rw [Hx7.out.cell]; rfl
              have hs2 := hw2
              have hB7 := hBd.grown hg7 hBd.size (fun q e => by have := (HMd.out.a.lt e).1; omega)
              clear ho7 hg7 Hs0
              refine wpAny_ready (rs := [5]) (by kernel_rfl) (by simp) ?_
              refine AllReady.cons rfl (fun K hK => ?_) AllReady.nil
              go_simp
              refine (Hs1.out _ Hb7.out).mono ?_
              rintro e w8 ⟨rfl, ho8, hg8⟩
              refine hK _ _ ?_
              clear hK K m1
              have Ho8 := Lib.hid ho8
              have Ho9 := Lib.hid (Ho7.out.kept hg8 fun q e e2 => HMd.out.ne q e2 e)
              have hB8 := hB7.grown hg8 hB7.size (fun q e => by have := (HMd.out.b.lt e).1; omega)
              clear ho8 hg8 Hs1
              refine wpAny_take (i := 7) (v := u) rfl (by kernel_rfl) (by kernel_rfl) (by kernel_rfl) (fun _ _ _ h => h) (Or.inl ⟨by rfl, fun w => by first | rfl | (go_simp; try with_reducible rfl)⟩) ?_
              simp only [List.getElem_toArray, List.getElem_cons_succ, List.getElem_cons_zero, Act.put, List.setIfInBounds_toArray, List.set_cons_zero, List.set_cons_succ]
              refine wpAny_take (i := 8) (v := v) rfl (by kernel_rfl) (by kernel_rfl) (by kernel_rfl) (fun _ _ _ h => h) (Or.inl ⟨by rfl, fun w => by first | rfl | (go_simp; try with_reducible rfl)⟩) ?_
              simp only [List.getElem_toArray, List.getElem_cons_succ, List.getElem_cons_zero, Act.put, List.setIfInBounds_toArray, List.set_cons_zero, List.set_cons_succ]
              refine wpAny_take (i := 9) (v := .int .i64 (cc : Int)) rfl (by kernel_rfl) (by kernel_rfl) (by kernel_rfl) (fun _ _ _ h => h) (Or.inl ⟨by rfl, fun w => by first | rfl | (go_simp; try with_reducible rfl)⟩) ?_
              simp only [List.getElem_toArray, List.getElem_cons_succ, List.getElem_cons_zero, Act.put, List.setIfInBounds_toArray, List.set_cons_zero, List.set_cons_succ]
              refine wpAny_done (by kernel_rfl) ?_ _
              go_wp2
              rw [Hres.out]
              refine bodyPost_ret (v := .tuple #[u, v, .int .i64 cc]) (by simp [results, Tryz.results5, go_sem]) rfl ⟨_, _, rfl, Ho9.out.dig.mono fun q hq => ⟨by omega, hq.2⟩, Ho8.out.dig.mono fun q hq => ⟨by omega, hq.2⟩, hB8⟩
          · go_simp
            refine hK _ _ ?_
            clear hK K
            refine wpAny_ready (rs := [1]) (by kernel_rfl) (by simp) ?_
            refine AllReady.cons rfl (fun K hK => ?_) AllReady.nil
            go_simp
            refine hK _ _ ?_
            clear hK K
            refine wpAny_ready (rs := [2]) (by kernel_rfl) (by simp) ?_
            refine AllReady.cons rfl (fun K hK => ?_) AllReady.nil
            go_simp
            refine (Hs0.out _ HMd.out.a).mono ?_
            rintro e w7 ⟨rfl, ho7, hg7⟩
            refine hK _ _ ?_
            clear hK K m0 m1
            have Ho7 := Lib.hid ho7
            have Hb7 := Lib.hid (HMd.out.b.kept hg7 fun q e => HMd.out.ne q e)
            have Hx7 := Lib.hid (HMd.out.x.grown hg7 (fun e => by have := (HMd.out.a.lt e.symm).1; omega))
            have m1 : w7.cell? ⟨w2.heap.size + 1, 1, none⟩ = some v := by rw [Hx7.out.cell]; rfl
            have hs2 := hw2
            have hB7 := hBd.grown hg7 hBd.size (fun q e => by have := (HMd.out.a.lt e).1; omega)
            clear ho7 hg7 Hs0
            refine wpAny_ready (rs := [5]) (by kernel_rfl) (by simp) ?_
            refine AllReady.cons rfl (fun K hK => ?_) AllReady.nil
            go_simp
            refine (Hs1.out _ Hb7.out).mono ?_
            rintro e w8 ⟨rfl, ho8, hg8⟩
            refine hK _ _ ?_
            clear hK K m1
            have Ho8 := Lib.hid ho8
            have Ho9 := Lib.hid (Ho7.out.kept hg8 fun q e e2 => HMd.out.ne q e2 e)
            have hB8 := hB7.grown hg8 hB7.size (fun q e => by have := (HMd.out.b.lt e).1; omega)
            clear ho8 hg8 Hs1
            refine wpAny_take (i := 7) (v := u) rfl (by kernel_rfl) (by kernel_rfl) (by kernel_rfl) (fun _ _ _ h => h) (Or.inl ⟨by rfl, fun w => by first | rfl | (go_simp; try with_reducible rfl)⟩) ?_
            simp only [List.getElem_toArray, List.getElem_cons_succ, List.getElem_cons_zero, Act.put, List.setIfInBounds_toArray, List.set_cons_zero, List.set_cons_succ]
            refine wpAny_take (i := 8) (v := v) rfl (by kernel_rfl) (by kernel_rfl) (by kernel_rfl) (fun _ _ _ h => h) (Or.inl ⟨by rfl, fun w => by first | rfl | (go_simp; try with_reducible rfl)⟩) ?_
            simp only [List.getElem_toArray, List.getElem_cons_succ, List.getElem_cons_zero, Act.put, List.setIfInBounds_toArray, List.set_cons_zero, List.set_cons_succ]
            refine wpAny_take (i := 9) (v := .int .i64 (cc : Int)) rfl (by kernel_rfl) (by kernel_rfl) (by kernel_rfl) (fun _ _ _ h => h) (Or.inl ⟨by rfl, fun w => by first | rfl | (go_simp; try with_reducible rfl)⟩) ?_
            simp only [List.getElem_toArray, List.getElem_cons_succ, List.getElem_cons_zero, Act.put, List.setIfInBounds_toArray, List.set_cons_zero, List.set_cons_succ]
            refine wpAny_done (by kernel_rfl) ?_ _
            go_wp2
            rw [Hres.out]
            refine bodyPost_ret (v := .tuple #[u, v, .int .i64 cc]) (by simp [results, Tryz.results5, go_sem]) rfl ⟨_, _, rfl, Ho9.out.dig.mono fun q hq => ⟨by omega, hq.2⟩, Ho8.out.dig.mono fun q hq => ⟨by omega, hq.2⟩, hB8⟩
        · obtain ⟨hc, hj7⟩ := hcj h0
          obtain ⟨ol, cl, hlv⟩ := HR.out.slice
          subst hlv
          have hpos : (0 : Int) < ((itR a b j).l.length : Int) := by omega
          have hposn : 0 < (itR a b j).l.length := by omega
          have cs0 : wr.cell? ⟨w2.heap.size, 0, none⟩ = some (.slice oa na ca) := by rw [HX.out.cell]; rfl
          have cs1 : wr.cell? ⟨w2.heap.size, 1, none⟩ = some (.slice ob nb cb) := by rw [HX.out.cell]; rfl
          obtain ⟨cc, hcc⟩ : ∃ cc, (itR a b j).c = cc := ⟨_, rfl⟩
          have Hcc := Lib.hid hcc
          have hcc9 : cc ≤ 8 := by omega
          rw [hcc]
          have hmod2 := Nat.mod_two_eq_zero_or_one cc
          have Hl62 := Lib.hid (show (itR a b j).l.length ≤ 4611686018427387904 by omega)
          clear hc hcle hcc hcj hex hl512
          rcases hmod2 with hmod | hmod
          · have hpar : ((cc : Int) + 1).tmod 2 = 1 := by rw [Int.tmod_eq_emod_of_nonneg (by omega)]; omega
            have hpar2 : ((cc : Int) + 1) % 2 = 1 := by omega
            obtain ⟨he0, hnx⟩ := st_even hA.out hB.out da.out db.out Hla.out Hlb.out j hj h0 (by rw [Hcc.out]; exact hmod)
            have hml2 := m_len hA.out hB.out da.out db.out Hla.out Hlb.out (j + 1) (by omega)
            rw [hnx] at hml2
            simp only [List.length_append] at hml2
            have Hml2 := Lib.hid hml2
            have hans := rc_Answer wr (.slice ob b.length cb) _ b (itR a b j).l (by have h1 := HDb.out.below hBr; rw [← Hnb.out] at h1; exact h1) HR.out (by have := Hlb.out; omega) Hl62.out (ids_len hA.out hB.out da.out db.out Hla.out Hlb.out j (by omega))
            rw [Hnb.out] at hans
            have Hans := Lib.hid hans
            have He0 := Lib.hid he0
            have Hnx := Lib.hid hnx
            clear hml2 hans he0 hnx
            go_wp2_with fail
            refine Hans.out.mono ?_
            rintro e w6 ⟨lv2, x, y, rfl, hR6, hx6, hy6, hb6⟩
            rw [He0.out]
            have HM6 := Lib.hid (HM.out.below hb6)
            have HX6 := Lib.hid (HX.out.belowAll hb6)
            have hB6 := Below.then hBr hb6 hBr.size
            have HR6 : Hid (RgsR (OffM (w2.heap.size + 1) u v) w6 lv2 (ansD b (itR a b j).l).r) := Lib.hid (hR6.mono fun q hq => HM.out.offN hq.1)
            have Hx6 := Lib.hid hx6
            have Hy6 : Hid (DigR (OffM (w2.heap.size + 1) u v) w6 y (ansD b (itR a b j).l).g) := Lib.hid (hy6.mono fun q hq => HM.out.offN hq.1)
            clear hR6 hx6 hy6 hb6 Hans
            obtain ⟨ox, cx, rfl⟩ : ∃ o c, x = .slice o (ansD b (itR a b j).l).w.length c := by obtain ⟨⟨o, c, e, _⟩, _⟩ := Hx6.out; rw [digC_size] at e; exact ⟨o, c, e⟩
            obtain ⟨oy, cy, rfl⟩ : ∃ o c, y = .slice o (ansD b (itR a b j).l).g.length c := by obtain ⟨⟨o, c, e, _⟩, _⟩ := Hy6.out; rw [digC_size] at e; exact ⟨o, c, e⟩
            obtain ⟨ol, cl, rfl⟩ := HR6.out.slice
            have Hrx := Lib.hid Hx6.out.row
            have Hfx := Lib.hid (digC_flat Hx6.out.2)
            have Hfy := Lib.hid (digC_flat Hy6.out.2)
            generalize ansD b (itR a b j).l = An at *
            have m0 : w6.cell? ⟨w2.heap.size + 1, 0, none⟩ = some u := by rw [HM6.out.x.cell]; rfl
            have m1 : w6.cell? ⟨w2.heap.size + 1, 1, none⟩ = some v := by rw [HM6.out.x.cell]; rfl
            go_wp2_with (first
              | (refine wpList_appK rfl (.tmp 51) (.tmp 52) 22 rfl (w2.heap.size + 2) 39 idg _ 32 32 Tryz.underlying22 Hi.out.1 Hi.out.2.1 Hi.out.2.2.1 Hi.out.2.2.2 (by simp [Value.cells]) (by decide) v (itR a b j).m1.length (digC (itR a b j).m1).flatten rfl HM6.out.b.1 ox An.w.length cx (digC An.w).flatten rfl Hrx.out.2 Hfx.out Hrx.out.1 (digC_one _) (by have := Hml2.out; unfold maxLen; omega) (by have := Hml2.out; omega) HM6.out.lb ?_; intro v7 w7 ho7 hg7 hk7; clear m0 m1; obtain ⟨o7, n7, c7, rfl⟩ := ownsRow_slice ho7; have x7 : Bx w7 (w2.heap.size + 1) #[u, v] 43 := HM6.out.x.grown hg7 (fun e => by have := (HM6.out.b.lt e.symm).1; omega); have d7 : w7.cell? ⟨w2.heap.size + 1, 1, none⟩ = some v := (by rw [x7.cell]; rfl); have f7 : w7.frozen? ⟨w2.heap.size + 1, 1, none⟩ = false := x7.free 1; have HM8 := Lib.hid (HM6.out.add1 ho7 Hx6.out.2 hg7 hk7); have e8 : (w7.setCell ⟨w2.heap.size + 1, 1, none⟩ (.slice o7 n7 c7)).cell? ⟨w2.heap.size + 1, 0, none⟩ = some u := (by rw [HM8.out.x.cell]; rfl); have HX8 := Lib.hid ((HX6.out.grown hg7 (fun e => by have := (HM6.out.b.lt e.symm).1; omega)).setO (a := ⟨w2.heap.size + 1, 1, none⟩) (by simp) (.slice o7 n7 c7)); have HR8 := Lib.hid (HR6.out.off (u := .slice o7 n7 c7) (k := 1) hg7 (fun b e hb => hb.2.2 e) (fun b hb => hb.1) (HM6.out.up1 hk7)); have Hy8 := Lib.hid (Hy6.out.off (u := .slice o7 n7 c7) (k := 1) hg7 (fun b e hb => hb.2.2 e) (fun b hb => hb.1) (HM6.out.up1 hk7)); have hB8 := HM6.out.bel1 hB6 (show w.heap.size ≤ w2.heap.size + 1 by omega) hg7 (.slice o7 n7 c7); have Hry := Lib.hid Hy8.out.row; clear ho7 hg7 hk7 x7)
              | (refine wpList_appK rfl (.tmp 60) (.tmp 61) 22 rfl (w2.heap.size + 2) 39 idg _ 32 32 Tryz.underlying22 Hi.out.1 Hi.out.2.1 Hi.out.2.2.1 Hi.out.2.2.2 (by simp [Value.cells]) (by decide) u (itR a b j).m0.length (digC (itR a b j).m0).flatten rfl HM8.out.a.1 oy An.g.length cy (digC An.g).flatten rfl Hry.out.2 Hfy.out Hry.out.1 (digC_one _) (by have := Hml2.out; unfold maxLen; omega) (by have := Hml2.out; omega) HM8.out.lb ?_; intro u9 w9 ho9 hg9 hk9; clear d7 f7 e8; obtain ⟨o9, n9, c9, rfl⟩ := ownsRow_slice ho9; have x9 := HM8.out.x.grown hg9 (fun e => by have := (HM8.out.a.lt e.symm).1; omega); have d9 : w9.cell? ⟨w2.heap.size + 1, 0, none⟩ = some u := (by rw [x9.cell]; rfl); have f9 : w9.frozen? ⟨w2.heap.size + 1, 0, none⟩ = false := x9.free 0; have HM10 := Lib.hid (HM8.out.add0 ho9 Hy8.out.2 hg9 hk9); have HX10 := Lib.hid ((HX8.out.grown hg9 (fun e => by have := (HM8.out.a.lt e.symm).1; omega)).setO (a := ⟨w2.heap.size + 1, 0, none⟩) (by simp) (.slice o9 n9 c9)); have HR10 := Lib.hid (HR8.out.off (u := .slice o9 n9 c9) (k := 0) hg9 (fun b e hb => hb.2.1 e) (fun b hb => hb.1) (HM8.out.up0 hk9)); have hB10 := HM8.out.bel0 hB8 (show w.heap.size ≤ w2.heap.size + 1 by omega) hg9 (.slice o9 n9 c9); clear ho9 hg9 hk9 x9))
            have Hc1 : Hid ((itR a b (j + 1)).c = cc + 1) := Lib.hid (by rw [Hnx.out]; show (itR a b j).c + 1 = _; rw [Hcc.out])
            have HRn := HR10
            have HMn := HM10
            have Hr1 : Hid (An.r = (itR a b (j + 1)).l) := Lib.hid (by rw [Hnx.out])
            rw [Hr1.out] at HRn
            rw [show (itR a b j).m0 ++ An.g = (itR a b (j + 1)).m0 from by rw [Hnx.out], show (itR a b j).m1 ++ An.w = (itR a b (j + 1)).m1 from by rw [Hnx.out]] at HMn
            clear HR10 HM10 HR8 HM8 HR6 HM6 HX6 HX8 Hry Hrx Hx6 Hy6 Hy8
            (try clear d9 f9)
            go_wp2
            go_roundw
            case rel => exact ⟨j + 1, _, _, _, by omega, by rw [Hc1.out]; go_num, by rw [Hr1.out], HRn, HMn, HX10.out, hB10⟩
            case measure => simp [intOf]; omega
          · have hpar : ((cc : Int) + 1).tmod 2 = 0 := by rw [Int.tmod_eq_emod_of_nonneg (by omega)]; omega
            have hpar2 : ((cc : Int) + 1) % 2 = 0 := by omega
            obtain ⟨he0, hnx⟩ := st_odd hA.out hB.out da.out db.out Hla.out Hlb.out j hj h0 (by rw [Hcc.out]; exact hmod)
            have hml2 := m_len hA.out hB.out da.out db.out Hla.out Hlb.out (j + 1) (by omega)
            rw [hnx] at hml2
            simp only [List.length_append] at hml2
            have Hml2 := Lib.hid hml2
            have hans := rc_Answer wr (.slice oa a.length ca) _ a (itR a b j).l (by have h1 := HDa.out.below hBr; rw [← Hna.out] at h1; exact h1) HR.out (by have := Hla.out; omega) Hl62.out (ids_len hA.out hB.out da.out db.out Hla.out Hlb.out j (by omega))
            rw [Hna.out] at hans
            have Hans := Lib.hid hans
            have He0 := Lib.hid he0
            have Hnx := Lib.hid hnx
            clear hml2 hans he0 hnx
            go_wp2_with fail
            refine Hans.out.mono ?_
            rintro e w6 ⟨lv2, x, y, rfl, hR6, hx6, hy6, hb6⟩
            rw [He0.out]
            have HM6 := Lib.hid (HM.out.below hb6)
            have HX6 := Lib.hid (HX.out.belowAll hb6)
            have hB6 := Below.then hBr hb6 hBr.size
            have HR6 : Hid (RgsR (OffM (w2.heap.size + 1) u v) w6 lv2 (ansD a (itR a b j).l).r) := Lib.hid (hR6.mono fun q hq => HM.out.offN hq.1)
            have Hx6 := Lib.hid hx6
            have Hy6 : Hid (DigR (OffM (w2.heap.size + 1) u v) w6 y (ansD a (itR a b j).l).g) := Lib.hid (hy6.mono fun q hq => HM.out.offN hq.1)
            clear hR6 hx6 hy6 hb6 Hans
            obtain ⟨ox, cx, rfl⟩ : ∃ o c, x = .slice o (ansD a (itR a b j).l).w.length c := by obtain ⟨⟨o, c, e, _⟩, _⟩ := Hx6.out; rw [digC_size] at e; exact ⟨o, c, e⟩
            obtain ⟨oy, cy, rfl⟩ : ∃ o c, y = .slice o (ansD a (itR a b j).l).g.length c := by obtain ⟨⟨o, c, e, _⟩, _⟩ := Hy6.out; rw [digC_size] at e; exact ⟨o, c, e⟩
            obtain ⟨ol, cl, rfl⟩ := HR6.out.slice
            have Hrx := Lib.hid Hx6.out.row
            have Hfx := Lib.hid (digC_flat Hx6.out.2)
            have Hfy := Lib.hid (digC_flat Hy6.out.2)
            generalize ansD a (itR a b j).l = An at *
            have m0 : w6.cell? ⟨w2.heap.size + 1, 0, none⟩ = some u := by rw [HM6.out.x.cell]; rfl
            have m1 : w6.cell? ⟨w2.heap.size + 1, 1, none⟩ = some v := by rw [HM6.out.x.cell]; rfl
            go_wp2_with (first
              | (refine wpList_appK rfl (.tmp 51) (.tmp 52) 22 rfl (w2.heap.size + 2) 39 idg _ 32 32 Tryz.underlying22 Hi.out.1 Hi.out.2.1 Hi.out.2.2.1 Hi.out.2.2.2 (by simp [Value.cells]) (by decide) u (itR a b j).m0.length (digC (itR a b j).m0).flatten rfl HM6.out.a.1 ox An.w.length cx (digC An.w).flatten rfl Hrx.out.2 Hfx.out Hrx.out.1 (digC_one _) (by have := Hml2.out; unfold maxLen; omega) (by have := Hml2.out; omega) HM6.out.lb ?_; intro u7 w7 ho7 hg7 hk7; clear m0 m1; obtain ⟨o7, n7, c7, rfl⟩ := ownsRow_slice ho7; have x7 : Bx w7 (w2.heap.size + 1) #[u, v] 43 := HM6.out.x.grown hg7 (fun e => by have := (HM6.out.a.lt e.symm).1; omega); have d7 : w7.cell? ⟨w2.heap.size + 1, 0, none⟩ = some u := (by rw [x7.cell]; rfl); have f7 : w7.frozen? ⟨w2.heap.size + 1, 0, none⟩ = false := x7.free 0; have HM8 := Lib.hid (HM6.out.add0 ho7 Hx6.out.2 hg7 hk7); have e8 : (w7.setCell ⟨w2.heap.size + 1, 0, none⟩ (.slice o7 n7 c7)).cell? ⟨w2.heap.size + 1, 1, none⟩ = some v := (by rw [HM8.out.x.cell]; rfl); have HX8 := Lib.hid ((HX6.out.grown hg7 (fun e => by have := (HM6.out.a.lt e.symm).1; omega)).setO (a := ⟨w2.heap.size + 1, 0, none⟩) (by simp) (.slice o7 n7 c7)); have HR8 := Lib.hid (HR6.out.off (u := .slice o7 n7 c7) (k := 0) hg7 (fun b e hb => hb.2.1 e) (fun b hb => hb.1) (HM6.out.up0 hk7)); have Hy8 := Lib.hid (Hy6.out.off (u := .slice o7 n7 c7) (k := 0) hg7 (fun b e hb => hb.2.1 e) (fun b hb => hb.1) (HM6.out.up0 hk7)); have hB8 := HM6.out.bel0 hB6 (show w.heap.size ≤ w2.heap.size + 1 by omega) hg7 (.slice o7 n7 c7); have Hry := Lib.hid Hy8.out.row; clear ho7 hg7 hk7 x7)
              | (refine wpList_appK rfl (.tmp 60) (.tmp 61) 22 rfl (w2.heap.size + 2) 39 idg _ 32 32 Tryz.underlying22 Hi.out.1 Hi.out.2.1 Hi.out.2.2.1 Hi.out.2.2.2 (by simp [Value.cells]) (by decide) v (itR a b j).m1.length (digC (itR a b j).m1).flatten rfl HM8.out.b.1 oy An.g.length cy (digC An.g).flatten rfl Hry.out.2 Hfy.out Hry.out.1 (digC_one _) (by have := Hml2.out; unfold maxLen; omega) (by have := Hml2.out; omega) HM8.out.lb ?_; intro v9 w9 ho9 hg9 hk9; clear d7 f7 e8; obtain ⟨o9, n9, c9, rfl⟩ := ownsRow_slice ho9; have x9 := HM8.out.x.grown hg9 (fun e => by have := (HM8.out.b.lt e.symm).1; omega); have d9 : w9.cell? ⟨w2.heap.size + 1, 1, none⟩ = some v := (by rw [x9.cell]; rfl); have f9 : w9.frozen? ⟨w2.heap.size + 1, 1, none⟩ = false := x9.free 1; have HM10 := Lib.hid (HM8.out.add1 ho9 Hy8.out.2 hg9 hk9); have HX10 := Lib.hid ((HX8.out.grown hg9 (fun e => by have := (HM8.out.b.lt e.symm).1; omega)).setO (a := ⟨w2.heap.size + 1, 1, none⟩) (by simp) (.slice o9 n9 c9)); have HR10 := Lib.hid (HR8.out.off (u := .slice o9 n9 c9) (k := 1) hg9 (fun b e hb => hb.2.2 e) (fun b hb => hb.1) (HM8.out.up1 hk9)); have hB10 := HM8.out.bel1 hB8 (show w.heap.size ≤ w2.heap.size + 1 by omega) hg9 (.slice o9 n9 c9); clear ho9 hg9 hk9 x9))
            have Hc1 : Hid ((itR a b (j + 1)).c = cc + 1) := Lib.hid (by rw [Hnx.out]; show (itR a b j).c + 1 = _; rw [Hcc.out])
            have HRn := HR10
            have HMn := HM10
            have Hr1 : Hid (An.r = (itR a b (j + 1)).l) := Lib.hid (by rw [Hnx.out])
            rw [Hr1.out] at HRn
            rw [show (itR a b j).m0 ++ An.w = (itR a b (j + 1)).m0 from by rw [Hnx.out], show (itR a b j).m1 ++ An.g = (itR a b (j + 1)).m1 from by rw [Hnx.out]] at HMn
            clear HR10 HM10 HR8 HM8 HR6 HM6 HX6 HX8 Hry Hrx Hx6 Hy6 Hy8
            (try clear d9 f9)
            go_wp2
            go_roundw
            case rel => exact ⟨j + 1, _, _, _, by omega, by rw [Hc1.out]; go_num, by rw [Hr1.out], HRn, HMn, HX10.out, hB10⟩
            case measure => simp [intOf]; omega
end Go.Proofs.YtebgopdmeghmhaaGreat
