/- quiltref48.sorted; two rows of digests, appended to in turn. -/
import Derived.Test.YtebgopdmeghmhaaGreatRcAcc
import Derived.Test.YtebgopdmeghmhaaGreatRfPeel
namespace Go.Proofs.YtebgopdmeghmhaaGreat
open Go.RowKit

theorem RgsR.far {F : Nat → Prop} {w w' : World} {row : Option Nat} {v : Value} {l : List Rg} (h : RgsR F w v l) (hg : w.grownBy w' row) (hF : ∀ b, row = some b → ¬ F b) : RgsR F w' v l := by
  obtain ⟨o, c, vs, e, hs, hv, hr, hd, hok⟩ := h
  refine ⟨o, c, vs, e, hs, hv, ?_, fun i hi => (hd i hi).far hg hF, hok⟩
  intro j hj
  obtain ⟨b, off, ho, hc, hS⟩ := hr j hj
  exact ⟨b, off, ho, hg.cell hc fun e => hF b e.symm hS, hS⟩
def OffS (u v : Value) (b : Nat) : Prop := u.ownBlock ≠ some b ∧ v.ownBlock ≠ some b
structure Mr (w : World) (base : Nat) (u v : Value) (A B : List (List UInt8)) : Prop where
  a : DgO w base u A
  b : DgO w base v B
  ne : ∀ k, u.ownBlock = some k → v.ownBlock ≠ some k
  lb : base ≤ w.heap.size
section
variable {w w' : World} {base : Nat} {u v u' : Value} {A B X : List (List UInt8)}
theorem Mr.below (h : Mr w base u v A B) (hb : Below w.heap.size w w') : Mr w' base u v A B := ⟨h.a.below hb, h.b.below hb, h.ne, Nat.le_trans h.lb hb.size⟩
theorem Mr.swap (h : Mr w base u v A B) : Mr w base v u B A := ⟨h.b, h.a, fun k e e2 => h.ne k e2 e, h.lb⟩
theorem Mr.add (h : Mr w base u v A B) (ho : w'.ownsRow base 39 32 u' (A.length + X.length) ((digC A).flatten ++ (digC X).flatten)) (hX : Dok X) (hg : w.grownBy w' u.ownBlock) (hk : ∀ k, u'.ownBlock = some k → u.ownBlock = some k ∨ k = w.heap.size) : Mr w' base u' v (A ++ X) B := by
  refine ⟨⟨by rw [List.length_append, digC_app]; exact ho, fun x hx => (List.mem_append.1 hx).elim (h.a.2 x) (hX x)⟩, h.b.kept hg fun b e => h.ne b e, fun k e e2 => ?_, Nat.le_trans h.lb hg.size⟩
  rcases hk k e with h1 | h1
  · exact h.ne k h1 e2
  · have := (h.b.lt e2).2; omega
theorem Mr.up (hk : ∀ k, u'.ownBlock = some k → u.ownBlock = some k ∨ k = w.heap.size) : ∀ b, OffS u v b ∧ b < w.heap.size → OffS u' v b := fun b hb => ⟨fun e => by
    rcases hk b e with h1 | h1
    · exact hb.1.1 h1
    · have := hb.2; omega, hb.1.2⟩
theorem OffS.swap {b : Nat} (h : OffS u v b) : OffS v u b := ⟨h.2, h.1⟩
theorem Mr.offN (h : Mr w base u v A B) {b : Nat} (hb : w.heap.size ≤ b) : OffS u v b := ⟨fun e => by have := (h.a.lt e).2; omega, fun e => by have := (h.b.lt e).2; omega⟩
theorem Mr.bel {w0 : World} (h : Mr w base u v A B) (hb : Below base w0 w) (hg : w.grownBy w' u.ownBlock) : Below base w0 w' := hb.grown hg h.lb (fun _ e => (h.a.lt e).1)
end
set_option maxRecDepth 100000 in
set_option maxHeartbeats 2000000 in
theorem rf_sorted {S : Nat → Prop} (w : World) (v : Value) (l : List (List UInt8)) (h : DigR S w v l) (hm : l.length ≤ 100000) :
    Calls Tryz.prog 18 #[v] w fun e w' => ∃ u, e = .returned u ∧ DigR (New w w') w' u (sortD l) ∧ Below w.heap.size w w' := by
  obtain ⟨o, c, rfl⟩ : ∃ o c, v = .slice o l.length c := by obtain ⟨⟨o, c, e, _⟩, _⟩ := h; rw [digC_size] at e; exact ⟨o, c, e⟩
  have HD := Lib.hid h
  have Ho0 := Lib.hid (ownsRow_bx0 (base := w.heap.size) (size := 32) (Bx.new w #[] 39) (Nat.le_refl _))
  have hB1 : Below w.heap.size w (w.alloc (.cells #[] 39)) := Below.one w _
  have e0 : sortD (l.take 0) = [] := sortD_nil
  have E0 := Lib.hid e0
  obtain ⟨n, hln⟩ : ∃ n, l.length = n := ⟨_, rfl⟩
  have Hn := Lib.hid hln
  rw [hln] at HD hm ⊢
  clear h hln e0
  go_enter Tryz.func18, Tryz.ntmps18
  go_wp2
  go_loopw [3, 4] (fun u i wr => ∃ (k g cap : Nat), k ≤ n ∧ u = .slice (some ⟨g, 0, none⟩) k cap ∧ i = .int .i64 k ∧ Hid (wr.ownsRow w.heap.size 39 32 (.slice (some ⟨g, 0, none⟩) k cap) k (digC (sortD (l.take k))).flatten) ∧ Below w.heap.size w wr) (fun _ i _ => n - (intOf i).toNat)
  case atStart => exact ⟨0, w.heap.size, 0, by omega, rfl, rfl, Lib.hid (by rw [E0.out]; exact Ho0.out), hB1⟩
  case round =>
    clear Ho0 hB1
    obtain ⟨k, g, cap, hk, rfl, rfl, Ho, hB⟩ := hrel
    have Sl : Hid ((sortD (l.take k)).length = k) := Lib.hid (by rw [sortD_len, List.length_take, Hn.out]; omega)
    have Sok : Hid (Dok (sortD (l.take k))) := Lib.hid (sortD_ok fun d hd => HD.out.2 d (List.mem_of_mem_take hd))
    by_cases hlt : k < n
    · have hltl : k < l.length := by rw [Hn.out]; exact hlt
      have hlt' : (k : Int) < (n : Int) := by omega
      obtain ⟨b, off, c', e', _, _, _, hb, hra⟩ := (HD.out.below hB).at hltl
      rw [Hn.out] at e'
      obtain ⟨rfl, rfl⟩ : o = some ⟨b, off, none⟩ ∧ c = c' := by simpa using e'
      have hxl : l[k].length = 32 := HD.out.2 _ (List.getElem_mem hltl)
      have hso := ref47_Sorted wr g cap (sortD (l.take k)) l[k] (by rw [Sl.out]; exact DigR.owns (l := sortD (l.take k)) (by rw [Sl.out]; exact Ho.out) Sok.out) hxl (by rw [Sl.out]; omega) (by rw [Sl.out]; exact owns_cap Ho.out)
      have hst : insD (sortD (l.take k)) l[k] = sortD (l.take (k + 1)) := by rw [insD_sort, List.take_succ_eq_append_getElem hltl]
      have hsl : (sortD (l.take (k + 1))).length = k + 1 := by rw [sortD_len, List.length_take, Hn.out]; omega
      rw [hst, hsl, Sl.out] at hso
      have Hso := Lib.hid hso
      have Hxb : Hid ((bytesV l[k]).length = 32) := Lib.hid (by rw [bytesV_len, hxl])
      have Hra := Lib.hid hra
      clear hso hst hsl hra hxl e'
      generalize l[k] = x at *
      obtain ⟨s1, hs1⟩ : ∃ s, sortD (l.take (k + 1)) = s := ⟨_, rfl⟩
      rw [hs1] at Hso
      have Hs1 := Lib.hid hs1
      clear hs1
      go_wp2_with (refine wpList_load_mid rfl 39 (.tmp 15) rfl b (off + k * 32) rfl (bytesV x) _ Hra.out Tryz.underlying39 rfl (by rw [sizeDg, Hxb.out]) ?_)
      refine Hso.out.mono ?_
      rintro e w2 ⟨g2, cap2, rfl, ho2, hb2⟩
      have hB2 := Below.then hB hb2 hB.size
      have Ho2 := Lib.hid (ownsRow_lower ho2 hB.size)
      clear ho2 hb2 Hso
      go_wp2
      go_roundw
      case rel => exact ⟨k + 1, g2, cap2, by omega, rfl, by go_num, by rw [Hs1.out]; exact Ho2, hB2⟩
      case measure => simp [intOf]; omega
    · obtain rfl : k = n := by omega
      have hlt' : ¬ (k : Int) < (k : Int) := by omega
      have hall : l.take k = l := List.take_of_length_le (by rw [Hn.out]; exact Nat.le_refl _)
      go_wp2
      refine bodyPost_ret (by simp [results, Tryz.results18, go_sem]; rfl) rfl ⟨_, rfl, ?_, hB⟩
      have h1 := DigR.owns (l := sortD (l.take k)) (by rw [Sl.out]; exact Ho.out) Sok.out
      rw [hall] at h1
      exact h1
end Go.Proofs.YtebgopdmeghmhaaGreat
