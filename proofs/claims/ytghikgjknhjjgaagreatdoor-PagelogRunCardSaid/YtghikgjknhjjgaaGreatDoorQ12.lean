/- WriteString within a range over a function: what else it keeps; a law of such ranges for bodies that grow rows of the call's own. -/
import Derived.Test.YtghikgjknhjjgaaGreatDoorQ11
import Derived.Test.YtghikgjknhjjgaaGreatDoorQ07
namespace Go.Proofs.YtghikgjknhjjgaaGreatDoor
set_option maxRecDepth 100000
open Go.RowKit Go.Shelf
/-- every block but b is kept that is no row of bytes -/
def KeptU (b : Nat) (w w' : World) : Prop := ∀ k o, w.heap[k]? = some o → k ≠ b → (∀ cs fr, o ≠ .cells cs 5 fr) → w'.heap[k]? = some o
theorem ownsRow_obj {w : World} {base : Nat} {e : TypeId} {size : Nat} {v : Value} {n : Nat} {xs : List Value} (h : w.ownsRow base e size v n xs) {k : Nat} (hk : v.ownBlock = some k) : ∃ cs fr, w.heap[k]? = some (.cells cs e fr) := by
 rcases h.2 with ⟨hv, _⟩ | ⟨g, cap, cur, hv, _, hg, _⟩
 ·
  rw [hv] at hk; cases hk
 ·
  rw [hv] at hk
  have : g = k := by injection hk
  subst this
  exact ⟨_, _, hg⟩
theorem keptU_grown {w1 w2 : World} {b B n : Nat} {v p : Value} {xs : List Value} {t : TypeId} (_hlt : b < w1.heap.size) (_hb : w1.heap[b]? = some (.cells #[p, v] t (0, 0))) (ho : w1.ownsRow B 5 1 v n xs) (hg : w1.grownBy w2 v.ownBlock) : KeptU b w1 w2 := by
 intro k o hk _ hu
 refine (hg.block k (Array.getElem?_eq_some_iff.1 hk).1 fun e => ?_).trans hk
 obtain ⟨cs, fr, h⟩ := ownsRow_obj ho e.symm
 rw [h] at hk
 exact hu cs fr (Option.some.inj hk).symm
set_option maxHeartbeats 2000000 in
theorem bd_WriteStringK {B b : Nat} {l : List UInt8} {w : World} (h : IsBd B b (bytesV l) w) (s : List UInt8) (hlen : l.length + s.length ≤ 140737488355328) (hBw : B ≤ w.heap.size) :
  Calls Tryz.prog 57 #[.pointer (some ⟨b, 0, none⟩), .string (bs s)] w fun e w' => e = .returned (.tuple #[.int .i64 s.length, .nilIface]) ∧ IsBd B b (bytesV (l ++ s)) w' ∧ KeptU b w w' ∧ Below B w w' := by
 obtain ⟨i0, hi, hz0, hz1, hz2⟩ := info_parts infoU8
 have Hi := Lib.hid (And.intro hi (And.intro hz0 (And.intro hz1 hz2)))
 have Hck := Lib.hid (bd_check h)
 have Hlen := Lib.hid hlen
 obtain ⟨S, hS⟩ : ∃ S, bs s = S := ⟨_, rfl⟩
 have hSz : S.size = s.length := by rw [← hS, bs_size]
 have HS := Lib.hid hS
 rw [hS]
 clear hi hz0 hz1 hz2 h hlen hS
 go_enter Tryz.func57, Tryz.ntmps57
 go_wp2_with fail
 refine Hck.out.mono ?_
 rintro e w1 ⟨rfl, h1, hk1, hz1, hb1⟩
 obtain ⟨hB, v, hbk, hown, hne⟩ := h1
 have c1 : w1.cell? ⟨b, 1, none⟩ = some v := by rw [Lib.cell_of_heap hbk]; rfl
 have Hown := Lib.hid hown
 have Hbk := Lib.hid hbk
 have Hne := Lib.hid hne
 have Hz1 := Lib.hid hz1
 have Hk1 := Lib.hid hk1
 clear hown hbk hne hk1 hz1
 have hlt : b < w1.heap.size := (Array.getElem?_eq_some_iff.1 Hbk.out).1
 go_wp2_with (at_builtin; refine Lib.wpList_append_own_string _ rfl (.tmp 12) (.tmp 13) 86 9 rfl B 5 i0 Tryz.underlying86 Tryz.underlying9 Hi.out.1 Hi.out.2.1 Hi.out.2.2.1 Hi.out.2.2.2 v _ _ rfl Hown.out S rfl (by rw [bytesV_len, hSz]; have := Hlen.out; unfold maxLen; omega) (by rw [bytesV_len, hSz]; exact Hlen.out) (by have := Hz1.out; omega) ?_; intro v' w2 hown' hgrow _; obtain ⟨ao, n', cap, rfl⟩ := ownsRow_slice hown'; have Hb2 : Hid (w2.heap[b]? = some (.cells #[.pointer (some ⟨b, 0, none⟩), v] 88 (0, 0))) := Lib.hid (by rw [hgrow.block b hlt (fun e => Hne.out e.symm)]; exact Hbk.out); have d1 : w2.cell? ⟨b, 1, none⟩ = some v := (by rw [Lib.cell_of_heap Hb2.out]; rfl); have f1 : w2.frozen? ⟨b, 1, none⟩ = false := Lib.frozen_of_heap Hb2.out 1; have Hown' := Lib.hid hown'; have HB := Lib.hid (hb1.grown hgrow (by have := Hz1.out; omega) (fun k hk => (Hown.out.lt k hk).1)); have HK := Lib.hid (keptU_grown hlt Hbk.out Hown.out hgrow); clear hown' hgrow c1)
 go_ret2
 refine ⟨by rw [← hSz]; rfl, .inr ?_, ?_, HB.out.setCell (p := ⟨b, 1, none⟩) hB _⟩
 rotate_left
 ·
  intro k o ho hk hu
  exact (Below.heap_setCell _ _ _ _ hk).trans (HK.out k o ((Hk1.out k hk).trans ho) hk hu)
 refine Lib.BuilderAt.put (T := 88) (e := 5) hB Hb2.out (bs' := bytesV (l ++ s)) ?_ (by decide)
 have := Hown'.out
 rw [← HS.out, strCells_bs, bs_size, bytesV_len, ← bytesV_app] at this
 rwa [bytesV_len, List.length_append]
theorem keptU_freeze {w : World} {b g : Nat} {cs : Array Value} {fr : Nat × Nat} (hg : w.heap[g]? = some (.cells cs 5 fr)) (n : Nat) : KeptU b w (w.drew.freeze ⟨g, 0, none⟩ n) := by
 intro k o hk _ hu
 have hne : g ≠ k := by
  intro e
  rw [← e, hg] at hk
  exact hu cs fr (Option.some.inj hk).symm
 unfold World.freeze
 split
 ·
  exact hk
 ·
  show (w.heap.modify g _)[k]? = _
  rw [Array.getElem?_modify, if_neg hne]
  exact hk
set_option maxHeartbeats 1000000 in
set_option maxRecDepth 100000 in
theorem bd_StringK {B b : Nat} {l : List UInt8} {w : World} (h : IsBd B b (bytesV l) w) (h0 : l ≠ []) :
  Calls Tryz.prog 59 #[.pointer (some ⟨b, 0, none⟩)] w fun e w' => e = .returned (.string (bs l)) ∧ KeptU b w w' ∧ Below B w w' := by
 obtain ⟨p, hB, v, hbk, hown, hne⟩ : ∃ p, BdAt B b p (bytesV l) w := by
  rcases h with h | h
  ·
   exact ⟨_, h⟩
  ·
   exact ⟨_, h⟩
 have hl0 : l.length ≠ 0 := by simpa using h0
 rw [bytesV_len] at hown
 obtain ⟨g, cap, cur, rfl, hbg, hg, hnc, hcm, hcs, htake⟩ : ∃ g cap cur, v = .slice (some ⟨g, 0, none⟩) l.length cap ∧ B ≤ g ∧ w.heap[g]? = some (.cells cur 5 (0, 0)) ∧ l.length ≤ cap ∧ cap ≤ maxLen ∧ cur.size = cap * 1 ∧ cur.toList.take (l.length * 1) = bytesV l := by
  rcases hown.2 with ⟨_, hz⟩ | ⟨g, cap, cur, hv, r⟩
  ·
   exact absurd hz hl0
  ·
   exact ⟨g, cap, cur, hv, r⟩
 have c1 : w.drew.cell? ⟨b, 1, none⟩ = some (.slice (some ⟨g, 0, none⟩) l.length cap) := by
  have : w.drew.heap[b]? = some (.cells #[p, .slice (some ⟨g, 0, none⟩) l.length cap] 88 (0, 0)) := hbk
  rw [Lib.cell_of_heap this]; rfl
 have hSD : (Builtin.unsafeSliceData_ #[86] 126 #[.slice (some ⟨g, 0, none⟩) l.length cap]).run Tryz.prog w.drew = .ok (.pointer (some ⟨g, 0, none⟩)) w.drew :=
  Lib.run_unsafeSliceData_row _ _ _ _ _ _ (by omega)
 have hUS : (Builtin.unsafeString_ #[126, 3] 9 #[.pointer (some ⟨g, 0, none⟩), .int .i64 l.length]).run Tryz.prog w.drew = .ok (.string ⟨l.toArray⟩) (w.drew.freeze ⟨g, 0, none⟩ l.length) := by
  refine Lib.run_unsafeString_row w.drew 126 3 9 5 Tryz.underlying126 cellsU8 g cur.size (by have hg' : w.drew.heap[g]? = some (.cells cur 5 (0, 0)) := hg; simp [World.shape?, hg']) l h0 (by omega) (by unfold maxLen at hcm; omega) ?_
  intro j x hx
  have := hown.cells (g := g) rfl j (.int .u8 x.toNat) (by simp [bytesV, hx])
  exact this
 have HG := Lib.hid hg
 clear hbk hown hne h hg htake hcs
 go_enter Tryz.func59, Tryz.ntmps59
 go_wp2
 go_region
 all_goals (go_wp2; go_ret; exact ⟨rfl, keptU_freeze HG.out (b := b) l.length, Lib.below_freeze (Below.drew (Below.refl B w)) (p := ⟨g, 0, none⟩) hbg _⟩)
variable {F : Fence} {n : Nat} {P : Program}
theorem rangeFunc_run3 {α : Type} {g : Operand} {ps : Array Tmp} {assign body : Code} {Q : Exit → Act → World → Prop} {a : Act} {w : World}
  (hro : F.round = none) (h1 : 1 ≤ n) {gf : Nat} {lb : Array Value} (hg : a.eval g = .func (.func gf) #[] lb) (hFg : F.fn gf) (eg : ∀ args w, (callFunc gf args).run P w = .ok (.enter gf args) w)
  {encs : α → Array Value} {T : Nat → Prop} {S : List α → Prop} {N : Nat}
  (hseq : ∀ W1 : World, W1.heap.size = w.heap.size + 2 → Below w.heap.size w W1 → SeqRun2 F (n - 1) P gf lb encs T S N W1)
  (hT : ¬ T (w.heap.size + 1)) (hps : ∀ x, (encs x).size = ps.size)
  (I : List α → World → Prop) (hI : ∀ s W W' row, I s W → W.grownBy W' row → (∀ r, row = some r → r = w.heap.size + 1) → I s W') (h0 : I [] w) (a₁ : α → Act)
  (hassign : ∀ (l : Nat) (x : α) (W : World) (K : Act → World → Prop), K (a₁ x) W →
   assign.wpIn (F.inRound l) (n - 1 - 1) P (Exit.then K (fun _ _ _ => False)) { tmps := (ps.zip (encs x)).foldl (fun t (p, v) => t.setIfInBounds p v) a.tmps, defers := [] } W)
  (hbody : ∀ (l : Nat) (pre : List α) (x : α) (W : World), I pre W → w.heap.size + 2 ≤ W.heap.size → W.heap[w.heap.size]? = some (.deferred (some [])) → (∃ lp, W.heap[w.heap.size + 1]? = some (.loop lp)) → pre.length < N → body.wpIn (F.inRound l) (n - 1 - 1) P (runPost w.heap.size T I (pre ++ [x]) W) (a₁ x) W)
  (hdone : ∀ (xs : List α) (W : World), S xs → I xs W → W.heap[w.heap.size]? = some (.deferred (some [])) → Q .normal { a with defers := { target := .collected w.heap.size, args := #[] } :: a.defers } W) :
  (Code.rangeFunc g ps assign body).wpIn F n P Q a w := by
 refine wpIn_rangeFunc fun fn hfn => ?_
 rw [hro]
 let r0 : LoopState → Loop := fun st => { state := st, pending := none, fn, tmps := a.tmps, params := ps, assign, body, defers := w.heap.size }
 have hW : Below w.heap.size w ((w.alloc (.deferred (some []))).alloc (.loop (r0 .ready))) := ((Below.refl _ w).alloc (Nat.le_refl _) _).alloc (by simp) _
 have hz : ((w.alloc (.deferred (some []))).alloc (.loop (r0 .ready))).heap.size = w.heap.size + 2 := by simp
 have hl0 : ((w.alloc (.deferred (some []))).alloc (.loop (r0 .ready))).heap[w.heap.size + 1]? = some (.loop (r0 .ready)) := by
  have := World.alloc_heap_new (w.alloc (.deferred (some []))) (.loop (r0 .ready)); rwa [World.size_alloc] at this
 have hd0 : ((w.alloc (.deferred (some []))).alloc (.loop (r0 .ready))).heap[w.heap.size]? = some (.deferred (some [])) :=
  (Below.heap_alloc _ _ _ (by simp)).trans (World.alloc_heap_new w _)
 have hi0 : I [] ((w.alloc (.deferred (some []))).alloc (.loop (r0 .ready))) :=
  hI _ _ _ none (hI _ _ _ none h0 (World.grownBy_alloc w _ none) (by simp)) (World.grownBy_alloc _ _ none) (by simp)
 refine ⟨w.heap.size + 1, [{ target := .collected w.heap.size, args := #[] }], (w.alloc (.deferred (some []))).alloc (.loop (r0 .ready)), { target := .fn (.func gf) lb, args := #[.func (.yield (w.heap.size + 1)) #[] #[]] }, (w.alloc (.deferred (some []))).alloc (.loop (r0 .ready)), gf,
  #[.func (.yield (w.heap.size + 1)) #[] #[]] ++ lb, (w.alloc (.deferred (some []))).alloc (.loop (r0 .ready)), run_enterLoop_outer _ _ _ _ _, ?_, ?_, ?_, fun _ => h1, ?_⟩
 ·
  simp only [resolve, hg]
  simp [go_sem]
 ·
  intro f' hf'; simp [Target.leads] at hf'; subst hf'; exact hFg
 ·
  simp [invoke, go_sem, eg]
 ·
  refine (hseq _ hz hW (w.heap.size + 1) (fun pre W => I pre W ∧ W.heap[w.heap.size + 1]? = some (.loop (r0 .ready)) ∧ W.heap[w.heap.size]? = some (.deferred (some []))) ?_ ?_ ⟨hi0, hl0, hd0⟩ (fun _ W h => by have := (Array.getElem?_eq_some_iff.1 h.2.1).1; omega)).mono ?_
  ·
   rintro s A B ⟨h1, h2, h3⟩ hg'
   exact ⟨hI _ _ _ none h1 hg' (by simp), (hg'.block _ (Array.getElem?_eq_some_iff.1 h2).1 (by simp)).trans h2, (hg'.block _ (Array.getElem?_eq_some_iff.1 h3).1 (by simp)).trans h3⟩
  ·
   rintro pre x W ⟨hi, hl, hd⟩ hlen
   have hlt := (Array.getElem?_eq_some_iff.1 hl).1
   refine ⟨fn, _, assign, body, run_yield (P := P) (args := encs x) hl (hps x), roundIn_of_wpIn hfn (hassign _ x W _ ?_)⟩
   refine ⟨_, run_beginRound hl rfl, ?_⟩
   refine wpIn_mono (hbody (w.heap.size + 1) pre x _ (hI _ _ _ _ hi (grownBy_putObj' W (w.heap.size + 1) _) (fun r e => by cases e; rfl)) (Nat.le_trans hlt (grownBy_putObj' W (w.heap.size + 1) _).size) ((World.putObj_heap_other (by omega)).trans hd) ⟨_, World.putObj_heap_same hlt⟩ hlen) ?_
   rintro e a3 W3 hp
   cases e with
   | normal =>
    obtain ⟨h1, h2, h3, h4⟩ := hp
    have hl3 : W3.heap[w.heap.size + 1]? = some (.loop (r0 .busy)) := h2.trans (World.putObj_heap_same hlt)
    have hd3 : W3.heap[w.heap.size]? = some (.deferred (some [])) := h1.trans ((World.putObj_heap_other (by omega)).trans hd)
    exact ⟨_, _, run_endRound none hl3, rfl, ⟨hI _ _ _ _ h4 (grownBy_putObj' W3 (w.heap.size + 1) _) (fun r e => by cases e; rfl), World.putObj_heap_same (Array.getElem?_eq_some_iff.1 hl3).1, (World.putObj_heap_other (by omega)).trans hd3⟩,
     ((KeepT.put W _ hT).trans h3).trans (KeepT.put W3 _ hT)⟩
   | ret => exact hp.elim
   | exit id => exact hp.elim
   | goto t => exact hp.elim
   | panic ch => exact hp.elim
   | outgrown => exact hp.elim
  ·
   rintro e W2 ⟨⟨v, rfl⟩, xs, hS, hi, hl, hd⟩
   exact ⟨none, _, run_endLoop (P := P) hl (by simp [r0]), hdone xs _ hS (hI _ _ _ _ hi (grownBy_putObj' W2 (w.heap.size + 1) _) (fun r e => by cases e; rfl)) ((World.putObj_heap_other (by omega)).trans hd)⟩
/-- the world after two marks are taken over -/
def markW (w : World) (b1 b2 : Nat) : World := (w.putObj b1 (.deferred none)).putObj b2 (.deferred none)
theorem markW_other {w : World} {b1 b2 k : Nat} (h1 : k ≠ b1) (h2 : k ≠ b2) : (markW w b1 b2).heap[k]? = w.heap[k]? := (World.putObj_heap_other h2).trans (World.putObj_heap_other h1)
theorem leave2 {F : Fence} {n : Nat} {P : Program} {fn : Func} {tmps : Array Value} {R : Ending → World → Prop} {Wf : World} {b1 b2 : Nat} (z1 : Wf.heap[b1]? = some (.deferred (some []))) (z2 : Wf.heap[b2]? = some (.deferred (some []))) (hne : b2 ≠ b1)
  (h : LeavesInM F n P fn tmps R [] .returning (markW Wf b1 b2)) : LeavesInM F n P fn tmps R [{ target := .collected b1, args := #[] }, { target := .collected b2, args := #[] }] .returning Wf := by
 have z2' : (Wf.putObj b1 (.deferred none)).heap[b2]? = some (.deferred (some [])) := (World.putObj_heap_other hne).trans z2
 refine ⟨by simp, .inl ⟨_, _, rfl, run_takeDeferred z1, ?_⟩⟩
 exact ⟨by simp, .inl ⟨_, _, rfl, run_takeDeferred z2', h⟩⟩
theorem markW_below {w Wf : World} {b1 b2 : Nat} (h : Below w.heap.size w Wf) (h1 : w.heap.size ≤ b1) (h2 : w.heap.size ≤ b2) : Below w.heap.size w (markW Wf b1 b2) := by
 refine ⟨h.os, h.tape, h.output, ?_, fun k hk => (markW_other (by omega) (by omega)).trans (h.block k hk)⟩
 have := h.size
 simpa [markW, World.putObj] using this
end Go.Proofs.YtghikgjknhjjgaaGreatDoor
