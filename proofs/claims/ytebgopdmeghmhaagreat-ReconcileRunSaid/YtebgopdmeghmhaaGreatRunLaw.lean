/- A law for 'for .. := range f' where the body never leaves the loop and the iterator keeps a map of its own between two rounds: the round's word 'Kp' may speak of every block but the loop's own two. 'rangeFunc_run', the iterator knowing that no world between two rounds is smaller than its first. -/
import Derived.RangeFuncNested
import Derived.RangeFuncBound
import Derived.RangeFuncCalls
import Derived.RangeFuncLeaves
import Derived.Shelf.Abstract
import Derived.WalkKit
import Derived.OwnWalkIn
import Derived.Test.YtebgopdmeghmhaaGreatMem
import Derived.RangeFuncKeeps
namespace Go.Proofs.YtebgopdmeghmhaaGreat
open Go.RowKit Go.Shelf

/-- what lies in a block of T lies there still -/
def KeepT (T : Nat → Prop) (W W' : World) : Prop := ∀ k o, T k → W.heap[k]? = some o → W'.heap[k]? = some o
theorem KeepT.refl (T : Nat → Prop) (W : World) : KeepT T W W := fun _ _ _ h => h
theorem KeepT.trans {T : Nat → Prop} {A B C : World} (h : KeepT T A B) (k : KeepT T B C) : KeepT T A C := fun i o hi ho => k i o hi (h i o hi ho)
theorem KeepT.put {T : Nat → Prop} (W : World) {l : Nat} (o : Obj) (hl : ¬ T l) : KeepT T W (W.putObj l o) := fun k o' hk ho => (World.putObj_heap_other (by intro e; subst e; exact hl hk)).trans ho
theorem KeepT.set {T : Nat → Prop} (W : World) {a : Addr} (v : Value) (hl : ¬ T a.block) : KeepT T W (W.setCell a v) := fun k o' hk ho => (Below.heap_setCell W a v k (by intro e; subst e; exact hl hk)).trans ho

variable {F : Fence} {n : Nat} {P : Program}
/-- the iterator yields all of S to a body that never leaves -/
def SeqRun {α : Type} (F : Fence) (n : Nat) (P : Program) (gf : Nat) (lb : Array Value) (encs : α → Array Value) (T : Nat → Prop) (S : List α → Prop) (N : Nat) (w : World) : Prop :=
  ∀ (l : Nat) (J : List α → World → Prop), (∀ s W W', J s W → W.grownBy W' none → J s W') →
    (∀ pre x W1, J pre W1 → pre.length < N → YieldAt F (n - 1) P l (encs x) W1 fun e W' => e = .returned (.bool true) ∧ J (pre ++ [x]) W' ∧ KeepT T W1 W') →
    J [] w → CallsIn F n P gf (#[.func (.yield l) #[] #[]] ++ lb) w fun e W' => (∃ v, e = .returned v) ∧ ∃ xs, S xs ∧ J xs W'

def runPost {α : Type} (B : Nat) (T : Nat → Prop) (I : List α → World → Prop) (xs : List α) (W : World) : Exit → Act → World → Prop
  | .normal, _, W' => W'.heap[B]? = W.heap[B]? ∧ W'.heap[B + 1]? = W.heap[B + 1]? ∧ KeepT T W W' ∧ I xs W'
  | _, _, _ => False

theorem rangeFunc_run {α : Type} {g : Operand} {ps : Array Tmp} {assign body : Code} {Q : Exit → Act → World → Prop} {a : Act} {w : World}
    (hro : F.round = none) (h1 : 1 ≤ n) {gf : Nat} {lb : Array Value} (hg : a.eval g = .func (.func gf) #[] lb) (hFg : F.fn gf) (eg : ∀ args w, (callFunc gf args).run P w = .ok (.enter gf args) w)
    {encs : α → Array Value} {T : Nat → Prop} {S : List α → Prop} {N : Nat}
    (hseq : ∀ W1 : World, W1.heap.size = w.heap.size + 2 → Below w.heap.size w W1 → SeqRun F (n - 1) P gf lb encs T S N W1)
    (hT : ¬ T (w.heap.size + 1)) (hps : ∀ x, (encs x).size = ps.size)
    (I : List α → World → Prop) (hI : ∀ s W W' row, I s W → W.grownBy W' row → (∀ r, row = some r → w.heap.size ≤ r) → I s W') (h0 : I [] w) (a₁ : α → Act)
    (hassign : ∀ (l : Nat) (x : α) (W : World) (K : Act → World → Prop), K (a₁ x) W →
      assign.wpIn (F.inRound l) (n - 1 - 1) P (Exit.then K (fun _ _ _ => False)) { tmps := (ps.zip (encs x)).foldl (fun t (p, v) => t.setIfInBounds p v) a.tmps, defers := [] } W)
    (hbody : ∀ (l : Nat) (pre : List α) (x : α) (W : World), I pre W → pre.length < N → body.wpIn (F.inRound l) (n - 1 - 1) P (runPost w.heap.size T I (pre ++ [x]) W) (a₁ x) W)
    (hdone : ∀ (xs : List α) (W : World), S xs → I xs W → W.heap[w.heap.size]? = some (.deferred (some [])) → Q .normal { a with defers := { target := .collected w.heap.size, args := #[] } :: a.defers } W) :
    (Code.rangeFunc g ps assign body).wpIn F n P Q a w := by
  refine wpIn_rangeFunc fun fn hfn => ?_
  rw [hro]
  let r0 : LoopState → Loop := fun st => { state := st, pending := none, fn, tmps := a.tmps, params := ps, assign, body, defers := w.heap.size }
  have hW : Below w.heap.size w ((w.alloc (.deferred (some []))).alloc (.loop (r0 .ready))) := ((Below.refl _ w).alloc (Nat.le_refl _) _).alloc (by simp) _
  have hz : ((w.alloc (.deferred (some []))).alloc (.loop (r0 .ready))).heap.size = w.heap.size + 2 := by simp
  have hl0 : ((w.alloc (.deferred (some []))).alloc (.loop (r0 .ready))).heap[w.heap.size + 1]? = some (.loop (r0 .ready)) := by
    have := World.alloc_heap_new (w.alloc (.deferred (some []))) (.loop (r0 .ready)); rwa [World.size_alloc] at this
  have hd0 : ((w.alloc (.deferred (some []))).alloc (.loop (r0 .ready))).heap[w.heap.size]? = some (.deferred (some [])) :=
    (Below.heap_alloc _ _ _ (by simp)).trans (World.alloc_heap_new w _)
  have hi0 : I [] ((w.alloc (.deferred (some []))).alloc (.loop (r0 .ready))) :=
    hI _ _ _ none (hI _ _ _ none h0 (World.grownBy_alloc w _ none) (by simp)) (World.grownBy_alloc _ _ none) (by simp)
  refine ⟨w.heap.size + 1, [{ target := .collected w.heap.size, args := #[] }], (w.alloc (.deferred (some []))).alloc (.loop (r0 .ready)), { target := .fn (.func gf) lb, args := #[.func (.yield (w.heap.size + 1)) #[] #[]] }, (w.alloc (.deferred (some []))).alloc (.loop (r0 .ready)), gf,
    #[.func (.yield (w.heap.size + 1)) #[] #[]] ++ lb, (w.alloc (.deferred (some []))).alloc (.loop (r0 .ready)), run_enterLoop_outer _ _ _ _ _, ?_, ?_, ?_, fun _ => h1, ?_⟩
  · simp only [resolve, hg]
    simp [go_sem]
  · intro f' hf'; simp [Target.leads] at hf'; subst hf'; exact hFg
  · simp [invoke, go_sem, eg]
  · refine (hseq _ hz hW (w.heap.size + 1) (fun pre W => I pre W ∧ W.heap[w.heap.size + 1]? = some (.loop (r0 .ready)) ∧ W.heap[w.heap.size]? = some (.deferred (some []))) ?_ ?_ ⟨hi0, hl0, hd0⟩).mono ?_
    · rintro s A B ⟨h1, h2, h3⟩ hg'
      exact ⟨hI _ _ _ none h1 hg' (by simp), (hg'.block _ (Array.getElem?_eq_some_iff.1 h2).1 (by simp)).trans h2, (hg'.block _ (Array.getElem?_eq_some_iff.1 h3).1 (by simp)).trans h3⟩
    · rintro pre x W ⟨hi, hl, hd⟩ hlen
      have hlt := (Array.getElem?_eq_some_iff.1 hl).1
      refine ⟨fn, _, assign, body, run_yield (P := P) (args := encs x) hl (hps x), roundIn_of_wpIn hfn (hassign _ x W _ ?_)⟩
      refine ⟨_, run_beginRound hl rfl, ?_⟩
      refine wpIn_mono (hbody (w.heap.size + 1) pre x _ (hI _ _ _ _ hi (grownBy_putObj' W (w.heap.size + 1) _) (fun r e => by cases e; omega)) hlen) ?_
      rintro e a3 W3 hp
      cases e with
      | normal =>
        obtain ⟨h1, h2, h3, h4⟩ := hp
        have hl3 : W3.heap[w.heap.size + 1]? = some (.loop (r0 .busy)) := h2.trans (World.putObj_heap_same hlt)
        have hd3 : W3.heap[w.heap.size]? = some (.deferred (some [])) := h1.trans ((World.putObj_heap_other (by omega)).trans hd)
        exact ⟨_, _, run_endRound none hl3, rfl, ⟨hI _ _ _ _ h4 (grownBy_putObj' W3 (w.heap.size + 1) _) (fun r e => by cases e; omega), World.putObj_heap_same (Array.getElem?_eq_some_iff.1 hl3).1, (World.putObj_heap_other (by omega)).trans hd3⟩,
          ((KeepT.put W _ hT).trans h3).trans (KeepT.put W3 _ hT)⟩
      | ret => exact hp.elim
      | exit id => exact hp.elim
      | goto t => exact hp.elim
      | panic ch => exact hp.elim
      | outgrown => exact hp.elim
    · rintro e W2 ⟨⟨v, rfl⟩, xs, hS, hi, hl, hd⟩
      exact ⟨none, _, run_endLoop (P := P) hl (by simp [r0]), hdone xs _ hS (hI _ _ _ _ hi (grownBy_putObj' W2 (w.heap.size + 1) _) (fun r e => by cases e; omega)) ((World.putObj_heap_other (by omega)).trans hd)⟩
end Go.Proofs.YtebgopdmeghmhaaGreat
namespace Go.Proofs.YtebgopdmeghmhaaGreat
open Go.RowKit Go.Shelf

variable {F : Fence} {n : Nat} {P : Program}
/-- the iterator yields all of S to a body that never leaves; no world between is smaller -/
def SeqRun2 {α : Type} (F : Fence) (n : Nat) (P : Program) (gf : Nat) (lb : Array Value) (encs : α → Array Value) (T : Nat → Prop) (S : List α → Prop) (N : Nat) (w : World) : Prop :=
  ∀ (l : Nat) (J : List α → World → Prop), (∀ s W W', J s W → W.grownBy W' none → J s W') →
    (∀ pre x W1, J pre W1 → pre.length < N → YieldAt F (n - 1) P l (encs x) W1 fun e W' => e = .returned (.bool true) ∧ J (pre ++ [x]) W' ∧ KeepT T W1 W') →
    J [] w → (∀ s W, J s W → w.heap.size ≤ W.heap.size) → CallsIn F n P gf (#[.func (.yield l) #[] #[]] ++ lb) w fun e W' => (∃ v, e = .returned v) ∧ ∃ xs, S xs ∧ J xs W'

theorem rangeFunc_run2 {α : Type} {g : Operand} {ps : Array Tmp} {assign body : Code} {Q : Exit → Act → World → Prop} {a : Act} {w : World}
    (hro : F.round = none) (h1 : 1 ≤ n) {gf : Nat} {lb : Array Value} (hg : a.eval g = .func (.func gf) #[] lb) (hFg : F.fn gf) (eg : ∀ args w, (callFunc gf args).run P w = .ok (.enter gf args) w)
    {encs : α → Array Value} {T : Nat → Prop} {S : List α → Prop} {N : Nat}
    (hseq : ∀ W1 : World, W1.heap.size = w.heap.size + 2 → Below w.heap.size w W1 → SeqRun2 F (n - 1) P gf lb encs T S N W1)
    (hT : ¬ T (w.heap.size + 1)) (hps : ∀ x, (encs x).size = ps.size)
    (I : List α → World → Prop) (hI : ∀ s W W' row, I s W → W.grownBy W' row → (∀ r, row = some r → w.heap.size ≤ r) → I s W') (h0 : I [] w) (a₁ : α → Act)
    (hassign : ∀ (l : Nat) (x : α) (W : World) (K : Act → World → Prop), K (a₁ x) W →
      assign.wpIn (F.inRound l) (n - 1 - 1) P (Exit.then K (fun _ _ _ => False)) { tmps := (ps.zip (encs x)).foldl (fun t (p, v) => t.setIfInBounds p v) a.tmps, defers := [] } W)
    (hbody : ∀ (l : Nat) (pre : List α) (x : α) (W : World), I pre W → w.heap.size + 2 ≤ W.heap.size → pre.length < N → body.wpIn (F.inRound l) (n - 1 - 1) P (runPost w.heap.size T I (pre ++ [x]) W) (a₁ x) W)
    (hdone : ∀ (xs : List α) (W : World), S xs → I xs W → W.heap[w.heap.size]? = some (.deferred (some [])) → Q .normal { a with defers := { target := .collected w.heap.size, args := #[] } :: a.defers } W) :
    (Code.rangeFunc g ps assign body).wpIn F n P Q a w := by
  refine wpIn_rangeFunc fun fn hfn => ?_
  rw [hro]
  let r0 : LoopState → Loop := fun st => { state := st, pending := none, fn, tmps := a.tmps, params := ps, assign, body, defers := w.heap.size }
  have hW : Below w.heap.size w ((w.alloc (.deferred (some []))).alloc (.loop (r0 .ready))) := ((Below.refl _ w).alloc (Nat.le_refl _) _).alloc (by simp) _
  have hz : ((w.alloc (.deferred (some []))).alloc (.loop (r0 .ready))).heap.size = w.heap.size + 2 := by simp
  have hl0 : ((w.alloc (.deferred (some []))).alloc (.loop (r0 .ready))).heap[w.heap.size + 1]? = some (.loop (r0 .ready)) := by
    have := World.alloc_heap_new (w.alloc (.deferred (some []))) (.loop (r0 .ready)); rwa [World.size_alloc] at this
  have hd0 : ((w.alloc (.deferred (some []))).alloc (.loop (r0 .ready))).heap[w.heap.size]? = some (.deferred (some [])) :=
    (Below.heap_alloc _ _ _ (by simp)).trans (World.alloc_heap_new w _)
  have hi0 : I [] ((w.alloc (.deferred (some []))).alloc (.loop (r0 .ready))) :=
    hI _ _ _ none (hI _ _ _ none h0 (World.grownBy_alloc w _ none) (by simp)) (World.grownBy_alloc _ _ none) (by simp)
  refine ⟨w.heap.size + 1, [{ target := .collected w.heap.size, args := #[] }], (w.alloc (.deferred (some []))).alloc (.loop (r0 .ready)), { target := .fn (.func gf) lb, args := #[.func (.yield (w.heap.size + 1)) #[] #[]] }, (w.alloc (.deferred (some []))).alloc (.loop (r0 .ready)), gf,
    #[.func (.yield (w.heap.size + 1)) #[] #[]] ++ lb, (w.alloc (.deferred (some []))).alloc (.loop (r0 .ready)), run_enterLoop_outer _ _ _ _ _, ?_, ?_, ?_, fun _ => h1, ?_⟩
  · simp only [resolve, hg]
    simp [go_sem]
  · intro f' hf'; simp [Target.leads] at hf'; subst hf'; exact hFg
  · simp [invoke, go_sem, eg]
  · refine (hseq _ hz hW (w.heap.size + 1) (fun pre W => I pre W ∧ W.heap[w.heap.size + 1]? = some (.loop (r0 .ready)) ∧ W.heap[w.heap.size]? = some (.deferred (some []))) ?_ ?_ ⟨hi0, hl0, hd0⟩ (fun _ W h => by have := (Array.getElem?_eq_some_iff.1 h.2.1).1; omega)).mono ?_
    · rintro s A B ⟨h1, h2, h3⟩ hg'
      exact ⟨hI _ _ _ none h1 hg' (by simp), (hg'.block _ (Array.getElem?_eq_some_iff.1 h2).1 (by simp)).trans h2, (hg'.block _ (Array.getElem?_eq_some_iff.1 h3).1 (by simp)).trans h3⟩
    · rintro pre x W ⟨hi, hl, hd⟩ hlen
      have hlt := (Array.getElem?_eq_some_iff.1 hl).1
      refine ⟨fn, _, assign, body, run_yield (P := P) (args := encs x) hl (hps x), roundIn_of_wpIn hfn (hassign _ x W _ ?_)⟩
      refine ⟨_, run_beginRound hl rfl, ?_⟩
      refine wpIn_mono (hbody (w.heap.size + 1) pre x _ (hI _ _ _ _ hi (grownBy_putObj' W (w.heap.size + 1) _) (fun r e => by cases e; omega)) (Nat.le_trans hlt (grownBy_putObj' W (w.heap.size + 1) _).size) hlen) ?_
      rintro e a3 W3 hp
      cases e with
      | normal =>
        obtain ⟨h1, h2, h3, h4⟩ := hp
        have hl3 : W3.heap[w.heap.size + 1]? = some (.loop (r0 .busy)) := h2.trans (World.putObj_heap_same hlt)
        have hd3 : W3.heap[w.heap.size]? = some (.deferred (some [])) := h1.trans ((World.putObj_heap_other (by omega)).trans hd)
        exact ⟨_, _, run_endRound none hl3, rfl, ⟨hI _ _ _ _ h4 (grownBy_putObj' W3 (w.heap.size + 1) _) (fun r e => by cases e; omega), World.putObj_heap_same (Array.getElem?_eq_some_iff.1 hl3).1, (World.putObj_heap_other (by omega)).trans hd3⟩,
          ((KeepT.put W _ hT).trans h3).trans (KeepT.put W3 _ hT)⟩
      | ret => exact hp.elim
      | exit id => exact hp.elim
      | goto t => exact hp.elim
      | panic ch => exact hp.elim
      | outgrown => exact hp.elim
    · rintro e W2 ⟨⟨v, rfl⟩, xs, hS, hi, hl, hd⟩
      exact ⟨none, _, run_endLoop (P := P) hl (by simp [r0]), hdone xs _ hS (hI _ _ _ _ hi (grownBy_putObj' W2 (w.heap.size + 1) _) (fun r e => by cases e; omega)) ((World.putObj_heap_other (by omega)).trans hd)⟩
theorem bx_own {A B : World} {row : Option Nat} {b : Nat} {cs : Array Value} {t : TypeId} (hs : Bx A b cs t) (hg : A.grownBy B row) (hr : ∀ r, row = some r → ∃ o : Obj, A.heap[r]? = some o ∧ o.isCells = false) : Bx B b cs t := by
  refine hs.grown hg fun e => ?_
  obtain ⟨o, ho, hc⟩ := hr b e.symm
  unfold Bx at hs
  rw [hs] at ho
  cases ho
  cases hc
theorem KeepT.of_below {T : Nat → Prop} {W W' : World} {B : Nat} (h : Below B W W') (hB : W.heap.size ≤ B) : KeepT T W W' := fun k _o _ ho => (h.block k (Nat.lt_of_lt_of_le (Array.getElem?_eq_some_iff.1 ho).1 hB)).trans ho
theorem KeepT.setCells {T : Nat → Prop} {b : Nat} (hl : ¬ T b) : ∀ (l : List Value) (o : Nat) (W : World), KeepT T W (W.setCells b o l)
  | [], _, _ => KeepT.refl _ _
  | v :: l, o, W => (KeepT.set W (a := ⟨b, o, none⟩) v hl).trans (KeepT.setCells hl l (o + 1) _)
theorem heap_setCells {b k : Nat} (h : k ≠ b) : ∀ (l : List Value) (o : Nat) (W : World), (W.setCells b o l).heap[k]? = W.heap[k]?
  | [], _, _ => rfl
  | v :: l, o, W => (heap_setCells h l (o + 1) _).trans (Below.heap_setCell W ⟨b, o, none⟩ v k h)
end Go.Proofs.YtebgopdmeghmhaaGreat
