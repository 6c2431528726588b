/- A law for 'for .. := range f' where the body never leaves the loop and the iterator keeps a map of its own between two rounds: the round's word 'Kp' may speak of every block but the loop's own two. 'rangeFunc_run', the iterator knowing that no world between two rounds is smaller than its first. DERIVED: THE SHELF's CONTRACTS AT THIS DUMP, IN PLAIN WORDS (tools/lay-plain.mjs out of 'TrydShelf.lean', which tools/lay-shelf.mjs wrote): THE SAME DECLARATIONS UNDER THE SAME NAMES: 'import', 'namespace', 'open', 'def', 'theorem' AND NOTHING ELSE: no command of the shelf's: FOR A HAND-IN. Each laying: the table of numbers ('.._ren') and one theorem, a field a fact of the dump's own or the kernel's comparison; each contract: ONE APPLICATION. disk.contents (layer 40): the contract of its iterator: all pages of a valid disk with their contents, in order. slices.Backward over a slice of writes (layer 40): the contract of its iterator. The two functions Check of layer 40: each returns 'chk' of the disk, for every disk. -/
import Derived.RangeFuncNested
import Derived.RangeFuncBound
import Derived.RangeFuncCalls
import Derived.RangeFuncLeaves
import Derived.Shelf.Abstract
import Derived.WalkKit
import Derived.OwnWalkIn
import Derived.Test.YtghikgjknhjjgaaDoorQ01
import Derived.RangeFuncKeeps
import Derived.Shelf.Strings.Builder1
import Derived.Shelf.Strings.Builder2
import Derived.Shelf.Strings.BuilderF
import Derived.Shelf.Strings.BuilderK
import Derived.Shelf.Strings.Builder2Cap
import Derived.Shelf.Strconv.Itoa0
import Derived.Shelf.Strconv.Itoa1
import Derived.Shelf.LaysM
import Derived.Shelf.Strconv.Itoa2
import Derived.Shelf.Strconv.Itoa3
import Derived.Shelf.Strings.Prefix
import Derived.Shelf.Bits.Mul64
import Derived.Shelf.Strings.Repeat
import Derived.Shelf.Strings.BuilderCap
import Derived.Shelf.Slices.Equal
import Derived.Ground.Names2Prog
import Derived.Shelf.Slices.Clone
import Derived.Shelf.Slices.Empties2
import Derived.Test.YtghikgjknhjjgaaDoorProg
import Derived.RangeFuncBox
import Derived.TacticsInMore
import Derived.LoopNIn
import Derived.LoopIn
import Derived.Maps.OwnIn
import Derived.Maps.StringElems
import Derived.Shelf.RegionOpen
import Derived.BigQuiet
import Derived.Deep.QuietTactic
namespace Go.Proofs.YtghikgjknhjjgaaDoor
set_option maxRecDepth 100000
open Go.RowKit Go.Shelf
/-- what lies in a block of T lies there still -/
def KeepT (T : Nat → Prop) (W W' : World) : Prop := ∀ k o, T k → W.heap[k]? = some o → W'.heap[k]? = some o
theorem KeepT.refl (T : Nat → Prop) (W : World) : KeepT T W W := fun _ _ _ h => h
theorem KeepT.trans {T : Nat → Prop} {A B C : World} (h : KeepT T A B) (k : KeepT T B C) : KeepT T A C := fun i o hi ho => k i o hi (h i o hi ho)
theorem KeepT.put {T : Nat → Prop} (W : World) {l : Nat} (o : Obj) (hl : ¬ T l) : KeepT T W (W.putObj l o) := fun k o' hk ho => (World.putObj_heap_other (by intro e; subst e; exact hl hk)).trans ho
theorem KeepT.set {T : Nat → Prop} (W : World) {a : Addr} (v : Value) (hl : ¬ T a.block) : KeepT T W (W.setCell a v) := fun k o' hk ho => (Below.heap_setCell W a v k (by intro e; subst e; exact hl hk)).trans ho
variable {F : Fence} {n : Nat} {P : Program}
/-- the iterator yields all of S to a body that never leaves -/
def SeqRun {α : Type} (F : Fence) (n : Nat) (P : Program) (gf : Nat) (lb : Array Value) (encs : α → Array Value) (T : Nat → Prop) (S : List α → Prop) (N : Nat) (w : World) : Prop :=
 ∀ (l : Nat) (J : List α → World → Prop), (∀ s W W', J s W → W.grownBy W' none → J s W') →
  (∀ pre x W1, J pre W1 → pre.length < N → YieldAt F (n - 1) P l (encs x) W1 fun e W' => e = .returned (.bool true) ∧ J (pre ++ [x]) W' ∧ KeepT T W1 W') →
  J [] w → CallsIn F n P gf (#[.func (.yield l) #[] #[]] ++ lb) w fun e W' => (∃ v, e = .returned v) ∧ ∃ xs, S xs ∧ J xs W'
def runPost {α : Type} (B : Nat) (T : Nat → Prop) (I : List α → World → Prop) (xs : List α) (W : World) : Exit → Act → World → Prop
 | .normal, _, W' => W'.heap[B]? = W.heap[B]? ∧ W'.heap[B + 1]? = W.heap[B + 1]? ∧ KeepT T W W' ∧ I xs W'
 | _, _, _ => False
theorem rangeFunc_run {α : Type} {g : Operand} {ps : Array Tmp} {assign body : Code} {Q : Exit → Act → World → Prop} {a : Act} {w : World}
  (hro : F.round = none) (h1 : 1 ≤ n) {gf : Nat} {lb : Array Value} (hg : a.eval g = .func (.func gf) #[] lb) (hFg : F.fn gf) (eg : ∀ args w, (callFunc gf args).run P w = .ok (.enter gf args) w)
  {encs : α → Array Value} {T : Nat → Prop} {S : List α → Prop} {N : Nat}
  (hseq : ∀ W1 : World, W1.heap.size = w.heap.size + 2 → Below w.heap.size w W1 → SeqRun F (n - 1) P gf lb encs T S N W1)
  (hT : ¬ T (w.heap.size + 1)) (hps : ∀ x, (encs x).size = ps.size)
  (I : List α → World → Prop) (hI : ∀ s W W' row, I s W → W.grownBy W' row → (∀ r, row = some r → w.heap.size ≤ r) → I s W') (h0 : I [] w) (a₁ : α → Act)
  (hassign : ∀ (l : Nat) (x : α) (W : World) (K : Act → World → Prop), K (a₁ x) W →
   assign.wpIn (F.inRound l) (n - 1 - 1) P (Exit.then K (fun _ _ _ => False)) { tmps := (ps.zip (encs x)).foldl (fun t (p, v) => t.setIfInBounds p v) a.tmps, defers := [] } W)
  (hbody : ∀ (l : Nat) (pre : List α) (x : α) (W : World), I pre W → pre.length < N → body.wpIn (F.inRound l) (n - 1 - 1) P (runPost w.heap.size T I (pre ++ [x]) W) (a₁ x) W)
  (hdone : ∀ (xs : List α) (W : World), S xs → I xs W → W.heap[w.heap.size]? = some (.deferred (some [])) → Q .normal { a with defers := { target := .collected w.heap.size, args := #[] } :: a.defers } W) :
  (Code.rangeFunc g ps assign body).wpIn F n P Q a w := by
 refine wpIn_rangeFunc fun fn hfn => ?_
 rw [hro]
 let r0 : LoopState → Loop := fun st => { state := st, pending := none, fn, tmps := a.tmps, params := ps, assign, body, defers := w.heap.size }
 have hW : Below w.heap.size w ((w.alloc (.deferred (some []))).alloc (.loop (r0 .ready))) := ((Below.refl _ w).alloc (Nat.le_refl _) _).alloc (by simp) _
 have hz : ((w.alloc (.deferred (some []))).alloc (.loop (r0 .ready))).heap.size = w.heap.size + 2 := by simp
 have hl0 : ((w.alloc (.deferred (some []))).alloc (.loop (r0 .ready))).heap[w.heap.size + 1]? = some (.loop (r0 .ready)) := by
  have := World.alloc_heap_new (w.alloc (.deferred (some []))) (.loop (r0 .ready)); rwa [World.size_alloc] at this
 have hd0 : ((w.alloc (.deferred (some []))).alloc (.loop (r0 .ready))).heap[w.heap.size]? = some (.deferred (some [])) :=
  (Below.heap_alloc _ _ _ (by simp)).trans (World.alloc_heap_new w _)
 have hi0 : I [] ((w.alloc (.deferred (some []))).alloc (.loop (r0 .ready))) :=
  hI _ _ _ none (hI _ _ _ none h0 (World.grownBy_alloc w _ none) (by simp)) (World.grownBy_alloc _ _ none) (by simp)
 refine ⟨w.heap.size + 1, [{ target := .collected w.heap.size, args := #[] }], (w.alloc (.deferred (some []))).alloc (.loop (r0 .ready)), { target := .fn (.func gf) lb, args := #[.func (.yield (w.heap.size + 1)) #[] #[]] }, (w.alloc (.deferred (some []))).alloc (.loop (r0 .ready)), gf,
  #[.func (.yield (w.heap.size + 1)) #[] #[]] ++ lb, (w.alloc (.deferred (some []))).alloc (.loop (r0 .ready)), run_enterLoop_outer _ _ _ _ _, ?_, ?_, ?_, fun _ => h1, ?_⟩
 ·
  simp only [resolve, hg]
  simp [go_sem]
 ·
  intro f' hf'; simp [Target.leads] at hf'; subst hf'; exact hFg
 ·
  simp [invoke, go_sem, eg]
 ·
  refine (hseq _ hz hW (w.heap.size + 1) (fun pre W => I pre W ∧ W.heap[w.heap.size + 1]? = some (.loop (r0 .ready)) ∧ W.heap[w.heap.size]? = some (.deferred (some []))) ?_ ?_ ⟨hi0, hl0, hd0⟩).mono ?_
  ·
   rintro s A B ⟨h1, h2, h3⟩ hg'
   exact ⟨hI _ _ _ none h1 hg' (by simp), (hg'.block _ (Array.getElem?_eq_some_iff.1 h2).1 (by simp)).trans h2, (hg'.block _ (Array.getElem?_eq_some_iff.1 h3).1 (by simp)).trans h3⟩
  ·
   rintro pre x W ⟨hi, hl, hd⟩ hlen
   have hlt := (Array.getElem?_eq_some_iff.1 hl).1
   refine ⟨fn, _, assign, body, run_yield (P := P) (args := encs x) hl (hps x), roundIn_of_wpIn hfn (hassign _ x W _ ?_)⟩
   refine ⟨_, run_beginRound hl rfl, ?_⟩
   refine wpIn_mono (hbody (w.heap.size + 1) pre x _ (hI _ _ _ _ hi (grownBy_putObj' W (w.heap.size + 1) _) (fun r e => by cases e; omega)) hlen) ?_
   rintro e a3 W3 hp
   cases e with
   | normal =>
    obtain ⟨h1, h2, h3, h4⟩ := hp
    have hl3 : W3.heap[w.heap.size + 1]? = some (.loop (r0 .busy)) := h2.trans (World.putObj_heap_same hlt)
    have hd3 : W3.heap[w.heap.size]? = some (.deferred (some [])) := h1.trans ((World.putObj_heap_other (by omega)).trans hd)
    exact ⟨_, _, run_endRound none hl3, rfl, ⟨hI _ _ _ _ h4 (grownBy_putObj' W3 (w.heap.size + 1) _) (fun r e => by cases e; omega), World.putObj_heap_same (Array.getElem?_eq_some_iff.1 hl3).1, (World.putObj_heap_other (by omega)).trans hd3⟩,
     ((KeepT.put W _ hT).trans h3).trans (KeepT.put W3 _ hT)⟩
   | ret => exact hp.elim
   | exit id => exact hp.elim
   | goto t => exact hp.elim
   | panic ch => exact hp.elim
   | outgrown => exact hp.elim
  ·
   rintro e W2 ⟨⟨v, rfl⟩, xs, hS, hi, hl, hd⟩
   exact ⟨none, _, run_endLoop (P := P) hl (by simp [r0]), hdone xs _ hS (hI _ _ _ _ hi (grownBy_putObj' W2 (w.heap.size + 1) _) (fun r e => by cases e; omega)) ((World.putObj_heap_other (by omega)).trans hd)⟩
end Go.Proofs.YtghikgjknhjjgaaDoor
namespace Go.Proofs.YtghikgjknhjjgaaDoor
open Go.RowKit Go.Shelf
variable {F : Fence} {n : Nat} {P : Program}
/-- the iterator yields all of S to a body that never leaves; no world between is smaller -/
def SeqRun2 {α : Type} (F : Fence) (n : Nat) (P : Program) (gf : Nat) (lb : Array Value) (encs : α → Array Value) (T : Nat → Prop) (S : List α → Prop) (N : Nat) (w : World) : Prop :=
 ∀ (l : Nat) (J : List α → World → Prop), (∀ s W W', J s W → W.grownBy W' none → J s W') →
  (∀ pre x W1, J pre W1 → pre.length < N → YieldAt F (n - 1) P l (encs x) W1 fun e W' => e = .returned (.bool true) ∧ J (pre ++ [x]) W' ∧ KeepT T W1 W') →
  J [] w → (∀ s W, J s W → w.heap.size ≤ W.heap.size) → CallsIn F n P gf (#[.func (.yield l) #[] #[]] ++ lb) w fun e W' => (∃ v, e = .returned v) ∧ ∃ xs, S xs ∧ J xs W'
theorem rangeFunc_run2 {α : Type} {g : Operand} {ps : Array Tmp} {assign body : Code} {Q : Exit → Act → World → Prop} {a : Act} {w : World}
  (hro : F.round = none) (h1 : 1 ≤ n) {gf : Nat} {lb : Array Value} (hg : a.eval g = .func (.func gf) #[] lb) (hFg : F.fn gf) (eg : ∀ args w, (callFunc gf args).run P w = .ok (.enter gf args) w)
  {encs : α → Array Value} {T : Nat → Prop} {S : List α → Prop} {N : Nat}
  (hseq : ∀ W1 : World, W1.heap.size = w.heap.size + 2 → Below w.heap.size w W1 → SeqRun2 F (n - 1) P gf lb encs T S N W1)
  (hT : ¬ T (w.heap.size + 1)) (hps : ∀ x, (encs x).size = ps.size)
  (I : List α → World → Prop) (hI : ∀ s W W' row, I s W → W.grownBy W' row → (∀ r, row = some r → w.heap.size ≤ r) → I s W') (h0 : I [] w) (a₁ : α → Act)
  (hassign : ∀ (l : Nat) (x : α) (W : World) (K : Act → World → Prop), K (a₁ x) W →
   assign.wpIn (F.inRound l) (n - 1 - 1) P (Exit.then K (fun _ _ _ => False)) { tmps := (ps.zip (encs x)).foldl (fun t (p, v) => t.setIfInBounds p v) a.tmps, defers := [] } W)
  (hbody : ∀ (l : Nat) (pre : List α) (x : α) (W : World), I pre W → w.heap.size + 2 ≤ W.heap.size → pre.length < N → body.wpIn (F.inRound l) (n - 1 - 1) P (runPost w.heap.size T I (pre ++ [x]) W) (a₁ x) W)
  (hdone : ∀ (xs : List α) (W : World), S xs → I xs W → W.heap[w.heap.size]? = some (.deferred (some [])) → Q .normal { a with defers := { target := .collected w.heap.size, args := #[] } :: a.defers } W) :
  (Code.rangeFunc g ps assign body).wpIn F n P Q a w := by
 refine wpIn_rangeFunc fun fn hfn => ?_
 rw [hro]
 let r0 : LoopState → Loop := fun st => { state := st, pending := none, fn, tmps := a.tmps, params := ps, assign, body, defers := w.heap.size }
 have hW : Below w.heap.size w ((w.alloc (.deferred (some []))).alloc (.loop (r0 .ready))) := ((Below.refl _ w).alloc (Nat.le_refl _) _).alloc (by simp) _
 have hz : ((w.alloc (.deferred (some []))).alloc (.loop (r0 .ready))).heap.size = w.heap.size + 2 := by simp
 have hl0 : ((w.alloc (.deferred (some []))).alloc (.loop (r0 .ready))).heap[w.heap.size + 1]? = some (.loop (r0 .ready)) := by
  have := World.alloc_heap_new (w.alloc (.deferred (some []))) (.loop (r0 .ready)); rwa [World.size_alloc] at this
 have hd0 : ((w.alloc (.deferred (some []))).alloc (.loop (r0 .ready))).heap[w.heap.size]? = some (.deferred (some [])) :=
  (Below.heap_alloc _ _ _ (by simp)).trans (World.alloc_heap_new w _)
 have hi0 : I [] ((w.alloc (.deferred (some []))).alloc (.loop (r0 .ready))) :=
  hI _ _ _ none (hI _ _ _ none h0 (World.grownBy_alloc w _ none) (by simp)) (World.grownBy_alloc _ _ none) (by simp)
 refine ⟨w.heap.size + 1, [{ target := .collected w.heap.size, args := #[] }], (w.alloc (.deferred (some []))).alloc (.loop (r0 .ready)), { target := .fn (.func gf) lb, args := #[.func (.yield (w.heap.size + 1)) #[] #[]] }, (w.alloc (.deferred (some []))).alloc (.loop (r0 .ready)), gf,
  #[.func (.yield (w.heap.size + 1)) #[] #[]] ++ lb, (w.alloc (.deferred (some []))).alloc (.loop (r0 .ready)), run_enterLoop_outer _ _ _ _ _, ?_, ?_, ?_, fun _ => h1, ?_⟩
 ·
  simp only [resolve, hg]
  simp [go_sem]
 ·
  intro f' hf'; simp [Target.leads] at hf'; subst hf'; exact hFg
 ·
  simp [invoke, go_sem, eg]
 ·
  refine (hseq _ hz hW (w.heap.size + 1) (fun pre W => I pre W ∧ W.heap[w.heap.size + 1]? = some (.loop (r0 .ready)) ∧ W.heap[w.heap.size]? = some (.deferred (some []))) ?_ ?_ ⟨hi0, hl0, hd0⟩ (fun _ W h => by have := (Array.getElem?_eq_some_iff.1 h.2.1).1; omega)).mono ?_
  ·
   rintro s A B ⟨h1, h2, h3⟩ hg'
   exact ⟨hI _ _ _ none h1 hg' (by simp), (hg'.block _ (Array.getElem?_eq_some_iff.1 h2).1 (by simp)).trans h2, (hg'.block _ (Array.getElem?_eq_some_iff.1 h3).1 (by simp)).trans h3⟩
  ·
   rintro pre x W ⟨hi, hl, hd⟩ hlen
   have hlt := (Array.getElem?_eq_some_iff.1 hl).1
   refine ⟨fn, _, assign, body, run_yield (P := P) (args := encs x) hl (hps x), roundIn_of_wpIn hfn (hassign _ x W _ ?_)⟩
   refine ⟨_, run_beginRound hl rfl, ?_⟩
   refine wpIn_mono (hbody (w.heap.size + 1) pre x _ (hI _ _ _ _ hi (grownBy_putObj' W (w.heap.size + 1) _) (fun r e => by cases e; omega)) (Nat.le_trans hlt (grownBy_putObj' W (w.heap.size + 1) _).size) hlen) ?_
   rintro e a3 W3 hp
   cases e with
   | normal =>
    obtain ⟨h1, h2, h3, h4⟩ := hp
    have hl3 : W3.heap[w.heap.size + 1]? = some (.loop (r0 .busy)) := h2.trans (World.putObj_heap_same hlt)
    have hd3 : W3.heap[w.heap.size]? = some (.deferred (some [])) := h1.trans ((World.putObj_heap_other (by omega)).trans hd)
    exact ⟨_, _, run_endRound none hl3, rfl, ⟨hI _ _ _ _ h4 (grownBy_putObj' W3 (w.heap.size + 1) _) (fun r e => by cases e; omega), World.putObj_heap_same (Array.getElem?_eq_some_iff.1 hl3).1, (World.putObj_heap_other (by omega)).trans hd3⟩,
     ((KeepT.put W _ hT).trans h3).trans (KeepT.put W3 _ hT)⟩
   | ret => exact hp.elim
   | exit id => exact hp.elim
   | goto t => exact hp.elim
   | panic ch => exact hp.elim
   | outgrown => exact hp.elim
  ·
   rintro e W2 ⟨⟨v, rfl⟩, xs, hS, hi, hl, hd⟩
   exact ⟨none, _, run_endLoop (P := P) hl (by simp [r0]), hdone xs _ hS (hI _ _ _ _ hi (grownBy_putObj' W2 (w.heap.size + 1) _) (fun r e => by cases e; omega)) ((World.putObj_heap_other (by omega)).trans hd)⟩
theorem bx_own {A B : World} {row : Option Nat} {b : Nat} {cs : Array Value} {t : TypeId} (hs : Bx A b cs t) (hg : A.grownBy B row) (hr : ∀ r, row = some r → ∃ o : Obj, A.heap[r]? = some o ∧ o.isCells = false) : Bx B b cs t := by
 refine hs.grown hg fun e => ?_
 obtain ⟨o, ho, hc⟩ := hr b e.symm
 unfold Bx at hs
 rw [hs] at ho
 cases ho
 cases hc
end Go.Proofs.YtghikgjknhjjgaaDoor
namespace Go.Proofs
open Go.Shelf
def Tryd.laysM171_ren : Go.Shelf.Ren := ⟨fun | 171 => 37 | 243 => 57 | 246 => 73 | 283 => 81 | 284 => 82 | 285 => 83 | 286 => 84 | 129 => 87 | 317 => 86 | 318 => 88 | 319 => 89 | 320 => 90 | 337 => 91 | 338 => 92 | n => n, fun | 3 => 3 | 9 => 9 | 2 => 2 | 4 => 4 | 171 => 151 | 0 => 0 | 53 => 146 | 37 => 73 | 5 => 5 | 173 => 154 | 212 => 159 | 51 => 143 | 20 => 20 | 213 => 160 | 46 => 123 | 232 => 164 | 233 => 165 | n => n, fun | 17 => 0 | 18 => 2 | 19 => 3 | n => n⟩
theorem Tryd.laysM171 : Go.Proofs.LaysM.n171 Tryd.prog Tryd.laysM171_ren := {
 mixed := by kernel_rfl
 f129 := Tryd.func87.trans (congrArg some (by kernel_rfl))
 f171 := Tryd.func37.trans (congrArg some (by kernel_rfl))
 f243 := Tryd.func57.trans (congrArg some (by kernel_rfl))
 f246 := Tryd.func73.trans (congrArg some (by kernel_rfl))
 f283 := Tryd.func81.trans (congrArg some (by kernel_rfl))
 f284 := Tryd.func82.trans (congrArg some (by kernel_rfl))
 f285 := Tryd.func83.trans (congrArg some (by kernel_rfl))
 f286 := Tryd.func84.trans (congrArg some (by kernel_rfl))
 f317 := Tryd.func86.trans (congrArg some (by kernel_rfl))
 f318 := Tryd.func88.trans (congrArg some (by kernel_rfl))
 f319 := Tryd.func89.trans (congrArg some (by kernel_rfl))
 f320 := Tryd.func90.trans (congrArg some (by kernel_rfl))
 f337 := Tryd.func91.trans (congrArg some (by kernel_rfl))
 f338 := Tryd.func92.trans (congrArg some (by kernel_rfl))
 t0 := Tryd.underlying0
 a0 := Tryd.isAgg0
 z0 := Tryd.sizeOf0
 v0 := Tryd.zeroValue0
 t2 := Tryd.underlying2
 a2 := Tryd.isAgg2
 z2 := Tryd.sizeOf2
 v2 := Tryd.zeroValue2
 t3 := Tryd.underlying3
 a3 := Tryd.isAgg3
 z3 := Tryd.sizeOf3
 v3 := Tryd.zeroValue3
 t4 := Tryd.underlying4
 a4 := Tryd.isAgg4
 z4 := Tryd.sizeOf4
 v4 := Tryd.zeroValue4
 t5 := Tryd.underlying5
 a5 := Tryd.isAgg5
 z5 := Tryd.sizeOf5
 v5 := Tryd.zeroValue5
 t9 := Tryd.underlying9
 a9 := Tryd.isAgg9
 z9 := Tryd.sizeOf9
 v9 := Tryd.zeroValue9
 t20 := Tryd.underlying20
 a20 := Tryd.isAgg20
 z20 := Tryd.sizeOf20
 v20 := Tryd.zeroValue20
 t37 := Tryd.underlying73
 a37 := Tryd.isAgg73
 z37 := Tryd.sizeOf73
 v37 := Tryd.zeroValue73
 t46 := Tryd.underlying123
 a46 := Tryd.isAgg123
 z46 := Tryd.sizeOf123
 v46 := Tryd.zeroValue123
 t51 := Tryd.underlying143
 a51 := Tryd.isAgg143
 z51 := Tryd.sizeOf143
 v51 := Tryd.zeroValue143
 t53 := Tryd.underlying146
 a53 := Tryd.isAgg146
 z53 := Tryd.sizeOf146
 v53 := Tryd.zeroValue146
 t171 := Tryd.underlying151
 a171 := Tryd.isAgg151
 z171 := Tryd.sizeOf151
 v171 := Tryd.zeroValue151
 t173 := Tryd.underlying154
 a173 := Tryd.isAgg154
 z173 := Tryd.sizeOf154
 v173 := Tryd.zeroValue154
 t212 := Tryd.underlying159
 a212 := Tryd.isAgg159
 z212 := Tryd.sizeOf159
 v212 := Tryd.zeroValue159
 t213 := Tryd.underlying160
 a213 := Tryd.isAgg160
 z213 := Tryd.sizeOf160
 t232 := Tryd.underlying164
 a232 := Tryd.isAgg164
 z232 := Tryd.sizeOf164
 v232 := Tryd.zeroValue164
 t233 := Tryd.underlying165
 a233 := Tryd.isAgg165
 z233 := Tryd.sizeOf165
 v233 := Tryd.zeroValue165
 g17 := by kernel_rfl
 g18 := by kernel_rfl
 g19 := by kernel_rfl
 i0 := by kernel_rfl
 i2 := by kernel_rfl
 i3 := by kernel_rfl
 i4 := by kernel_rfl
 i5 := by kernel_rfl
 i9 := by kernel_rfl
 i20 := by kernel_rfl
 i37 := by kernel_rfl
 i46 := by kernel_rfl
 i51 := by kernel_rfl
 i53 := by kernel_rfl
 i171 := by kernel_rfl
 i173 := by kernel_rfl
 i212 := by kernel_rfl
 i232 := by kernel_rfl
 i233 := by kernel_rfl
 m17 := by kernel_rfl
 m18 := by kernel_rfl
 m19 := by kernel_rfl }
open Go.RowKit Go.Sort Go.Lib in
/-- strconv.Itoa: "Itoa is equivalent to FormatInt(int64(i), 10).": i's DECIMAL NUMERAL ('Lib.itoa': a '-' where i is negative, then the digits), FOR EVERY int. The world behind the call: the world before it, new blocks behind the heap (the library's 'var a [24]byte'), draws. (LAID: no walk: one application.) -/
theorem Tryd.strconv_Itoa (n : Int) (h0 : -9223372036854775808 ≤ n) (h1 : n ≤ 9223372036854775807) (w : World) (htab : Lib.TabIs Tryd.prog w "internal/strconv.uint64pow10" .u64 Lib.pow10Tab) :
  Calls Tryd.prog 37 #[.int .i64 n] w fun e w' => e = .returned (.string ⟨(Lib.itoa n).toArray⟩) ∧ ∃ k os, w' = grow (w.drewN k) os := Any.strconv_Itoa Tryd.laysM171 n h0 h1 w htab
def Tryd.lays99_ren : Go.Shelf.Ren := ⟨fun | 99 => 26 | 206 => 52 | n => n, fun | 9 => 9 | 4 => 4 | 3 => 3 | n => n, fun | n => n⟩
theorem Tryd.lays99 : Go.Proofs.Lays.n99 Tryd.prog Tryd.lays99_ren := {
 mixed := by kernel_rfl
 f99 := Tryd.func26.trans (congrArg some (by kernel_rfl))
 f206 := Tryd.func52.trans (congrArg some (by kernel_rfl))
 t3 := Tryd.underlying3
 a3 := Tryd.isAgg3
 z3 := Tryd.sizeOf3
 v3 := Tryd.zeroValue3
 t4 := Tryd.underlying4
 a4 := Tryd.isAgg4
 z4 := Tryd.sizeOf4
 v4 := Tryd.zeroValue4
 t9 := Tryd.underlying9
 a9 := Tryd.isAgg9
 z9 := Tryd.sizeOf9
 v9 := Tryd.zeroValue9 }
open Go.RowKit Go.Lib in
/-- strings.HasPrefix: "HasPrefix reports whether the string s begins with prefix.": IT RETURNS 'Lib.hasPrefix s prefix'; the world is as it was. (LAID: no walk: one application.) -/
theorem Tryd.strings_HasPrefix (s p : ByteArray) (w : World) :
  Calls Tryd.prog 26 #[.string s, .string p] w fun e w' => e = .returned (.bool (Lib.hasPrefix s.data.toList p.data.toList)) ∧ w' = w := Any.strings_HasPrefix Tryd.lays99 s p w
def Tryd.lays105_ren : Go.Shelf.Ren := ⟨fun | 105 => 49 | 212 => 65 | 99 => 26 | 165 => 66 | 166 => 31 | 170 => 67 | 169 => 33 | 263 => 76 | 264 => 77 | 206 => 52 | 240 => 55 | 241 => 78 | 276 => 70 | 277 => 85 | n => n, fun | 9 => 9 | 3 => 3 | 4 => 4 | 20 => 20 | 0 => 0 | 46 => 123 | 109 => 124 | 5 => 5 | 72 => 75 | 76 => 78 | 51 => 143 | 146 => 144 | 53 => 146 | 148 => 147 | 70 => 72 | 37 => 73 | 75 => 77 | 127 => 112 | 164 => 129 | 80 => 82 | n => n, fun | n => n⟩
theorem Tryd.lays105 : Go.Proofs.Lays.n105 Tryd.prog Tryd.lays105_ren := {
 mixed := by kernel_rfl
 f99 := Tryd.func26.trans (congrArg some (by kernel_rfl))
 f105 := Tryd.func49.trans (congrArg some (by kernel_rfl))
 f165 := Tryd.func66.trans (congrArg some (by kernel_rfl))
 f166 := Tryd.func31.trans (congrArg some (by kernel_rfl))
 f169 := Tryd.func33.trans (congrArg some (by kernel_rfl))
 f170 := Tryd.func67.trans (congrArg some (by kernel_rfl))
 f206 := Tryd.func52.trans (congrArg some (by kernel_rfl))
 f212 := Tryd.func65.trans (congrArg some (by kernel_rfl))
 f240 := Tryd.func55.trans (congrArg some (by kernel_rfl))
 f241 := Tryd.func78.trans (congrArg some (by kernel_rfl))
 f263 := Tryd.func76.trans (congrArg some (by kernel_rfl))
 f264 := Tryd.func77.trans (congrArg some (by kernel_rfl))
 f276 := Tryd.func70.trans (congrArg some (by kernel_rfl))
 f277 := Tryd.func85.trans (congrArg some (by kernel_rfl))
 t0 := Tryd.underlying0
 a0 := Tryd.isAgg0
 z0 := Tryd.sizeOf0
 v0 := Tryd.zeroValue0
 t3 := Tryd.underlying3
 a3 := Tryd.isAgg3
 z3 := Tryd.sizeOf3
 v3 := Tryd.zeroValue3
 t4 := Tryd.underlying4
 a4 := Tryd.isAgg4
 z4 := Tryd.sizeOf4
 v4 := Tryd.zeroValue4
 t5 := Tryd.underlying5
 a5 := Tryd.isAgg5
 z5 := Tryd.sizeOf5
 v5 := Tryd.zeroValue5
 t9 := Tryd.underlying9
 a9 := Tryd.isAgg9
 z9 := Tryd.sizeOf9
 v9 := Tryd.zeroValue9
 t20 := Tryd.underlying20
 a20 := Tryd.isAgg20
 z20 := Tryd.sizeOf20
 v20 := Tryd.zeroValue20
 t37 := Tryd.underlying73
 a37 := Tryd.isAgg73
 z37 := Tryd.sizeOf73
 v37 := Tryd.zeroValue73
 t46 := Tryd.underlying123
 a46 := Tryd.isAgg123
 z46 := Tryd.sizeOf123
 v46 := Tryd.zeroValue123
 t51 := Tryd.underlying143
 a51 := Tryd.isAgg143
 z51 := Tryd.sizeOf143
 v51 := Tryd.zeroValue143
 t53 := Tryd.underlying146
 a53 := Tryd.isAgg146
 z53 := Tryd.sizeOf146
 v53 := Tryd.zeroValue146
 t70 := Tryd.underlying72
 a70 := Tryd.isAgg72
 z70 := Tryd.sizeOf72
 v70 := Tryd.zeroValue72
 t72 := Tryd.underlying75
 a72 := Tryd.isAgg75
 z72 := Tryd.sizeOf75
 v72 := Tryd.zeroValue75
 t75 := Tryd.underlying77
 a75 := Tryd.isAgg77
 z75 := Tryd.sizeOf77
 v75 := Tryd.zeroValue77
 t76 := Tryd.underlying78
 a76 := Tryd.isAgg78
 z76 := Tryd.sizeOf78
 v76 := Tryd.zeroValue78
 t109 := Tryd.underlying124
 a109 := Tryd.isAgg124
 z109 := Tryd.sizeOf124
 v109 := Tryd.zeroValue124
 t127 := Tryd.underlying112
 a127 := Tryd.isAgg112
 z127 := Tryd.sizeOf112
 v127 := Tryd.zeroValue112
 t146 := Tryd.underlying144
 a146 := Tryd.isAgg144
 z146 := Tryd.sizeOf144
 v146 := Tryd.zeroValue144
 t148 := Tryd.underlying147
 a148 := Tryd.isAgg147
 z148 := Tryd.sizeOf147
 v148 := Tryd.zeroValue147
 t164 := Tryd.underlying129
 a164 := Tryd.isAgg129
 z164 := Tryd.sizeOf129
 v164 := Tryd.zeroValue129 }
theorem Tryd.Builder_Extra_105 : Builder.Extra Tryd.prog Tryd.lays105_ren := {
 sizeBuilder := by kernel_rfl
 liesBuilder := by kernel_rfl
 t5 := Tryd.underlying5
 a5 := Tryd.isAgg5
 z5 := Tryd.sizeOf5
 v5 := Tryd.zeroValue5
 infoByte := by kernel_rfl
 cellsByte := by kernel_rfl
 sizeByte := by kernel_rfl
 neB5 := by decide }
open Go.RowKit Go.Lib in
/-- **strings.Repeat: count ≥ 0, the result within one allocation: count copies of s.** (LAID: no walk: one application.) -/
theorem Tryd.strings_Repeat (s : ByteArray) (c : Nat) (w : World) (hc : c ≤ 9223372036854775807) (hlen : s.size * c ≤ 140737488355328) :
  Calls Tryd.prog 49 #[.string s, .int .i64 c] w fun e w' => e = .returned (.string ⟨(Lib.repeatL s.data.toList c).toArray⟩) ∧ Below w.heap.size w w' := Any.strings_Repeat Tryd.lays105 Tryd.Builder_Extra_105 s c w hc hlen
def Tryd.lays193_ren : Go.Shelf.Ren := ⟨fun | 193 => 14 | n => n, fun | 31 => 27 | 9 => 9 | 4 => 4 | 3 => 3 | 0 => 0 | n => n, fun | n => n⟩
theorem Tryd.lays193 : Go.Proofs.Lays.n193 Tryd.prog Tryd.lays193_ren := {
 mixed := by kernel_rfl
 f193 := Tryd.func14.trans (congrArg some (by kernel_rfl))
 t0 := Tryd.underlying0
 a0 := Tryd.isAgg0
 z0 := Tryd.sizeOf0
 v0 := Tryd.zeroValue0
 t3 := Tryd.underlying3
 a3 := Tryd.isAgg3
 z3 := Tryd.sizeOf3
 v3 := Tryd.zeroValue3
 t4 := Tryd.underlying4
 a4 := Tryd.isAgg4
 z4 := Tryd.sizeOf4
 v4 := Tryd.zeroValue4
 t9 := Tryd.underlying9
 a9 := Tryd.isAgg9
 z9 := Tryd.sizeOf9
 v9 := Tryd.zeroValue9
 t31 := Tryd.underlying27
 a31 := Tryd.isAgg27
 z31 := Tryd.sizeOf27
 v31 := Tryd.zeroValue27 }
open Go.RowKit Go.Lib in
/-- slices.Equal at []string: "Equal reports whether two slices are equal: the same length and all elements equal. If the lengths are different, Equal returns false. Otherwise, the elements are compared in increasing index order, and the comparison stops at the first unequal pair. Empty and nil slices are considered equal.": IT RETURNS WHETHER THE TWO LISTS OF ELEMENTS ARE ONE; the world is as it was but for the count of draws (the test 's1[i] != s2[i]' has two reads, whose order the model draws, once a round). 'xs', 'ys': what the cells behind the two addresses hold (the spare capacity too, if you have it); 'xs.take n', 'ys.take m': the elements. THE TWO SLICES MAY OVERLAP. (LAID: no walk: one application.) -/
theorem Tryd.slices_Equal_string (b1 o1 n c b2 o2 m d : Nat) (xs ys : List ByteArray) (w : World) (hx : n ≤ xs.length) (hy : m ≤ ys.length) (hbig : n ≤ 9223372036854775807) (hbig2 : m ≤ 9223372036854775807) (hc1 : ∀ j, j < xs.length → w.cell? ⟨b1, o1 + j, none⟩ = some (.string (xs.getD j ByteArray.empty))) (hc2 : ∀ j, j < ys.length → w.cell? ⟨b2, o2 + j, none⟩ = some (.string (ys.getD j ByteArray.empty))) :
  Calls Tryd.prog 14 #[.slice (some ⟨b1, o1, none⟩) n c, .slice (some ⟨b2, o2, none⟩) m d] w fun e w' => e = .returned (.bool (decide (xs.take n = ys.take m))) ∧ ∃ q, w' = w.drewN q := Any.slices_Equal_string Tryd.lays193 b1 o1 n c b2 o2 m d xs ys w hx hy hbig hbig2 hc1 hc2
open Go.RowKit Go.Lib in
/-- The same where the first is of length 0 (a nil one too): no cell is asked for. (LAID: no walk: one application.) -/
theorem Tryd.slices_Equal_string_empty (a1 a2 : Option Addr) (c m d : Nat) (w : World) (hbig2 : m ≤ 9223372036854775807) :
  Calls Tryd.prog 14 #[.slice a1 0 c, .slice a2 m d] w fun e w' => e = .returned (.bool (decide (m = 0))) ∧ w' = w := Any.slices_Equal_string_empty Tryd.lays193 a1 a2 c m d w hbig2
def Tryd.laysNm216_ren : Go.Shelf.Ren := ⟨fun | 16 => 12 | n => n, fun | 24 => 27 | 9 => 9 | 4 => 4 | n => n, fun | n => n⟩
theorem Tryd.laysNm216 : Go.Proofs.Lays2.n16 Tryd.prog Tryd.laysNm216_ren := {
 mixed := by kernel_rfl
 f16 := Tryd.func12.trans (congrArg some (by kernel_rfl))
 t4 := Tryd.underlying4
 a4 := Tryd.isAgg4
 z4 := Tryd.sizeOf4
 v4 := Tryd.zeroValue4
 t9 := Tryd.underlying9
 a9 := Tryd.isAgg9
 z9 := Tryd.sizeOf9
 v9 := Tryd.zeroValue9
 t24 := Tryd.underlying27
 a24 := Tryd.isAgg27
 z24 := Tryd.sizeOf27
 v24 := Tryd.zeroValue27
 i9 := by kernel_rfl }
open Go.RowKit Go.Lib in
/-- slices.Clone at []string: "Clone returns a copy of the slice. The elements are copied using assignment, so this is a shallow clone. The result may have additional unused capacity. The result preserves the nilness of s.": OF A SLICE THAT IS NOT nil IT RETURNS A SLICE THAT IS NOT nil, OF THE SAME ELEMENTS, IN MEMORY OF THE CALL's OWN: in the how-to's words (6f): 'w'.ownsRow B e 1 v' n cells': v' begins at the head of a row among the blocks from B on (B: the heap's size at the call), not frozen, whose first cells are the elements · 'Below B w w'': below B all is as it was. The capacity is whatever the run-time gives. 'zs': what the cells behind the slice's address hold; 'zs.take n': its elements. (LAID: no walk: one application.) -/
theorem Tryd.slices_Clone_string (b off n c : Nat) (zs : List ByteArray) (w : World) (hz : n ≤ zs.length) (hbig : n * 16 ≤ 140737488355328) (hc : ∀ j, j < zs.length → w.cell? ⟨b, off + j, none⟩ = some (.string (zs.getD j ByteArray.empty))) :
  Calls Tryd.prog 12 #[.slice (some ⟨b, off, none⟩) n c] w fun e w' => ∃ v', e = .returned v' ∧ w'.ownsRow w.heap.size 9 1 v' n ((zs.take n).map (Value.string)) ∧ v' ≠ .slice none 0 0 ∧ Below w.heap.size w w' := Any.slices_Clone_string Tryd.laysNm216 b off n c zs w hz hbig hc
open Go.RowKit Go.Lib in
/-- The same at nil: nil comes back; the world is as it was. (LAID: no walk: one application.) -/
theorem Tryd.slices_Clone_string_nil (n c : Nat) (w : World) :
  Calls Tryd.prog 12 #[.slice none n c] w fun e w' => e = .returned (.slice none 0 0) ∧ w' = w := Any.slices_Clone_string_nil Tryd.laysNm216 n c w
open Go.RowKit Go.Lib in
/-- The same at a slice of length 0 that is not nil, WHATEVER ITS ADDRESS (no cell is asked for): a slice that is not nil and owns nothing comes back. (LAID: no walk: one application.) -/
theorem Tryd.slices_Clone_string_zero (a : Addr) (c : Nat) (w : World) :
  Calls Tryd.prog 12 #[.slice (some a) 0 c] w fun e w' => ∃ v', e = .returned v' ∧ w'.ownsRow w.heap.size 9 1 v' 0 [] ∧ v' ≠ .slice none 0 0 ∧ Below w.heap.size w w' := Any.slices_Clone_string_zero Tryd.laysNm216 a c w
open Go.RowKit Go.Lib in
theorem Tryd.slices_Equal_string_lens (a1 a2 : Option Addr) (n c m d : Nat) (w : World) (hnm : n ≠ m) :
  Calls Tryd.prog 14 #[.slice a1 n c, .slice a2 m d] w fun e w' => e = .returned (.bool false) ∧ w' = w := Any.slices_Equal_string_lens Tryd.lays193 a1 a2 n c m d w hnm
end Go.Proofs
namespace Go.Proofs.YtghikgjknhjjgaaDoor
set_option maxRecDepth 100000
open Go.RowKit Go.Shelf
attribute [local go_sem] Oper.semAt_some
theorem KeepT.cell {T : Nat → Prop} {W W' : World} (h : KeepT T W W') {p : Addr} {v : Value} (hp : T p.block) (hc : W.cell? p = some v) : W'.cell? p = some v := by
 obtain ⟨o, ho, _⟩ := cells_of_cell hc
 exact (World.cell?_of_block ((h _ o hp ho).trans ho.symm)).trans hc
/-- the map of the last writes -/
def mapD (l : List PW) : DataW Empty := l.foldl (fun D x => D.put (.int .i64 x.page) (.lit (.string x.data.data.toList))) (.map [])
theorem mapD_snoc (l : List PW) (x : PW) : mapD (l ++ [x]) = (mapD l).put (.int .i64 x.page) (.lit (.string x.data.data.toList)) := by simp [mapD]
theorem isKey_int (i : Int) : WideAt.IsKeyLit (.int .i64 i) := by simp [WideAt.IsKeyLit]
theorem mapD_fold (i : Int) : ∀ (l : List PW) (D : DataW Empty) (s : ByteArray), Maps.IsMap D → D.atKey (.int .i64 i) (.lit (.string [])) = .lit (.string s.data.toList) →
  Maps.has (l.foldl (fun D x => D.put (.int .i64 x.page) (.lit (.string x.data.data.toList))) D) (.int .i64 i) = (Maps.has D (.int .i64 i) || l.any (fun x => x.page == i)) ∧
  (l.foldl (fun D x => D.put (.int .i64 x.page) (.lit (.string x.data.data.toList))) D).atKey (.int .i64 i) (.lit (.string [])) = .lit (.string (lastW i l s).data.toList)
 | [], D, s, hD, h => ⟨by simp, h⟩
 | x :: l, D, s, hD, h => by
  rw [List.foldl_cons, lastW]
  by_cases e : x.page = i
  ·
   rw [if_pos e]
   obtain ⟨h1, h2⟩ := mapD_fold i l (D.put (.int .i64 x.page) (.lit (.string x.data.data.toList))) x.data (hD.put _ _) (by rw [e]; exact Maps.atKey_put_same hD (isKey_int i) _ _)
   refine ⟨?_, h2⟩
   rw [h1, e, Maps.has_put_same hD (isKey_int i)]
   simp [e]
  ·
   rw [if_neg e]
   have hne : Lit.int .i64 i ≠ .int .i64 x.page := fun h => by injection h with _ h; exact e h.symm
   obtain ⟨h1, h2⟩ := mapD_fold i l (D.put (.int .i64 x.page) (.lit (.string x.data.data.toList))) s (hD.put _ _) (by rw [Maps.atKey_put_other hne]; exact h)
   refine ⟨?_, h2⟩
   rw [h1, Maps.has_put_other hne, List.any_cons, show (x.page == i) = false by simpa using e, Bool.false_or]
theorem mapD_has (i : Int) (l : List PW) : Maps.has (mapD l) (.int .i64 i) = l.any (fun x => x.page == i) := by
 exact (mapD_fold i l (.map []) ByteArray.empty Maps.isMap_empty rfl).1
theorem mapD_at (i : Int) (l : List PW) : (mapD l).atKey (.int .i64 i) (.lit (.string [])) = .lit (.string (lastW i l ByteArray.empty).data.toList) :=
 (mapD_fold i l (.map []) ByteArray.empty Maps.isMap_empty rfl).2
theorem lastW_any {i : Int} {l : List PW} : ∀ (s t : ByteArray), l.any (fun x => x.page == i) = true → lastW i l s = lastW i l t := by
 induction l with
 | nil => intro s t h; simp at h
 | cons x l ih =>
  intro s t h
  rw [lastW, lastW]
  by_cases e : x.page = i
  ·
   rw [if_pos e, if_pos e]
  ·
   rw [if_neg e, if_neg e]
   exact ih s t (by simpa [e] using h)
theorem lastW_notany {i : Int} {l : List PW} : ∀ (s : ByteArray), l.any (fun x => x.page == i) = false → lastW i l s = s := by
 induction l with
 | nil => intro s h; rfl
 | cons x l ih =>
  intro s h
  have h' : ¬ x.page = i ∧ l.any (fun x => x.page == i) = false := by simpa using h
  rw [lastW, if_neg h'.1]
  exact ih s h'.2
/-- 'v, ok := m[k]' at string elements where both are known -/
theorem wpListIn_lookup_str {F : Fence} {nF : Nat} {P : Program} (w : World) {ops : Array Oper} {rest : List Oper} {o : Oper} {a : Act} {Q : Exit → Act → World → Prop}
  (hg : o.guard = none) (m x : Operand) (t : TypeId) (hop : o.op = Op.lookup t m x true)
  (k e : TypeId) (K : Maps.Keyed P k) (ht : P.underlying t = some (.map k e)) (he : P.underlying e = some .string) (hz : (zeroValue e).run P w = .ok (.string ⟨#[]⟩) w) (b n : Nat) (D : DataW Empty)
  (hm : a.eval m = .map (some b)) (hown : w.ownsMap P k (plainElem P e) b n D) (key : Value) (kl : Lit) (hx : a.eval x = key) (hkey : keyOf P k key = some kl)
  (s : ByteArray) (hat : D.atKey kl (.lit (.string [])) = .lit (.string s.data.toList)) (has : Bool) (hhas : Maps.has D kl = has)
  (hK : wpListIn F nF P ops Q rest (a.put o.dst (.tuple #[.string s, .bool has])) w) :
  wpListIn F nF P ops Q (o :: rest) a w :=
 wpListIn_lookup_own_ok w hg m x t hop k e K ht (plainElem P e) hz (.lit (.string [])) [] (plainElem_string he (s := ⟨#[]⟩) (by decide)) b n D hm hown key kl hx hkey (fun v ps hv => by
  obtain ⟨s', rfl, hc, _⟩ := plainElem_string_inv he hv
  have h1 : s'.data.toList = s.data.toList := by
   have := congrArg Prod.fst hc
   rw [hat] at this
   simpa using this.symm
  have h2 : s' = s := by
   cases s'; cases s; simp at h1; rw [h1]
  rw [h2, hhas]; exact hK)
def firsts (N k : Nat) : List (Fin N) := (List.finRange N).take k
theorem firsts_succ {N k : Nat} (h : k < N) : firsts N (k + 1) = firsts N k ++ [⟨k, h⟩] := by
 unfold firsts
 rw [List.take_add_one]
 simp [h]
theorem firsts_len {N k : Nat} (h : k ≤ N) : (firsts N k).length = k := by simp [firsts]; omega
theorem firsts_all (N : Nat) : firsts N N = List.finRange N := by unfold firsts; rw [List.take_of_length_le (by simp)]
set_option maxRecDepth 100000 in
set_option maxHeartbeats 4000000 in
theorem cont_runs (F : Fence) (n : Nat) (hF : F.fn 74) (hro : F.round = none) (hn : 1 ≤ n) (Bs : Nat) (d : Dsk) (po co : Option Addr) (pc cc : Nat) {S : Nat → Prop} (T : Nat → Prop) (W : World)
  (hok : DskOk d po co pc cc) (hval : ∀ x ∈ d.cache, 0 ≤ x.page ∧ x.page < d.pages.length)
  (hTS : ∀ b, S b → T b) (hTW : ∀ b, W.heap.size ≤ b → T b)
  (hp : StrsAt S W po d.pages) (hc : PWsAt S W co d.cache) (hB : Bx W Bs #[.int .i64 d.size, .slice po d.pages.length pc, .slice co d.cache.length cc, .int .i64 d.left] 30) :
  SeqRun F n Tryd.prog 74 #[.pointer (some ⟨Bs, 0, none⟩)] (fun x : Fin d.pages.length => #[Value.int .i64 (x.1 : Int), .string (contentD d x.1 x.2)]) T (fun ys => ys = List.finRange d.pages.length) d.pages.length W := by
 intro l J hJ hY h0
 have ok1 := hok.pages
 have ok2 := hok.cache
 have hmm := @run_makeMap Tryd.prog
 have lB := hB.lt
 refine callsIn_of_wp Tryd.func74 rfl hF ?_ hro
 simp only [Tryd.ntmps74, List.size_toArray, List.length_cons, List.length_nil, Nat.reduceAdd, Nat.reduceSub, Array.replicate_succ, Array.replicate_zero, List.push_toArray, List.append_toArray, List.nil_append, List.cons_append]
 have hB0 := hB.alloc (.map #[] 0)
 have c2 := hB0.cell 2
 simp at c2
 gi_wp2
 gi_loopw [5, 14] (fun _ i wr => ∃ k : Nat, k ≤ d.cache.length ∧ i = .int .i64 k ∧ W.grownBy wr none ∧ wr.ownsMap Tryd.prog 3 (plainElem Tryd.prog 9) W.heap.size k (mapD (d.cache.take k)))
  (fun _ i _ => d.cache.length - (intOf i).toNat)
 case atStart => exact ⟨0, Nat.zero_le _, rfl, World.grownBy_alloc W _ none, by rw [List.take_zero]; exact World.ownsMap_made W Tryd.prog 3 (plainElem Tryd.prog 9)⟩
 case round =>
  obtain ⟨k, hk, rfl, hg, hown⟩ := hrel
  clear c2 hB0
  have hBr : Bx wr Bs #[.int .i64 d.size, .slice po d.pages.length pc, .slice co d.cache.length cc, .int .i64 d.left] 30 := hB.grown hg (by simp)
  by_cases hlt : k < d.cache.length
  ·
   obtain ⟨b, off, rfl, hc1, hc2, hsb⟩ := hc k hlt
   have hcx : wr.cell? ⟨b, off + k * 2, none⟩ = some (.int .i64 d.cache[k].page) := grown_cell hg hc1 (by simp)
   have hcy : wr.cell? ⟨b, off + k * 2 + 1, none⟩ = some (.string d.cache[k].data) := grown_cell hg hc2 (by simp)
   obtain ⟨hv1, hv2⟩ := hval d.cache[k] (List.getElem_mem hlt)
   have hkey := Maps.keyOf_int_mk Tryd.underlying3 (q := .i64) (a := d.cache[k].page) (by simp [Lit.wf, IntKind.min, IntKind.max, IntKind.signed, IntKind.bits]; omega)
   have hstr := plainElem_string (H := Empty) Tryd.underlying9 (s := d.cache[k].data) (by have := hok.datas d.cache[k] (List.getElem_mem hlt); simp [maxLen]; omega)
   have hown' := hown.alloc (.cells #[.int .i64 d.cache[k].page, .string d.cache[k].data] 84)
   clear hc1 hc2
   gi_wp2_with (gi_at_mapUpdate; refine wpListIn_mapUpdate_own _ rfl _ _ _ 140 rfl 3 9 (Maps.int_keyed Tryd.underlying3) Tryd.underlying140 _ W.heap.size k _ rfl hown' (by simp [maxLen]; omega) _ _ _ rfl rfl hkey _ [] hstr ?_; intro w1 hown1 hgrow1)
   refine ⟨⟨k + 1, by omega, by go_num, ?_, ?_⟩, ?_⟩
   ·
    have h1 : W.grownBy (wr.alloc (.cells #[.int .i64 d.cache[k].page, .string d.cache[k].data] 84)) none := hg.trans (World.grownBy_alloc wr _ none)
    exact ⟨hgrow1.os.trans h1.os, hgrow1.tape.trans h1.tape, hgrow1.output.trans h1.output, Nat.le_trans h1.size hgrow1.size, fun j hj _ => (hgrow1.block j (Nat.lt_of_lt_of_le hj h1.size) (by simp; omega)).trans (h1.block j hj (by simp))⟩
   ·
    rw [List.take_add_one, List.getElem?_eq_getElem hlt, Option.toList_some, mapD_snoc]; exact hown1
   ·
    simp [intOf]; omega
  ·
   obtain rfl : k = d.cache.length := by omega
   rw [List.take_length] at hown
   obtain ⟨Wm, hWm⟩ : ∃ Wm, Wm = wr := ⟨_, rfl⟩
   subst hWm
   have c1 := hBr.cell 1
   simp at c1
   gi_wp2
   gi_loopw [6, 7, 8, 9, 27] (fun _ _ _ _ i w2 => ∃ k : Nat, k ≤ d.pages.length ∧ i = .int .i64 k ∧ J (firsts _ k) w2 ∧ KeepT T Wm w2)
    (fun _ _ _ _ i _ => d.pages.length - (intOf i).toNat)
   case atStart => exact ⟨0, Nat.zero_le _, rfl, hJ _ _ _ h0 hg, KeepT.refl _ _⟩
   case round =>
    obtain ⟨k, hk, rfl, hJk, hKT⟩ := hrel
    by_cases hlt : k < d.pages.length
    ·
     obtain ⟨b, off, rfl, hc1, hsb⟩ := hp k hlt
     have hcx : wr.cell? ⟨b, off + k, none⟩ = some (.string d.pages[k]) := hKT.cell (hTS b hsb) (grown_cell hg hc1 (by simp))
     have hown2 : wr.ownsMap Tryd.prog 3 (plainElem Tryd.prog 9) W.heap.size d.cache.length (mapD d.cache) := by
      obtain ⟨es, clock, hb, rest⟩ := hown
      exact ⟨es, clock, hKT _ _ (hTW _ (Nat.le_refl _)) hb, rest⟩
     have hkey := Maps.keyOf_int_mk Tryd.underlying3 (q := .i64) (a := (k : Int)) (by simp [Lit.wf, IntKind.min, IntKind.max, IntKind.signed, IntKind.bits]; omega)
     have hcont : contentD d k hlt = lastW k d.cache d.pages[k] := rfl
     obtain ⟨fn, tmps, assign, body, hy, hR⟩ := hY _ ⟨k, hlt⟩ wr hJk (by rw [firsts_len hk]; exact hlt)
     dsimp only at hy
     clear hc1
     cases hh : d.cache.any (fun x => x.page == (k : Int))
     ·
      have hlw := lastW_notany d.pages[k] hh
      rw [hcont, hlw] at hy
      gi_wp2_with (gi_at_lookup; refine wpListIn_lookup_str _ rfl _ _ 140 rfl 3 9 (Maps.int_keyed Tryd.underlying3) Tryd.underlying140 Tryd.underlying9 (Tryd.zeroValue9 _) W.heap.size _ _ rfl hown2 _ _ rfl hkey _ (mapD_at _ _) false ((mapD_has _ _).trans hh) ?_)
      refine hR.mono ?_
      rintro e W3 ⟨rfl, hJ3, hk3⟩
      gi_wp2
      go_roundw
      case rel => exact ⟨k + 1, by omega, by go_num, by rw [firsts_succ hlt]; exact hJ3, hKT.trans hk3⟩
      case measure => simp [intOf]; omega
     ·
      have hlw := lastW_any d.pages[k] ByteArray.empty hh
      rw [hcont, hlw] at hy
      gi_wp2_with (gi_at_lookup; refine wpListIn_lookup_str _ rfl _ _ 140 rfl 3 9 (Maps.int_keyed Tryd.underlying3) Tryd.underlying140 Tryd.underlying9 (Tryd.zeroValue9 _) W.heap.size _ _ rfl hown2 _ _ rfl hkey _ (mapD_at _ _) true ((mapD_has _ _).trans hh) ?_)
      refine hR.mono ?_
      rintro e W3 ⟨rfl, hJ3, hk3⟩
      gi_wp2
      go_roundw
      case rel => exact ⟨k + 1, by omega, by go_num, by rw [firsts_succ hlt]; exact hJ3, hKT.trans hk3⟩
      case measure => simp [intOf]; omega
    ·
     obtain rfl : k = d.pages.length := by omega
     gi_wp2
     go_end0
     exact ⟨⟨_, rfl⟩, _, rfl, by rw [← firsts_all]; exact hJk⟩
set_option maxHeartbeats 1000000 in
theorem cont_in (F : Fence) (n : Nat) (hF : F.fn 61) (hro : F.round = none) (v0 v1 v2 v3 : Value) (w : World) :
  CallsIn F n Tryd.prog 61 #[.agg #[v0, v1, v2, v3]] w fun e w' => e = .returned (.func (.func 74) #[] #[.pointer (some ⟨w.heap.size, 0, none⟩)]) ∧ w' = w.alloc (.cells #[v0, v1, v2, v3] 30) := by
 refine callsIn_of_wp Tryd.func61 rfl hF ?_ hro
 simp only [Tryd.ntmps61, List.size_toArray, List.length_cons, List.length_nil, Nat.reduceAdd, Nat.reduceSub, Array.replicate_succ, Array.replicate_zero, List.push_toArray, List.append_toArray, List.nil_append, List.cons_append]
 gi_wp2
 go_ret
 exact ⟨rfl, rfl⟩
end Go.Proofs.YtghikgjknhjjgaaDoor
namespace Go.Proofs.YtghikgjknhjjgaaDoor
set_option maxRecDepth 100000
open Go.RowKit Go.Shelf
attribute [local go_sem] Oper.semAt_some
/-- what has come when k rounds are over -/
def upto {α : Type} (f : Nat → α) (k : Nat) : List α := (List.range k).map f
theorem upto_succ {α : Type} (f : Nat → α) (k : Nat) : upto f (k + 1) = upto f k ++ [f k] := by simp [upto, List.range_succ]
theorem upto_length {α : Type} (f : Nat → α) (k : Nat) : (upto f k).length = k := by simp [upto]
/-- the j-th pair that Backward yields -/
def bkF (l : List PW) (j : Nat) : Int × PW := ((l.length : Int) - 1 - j, l[l.length - 1 - j]?.getD ⟨0, ByteArray.empty⟩)
set_option maxRecDepth 100000 in
set_option maxHeartbeats 2000000 in
theorem back1_in (F : Fence) (n : Nat) (hF : F.fn 69) (hro : F.round = none) (hn : 1 ≤ n) (l Bs n₀ cap : Nat) (o : Option Addr) (zs : List PW) (hreach : zs.length ≤ 140737488351232) {S : Nat → Prop} (hS : ∀ b, S b → b < n₀) (J Jx : List (Int × PW) → World → Prop)
  (hY : ∀ pre x W, J pre W → pre.length < zs.length → YieldAt F (n - 1) Tryd.prog l #[.int .i64 x.1, .agg #[.int .i64 x.2.page, .string x.2.data]] W fun e W' =>
   (e = .returned (.bool true) ∧ J (pre ++ [x]) W' ∧ Below n₀ W W') ∨ (e = .returned (.bool false) ∧ Jx (pre ++ [x]) W'))
  (W : World) (hBl : Bs < n₀) (hBs : W.cell? ⟨Bs, 0, none⟩ = some (.slice o zs.length cap))
  (hc : PWsAt S W o zs) (h0 : J [] W) :
  CallsIn F n Tryd.prog 69 #[.func (.yield l) #[] #[], .pointer (some ⟨Bs, 0, none⟩)] W fun e W' => (∃ v, e = .returned v) ∧
   ((∃ ys, ys = upto (bkF zs) zs.length ∧ J ys W') ∨ (∃ pre, (∃ k, k ≤ zs.length ∧ pre = upto (bkF zs) k) ∧ Jx pre W')) := by
 refine callsIn_of_wp Tryd.func69 rfl hF ?_ hro
 simp only [Tryd.ntmps69, List.size_toArray, List.length_cons, List.length_nil, Nat.reduceAdd, Nat.reduceSub, Array.replicate_succ, Array.replicate_zero, List.push_toArray, List.append_toArray, List.nil_append, List.cons_append]
 gi_wp2
 gi_loopw [3] (fun i wr => ∃ k : Nat, k ≤ zs.length ∧ i = .int .i64 ((zs.length : Int) - 1 - k) ∧ J (upto (bkF zs) k) wr ∧ Below n₀ W wr)
  (fun i _ => (intOf i + 1).toNat)
 case atStart => exact ⟨0, Nat.zero_le _, by go_num, h0, Below.refl _ _⟩
 case round =>
  obtain ⟨k, hk, rfl, hJs, hnx⟩ := hrel
  by_cases hlt : k < zs.length
  ·
   have hBs' : wr.cell? ⟨Bs, 0, none⟩ = some (.slice o zs.length cap) := (hnx.cell (p := ⟨Bs, 0, none⟩) hBl).trans hBs
   obtain ⟨m, hm⟩ : ∃ m : Nat, m = zs.length - 1 - k := ⟨_, rfl⟩
   have hmz : m < zs.length := by omega
   have hmi : (zs.length : Int) - 1 - k = m := by omega
   obtain ⟨b, off, rfl, hc1, hc2, hb⟩ := hc m hmz
   have hb := hS b hb
   have hx : bkF zs k = ((m : Int), zs[m]) := by rw [bkF, ← hm, hmi, List.getElem?_eq_getElem hmz]; rfl
   have hJs' := hJs
   obtain ⟨fn, tmps, assign, body, hy, hR⟩ := hY _ (bkF zs k) wr hJs (by rw [upto_length]; exact hlt)
   rw [hx] at hy hR
   have hx := Lib.hid hx
   dsimp only at hy
   have hcx : wr.cell? ⟨b, off + m * 2, none⟩ = some (.int .i64 zs[m].page) := (hnx.cell (p := ⟨b, off + m * 2, none⟩) hb).trans hc1
   have hcy : wr.cell? ⟨b, off + m * 2 + 1, none⟩ = some (.string zs[m].data) := (hnx.cell (p := ⟨b, off + m * 2 + 1, none⟩) hb).trans hc2
   rw [hmi]
   have hm' := Lib.hid (And.intro hm hmi)
   clear hm hmi hc1 hc2
   gi_wp2
   refine hR.mono ?_
   rintro e W3 (⟨rfl, hJ3, hk3⟩ | ⟨rfl, hJx3⟩)
   ·
    gi_wp2
    go_roundw
    case rel => exact ⟨k + 1, by omega, by have := hm'.out.2; go_num, by rw [upto_succ, hx.out]; exact hJ3, hnx.trans hk3⟩
    case measure => have := hm'.out.2; simp [intOf] <;> (try omega)
   ·
    gi_wp2
    refine bodyPost_ret (results_none rfl _ _ _) rfl ?_
    exact ⟨⟨_, rfl⟩, .inr ⟨_, ⟨k + 1, by omega, by rw [upto_succ, hx.out]⟩, hJx3⟩⟩
  ·
   obtain rfl : k = zs.length := by omega
   gi_wp2
   go_end0
   exact ⟨⟨_, rfl⟩, .inl ⟨_, rfl, hJs⟩⟩
set_option maxHeartbeats 1000000 in
theorem back_in (F : Fence) (n : Nat) (hF : F.fn 51) (hro : F.round = none) (a : Option Addr) (len cap : Nat) (w : World) :
  CallsIn F n Tryd.prog 51 #[.slice a len cap] w fun e w' => e = .returned (.func (.func 69) #[] #[.pointer (some ⟨w.heap.size, 0, none⟩)]) ∧ w' = w.alloc (.cells #[.slice a len cap] 28) := by
 refine callsIn_of_wp Tryd.func51 rfl hF ?_ hro
 simp only [Tryd.ntmps51, List.size_toArray, List.length_cons, List.length_nil, Nat.reduceAdd, Nat.reduceSub, Array.replicate_succ, Array.replicate_zero, List.push_toArray, List.append_toArray, List.nil_append, List.cons_append]
 gi_wp2
 go_ret
 exact ⟨rfl, rfl⟩
theorem back_stops (F : Fence) (n : Nat) (hF : F.fn 69) (hro : F.round = none) (hn : 1 ≤ n) (Bs n₀ cap : Nat) (o : Option Addr) (zs : List PW) (hreach : zs.length ≤ 140737488351232) {S : Nat → Prop} (hS : ∀ b, S b → b < n₀) (w : World) (hBs : Bs < n₀) (hn₀ : n₀ ≤ w.heap.size)
  (hBc : w.cell? ⟨Bs, 0, none⟩ = some (.slice o zs.length cap)) (hc : PWsAt S w o zs) :
  SeqStopsK F n Tryd.prog 69 #[.pointer (some ⟨Bs, 0, none⟩)] (fun x : Int × PW => #[Value.int .i64 x.1, .agg #[.int .i64 x.2.page, .string x.2.data]]) (Below n₀) (fun ys => ys = upto (bkF zs) zs.length)
   (fun pre => ∃ k, k ≤ zs.length ∧ pre = upto (bkF zs) k) zs.length w := fun l J Jx W hW _ _ hY h0 =>
 back1_in F n hF hro hn l Bs n₀ cap o zs hreach hS J Jx hY W hBs ((hW.cell (p := ⟨Bs, 0, none⟩) (show Bs < w.heap.size by omega)).trans hBc) (hc.below hW) h0
end Go.Proofs.YtghikgjknhjjgaaDoor
namespace Go.Proofs.YtghikgjknhjjgaaDoor
set_option maxRecDepth 100000
open Go.RowKit
set_option maxHeartbeats 400000 in
theorem ref40_ranged (p s : Int) (w : World) : Calls Tryd.prog 46 #[.int .i64 p, .int .i64 s] w fun e w' =>
  e = .returned (.bool (rangedB p s)) ∧ w = w' := by
 go_enter Tryd.func46, Tryd.ntmps46
 go_wp2
 all_goals go_ret
 all_goals simp [*, rangedB]
 all_goals omega
theorem ref40_ranged_b {b : Bool} (p s : Int) (w : World) (hb : rangedB p s = b) : Calls Tryd.prog 46 #[.int .i64 p, .int .i64 s] w fun e w' =>
  e = .returned (.bool b) ∧ w = w' := by rw [← hb]; exact ref40_ranged p s w
set_option maxHeartbeats 1000000 in
theorem ref40_check0 (size left : Int) (po co : Option Addr) (pc cc : Nat) (pages : List ByteArray) (cache : List PW) (w : World) {S : Nat → Prop}
  (hp : StrsAt S w po pages) (hc : PWsAt S w co cache)
  (hpl : pages.length ≤ 140737488351232) (hcl : cache.length ≤ 140737488351232) :
  Calls Tryd.prog 22 #[.agg #[.int .i64 size, .slice po pages.length pc, .slice co cache.length cc, .int .i64 left]] w fun e w' =>
  e = .returned (.int .i64 (chk ⟨size, pages, cache, left⟩)) ∧ Below w.heap.size w w' := by
 cases hr : rangedB pages.length size
 ·
  go_enter Tryd.func22, Tryd.ntmps22
  go_wp2_with (go_at_call 46; refine (ref40_ranged_b _ _ _ hr).mono ?_; rintro e w' ⟨rfl, rfl⟩)
  go_ret
  exact ⟨by simp [chk, hr], (Below.refl _ _).alloc (Nat.le_refl _) _⟩
 ·
  go_enter Tryd.func22, Tryd.ntmps22
  go_wp2_with (go_at_call 46; refine (ref40_ranged_b _ _ _ hr).mono ?_; rintro e w' ⟨rfl, rfl⟩)
  go_loopw [3] (fun i wr => ∃ k : Nat, k ≤ pages.length ∧ i = .int .i64 k ∧ chkP size (pages.drop k) = chkP size pages ∧ Below w.heap.size w wr ∧ w.heap.size < wr.heap.size ∧ BoxD wr w.heap.size size left po co pages.length pc cache.length cc) (fun i _ => pages.length - (intOf i).toNat)
  case atStart => exact ⟨0, Nat.zero_le _, rfl, rfl, (Below.refl _ _).alloc (Nat.le_refl _) _, by simp, by simp, by simp, by simp, by simp⟩
  case round =>
   obtain ⟨k, hk, rfl, hq0, hb, hz, hB⟩ := hrel
   have hq := Lib.hid hq0; clear hq0
   have hB0 := Lib.hid hB
   obtain ⟨h0, h1, h2, h3⟩ := hB
   by_cases hlt : k < pages.length
   ·
    obtain ⟨b, off, rfl, hcell0, _⟩ := hp k hlt
    have hcell : wr.cell? ⟨b, off + k, none⟩ = some (.string pages[k]) := by rw [hb.cell (World.block_lt_of_cell? w _ hcell0)]; exact hcell0
    clear hcell0
    cases hs : ((pages[k].size : Int) != size)
    ·
     go_wp2
     go_quiet (fail)
     go_wp2
     go_roundw
     case rel => exact ⟨k + 1, by omega, by go_num, by rw [← chkP_step hlt hs]; exact hq.out, Below.drewN hb _, by simpa using hz, h0, h1, h2, h3⟩
     case measure => simp [intOf]; omega
    ·
     go_wp2
     go_quiet (fail)
     go_wp2
     go_ret
     exact ⟨by simp [chk, hr, ← hq.out, chkP_bad hlt hs], Below.drewN hb _⟩
   ·
    obtain rfl : k = pages.length := by omega
    have hP : chkP size pages = true := by rw [← hq.out]; simp [chkP]
    clear hlt hk
    go_wp2
    go_loopw [4] (fun i wr => ∃ k : Nat, k ≤ cache.length ∧ i = .int .i64 k ∧ chkC pages.length size (cache.drop k) = chkC pages.length size cache ∧ Below w.heap.size w wr ∧ w.heap.size < wr.heap.size ∧ BoxD wr w.heap.size size left po co pages.length pc cache.length cc) (fun i _ => cache.length - (intOf i).toNat)
    case atStart => exact ⟨0, Nat.zero_le _, rfl, rfl, hb, hz, hB0.out⟩
    case round =>
     clear hB0 h0 h1 h2 h3 hb hz
     obtain ⟨k, hk, rfl, hq0, hb, hz, hB⟩ := hrel
     have hq := Lib.hid hq0; clear hq0
     obtain ⟨h0, h1, h2, h3⟩ := hB
     by_cases hlt : k < cache.length
     ·
      obtain ⟨b, off, rfl, hcell0, hcell1, _⟩ := hc k hlt
      have hcell : wr.cell? ⟨b, off + k * 2, none⟩ = some (.int .i64 cache[k].page) := by rw [hb.cell (World.block_lt_of_cell? w _ hcell0)]; exact hcell0
      have hcell' : wr.cell? ⟨b, off + k * 2 + 1, none⟩ = some (.string cache[k].data) := by rw [hb.cell (World.block_lt_of_cell? w _ hcell1)]; exact hcell1
      clear hcell0 hcell1
      cases g1 : decide (cache[k].page < 0)
      ·
       cases g2 : decide ((pages.length : Int) ≤ cache[k].page)
       ·
        cases g3 : ((cache[k].data.size : Int) != size)
        ·
         go_wp2
         go_quiet (fail)
         go_wp2
         go_quiet (fail)
         go_wp2
         go_roundw
         case rel => exact ⟨k + 1, by omega, by go_num, by rw [← chkC_step hlt g1 g2 g3]; exact hq.out, by first | exact Below.drewN hb _ | exact Below.drewN (Below.drewN hb _) _, by simpa using hz, h0, h1, h2, h3⟩
         case measure => simp [intOf]; omega
        ·
         go_wp2
         go_quiet (fail)
         go_wp2
         go_quiet (fail)
         go_wp2
         go_ret
         exact ⟨by simp [chk, hr, hP, ← hq.out, chkC_bad3 hlt g1 g2 g3], by first | exact Below.drewN hb _ | exact Below.drewN (Below.drewN hb _) _⟩
       ·
        go_wp2
        go_quiet (fail)
        go_wp2
        go_ret
        exact ⟨by simp [chk, hr, hP, ← hq.out, chkC_bad2 hlt g2], Below.drewN hb _⟩
      ·
       go_wp2
       go_quiet (fail)
       go_wp2
       go_ret
       exact ⟨by simp [chk, hr, hP, ← hq.out, chkC_bad1 hlt g1], Below.drewN hb _⟩
     ·
      obtain rfl : k = cache.length := by omega
      have hC : chkC pages.length size cache = 0 := by rw [← hq.out]; simp [chkC]
      cases g : decide (left < -1)
      all_goals
       go_wp2
       go_ret
       exact ⟨by simp at g; simp [chk, hr, hP, hC, g]; try omega, hb⟩
theorem rangedB_tests {p s : Int} {b : Bool} (h : rangedB p s = b) : (decide (p < 1) = false ∧ decide (2000 < p) = false ∧ decide (s < 1) = false ∧ decide (512 < s) = false ∧ b = true) ∨ (decide (p < 1) = true ∧ b = false) ∨ (decide (p < 1) = false ∧ decide (2000 < p) = true ∧ b = false) ∨ (decide (p < 1) = false ∧ decide (2000 < p) = false ∧ decide (s < 1) = true ∧ b = false) ∨ (decide (p < 1) = false ∧ decide (2000 < p) = false ∧ decide (s < 1) = false ∧ decide (512 < s) = true ∧ b = false) := by
 subst h
 by_cases h1 : p < 1 <;> by_cases h2 : 2000 < p <;> by_cases h3 : s < 1 <;> by_cases h4 : 512 < s <;> simp [rangedB, h1, h2, h3, h4] <;> omega
set_option maxHeartbeats 1000000 in
theorem disk_check0 (size left : Int) (po co : Option Addr) (pc cc : Nat) (pages : List ByteArray) (cache : List PW) (w : World) {S : Nat → Prop}
  (hp : StrsAt S w po pages) (hc : PWsAt S w co cache)
  (hpl : pages.length ≤ 140737488351232) (hcl : cache.length ≤ 140737488351232) :
  Calls Tryd.prog 34 #[.agg #[.int .i64 size, .slice po pages.length pc, .slice co cache.length cc, .int .i64 left]] w fun e w' =>
  e = .returned (.int .i64 (chk ⟨size, pages, cache, left⟩)) ∧ Below w.heap.size w w' := by
 have hbw : ∀ o, Below w.heap.size w (w.alloc o) := fun o => (Below.refl _ _).alloc (Nat.le_refl _) _
 cases hr : rangedB pages.length size
 ·
  rcases rangedB_tests hr with ⟨_, _, _, _, h⟩ | ⟨a1, _⟩ | ⟨a1, a2, _⟩ | ⟨a1, a2, a3, _⟩ | ⟨a1, a2, a3, a4, _⟩
  ·
   cases h
  all_goals
   go_enter Tryd.func34, Tryd.ntmps34
   go_wp2
   go_ret
   exact ⟨by simp [chk, hr], hbw _⟩
 ·
  rcases rangedB_tests hr with ⟨a1, a2, a3, a4, h⟩ | ⟨_, h⟩ | ⟨_, _, h⟩ | ⟨_, _, _, h⟩ | ⟨_, _, _, _, h⟩
  rotate_left
  ·
   cases h
  ·
   cases h
  ·
   cases h
  ·
   cases h
  clear h
  go_enter Tryd.func34, Tryd.ntmps34
  go_wp2
  clear a1 a2 a3 a4
  go_loopw [4, 30] (fun _ i wr => ∃ k : Nat, k ≤ pages.length ∧ i = .int .i64 k ∧ chkP size (pages.drop k) = chkP size pages ∧ Below w.heap.size w wr ∧ w.heap.size < wr.heap.size ∧ BoxD wr w.heap.size size left po co pages.length pc cache.length cc) (fun _ i _ => pages.length - (intOf i).toNat)
  case atStart => exact ⟨0, Nat.zero_le _, rfl, rfl, hbw _, by simp, by simp, by simp, by simp, by simp⟩
  case round =>
   obtain ⟨k, hk, rfl, hq0, hb, hz, hB⟩ := hrel
   have hq := Lib.hid hq0; clear hq0
   have hB0 := Lib.hid hB
   obtain ⟨h0, h1, h2, h3⟩ := hB
   by_cases hlt : k < pages.length
   ·
    obtain ⟨b, off, rfl, hcell0, _⟩ := hp k hlt
    have hcell : wr.cell? ⟨b, off + k, none⟩ = some (.string pages[k]) := by rw [hb.cell (World.block_lt_of_cell? w _ hcell0)]; exact hcell0
    clear hcell0
    cases hs : ((pages[k].size : Int) != size)
    ·
     go_wp2
     go_roundw
     case rel => exact ⟨k + 1, by omega, by go_num, by rw [← chkP_step hlt hs]; exact hq.out, hb, by simpa using hz, h0, h1, h2, h3⟩
     case measure => simp [intOf]; omega
    ·
     go_wp2
     go_ret
     exact ⟨by simp [chk, hr, ← hq.out, chkP_bad hlt hs], hb⟩
   ·
    obtain rfl : k = pages.length := by omega
    have hP : chkP size pages = true := by rw [← hq.out]; simp [chkP]
    clear hlt hk
    go_wp2
    go_loopw [6, 43] (fun _ i wr => ∃ k : Nat, k ≤ cache.length ∧ i = .int .i64 k ∧ chkC pages.length size (cache.drop k) = chkC pages.length size cache ∧ Below w.heap.size w wr ∧ w.heap.size < wr.heap.size ∧ BoxD wr w.heap.size size left po co pages.length pc cache.length cc) (fun _ i _ => cache.length - (intOf i).toNat)
    case atStart => exact ⟨0, Nat.zero_le _, rfl, rfl, hb, hz, hB0.out⟩
    case round =>
     clear hB0 h0 h1 h2 h3 hb hz
     obtain ⟨k, hk, rfl, hq0, hb, hz, hB⟩ := hrel
     have hq := Lib.hid hq0; clear hq0
     obtain ⟨h0, h1, h2, h3⟩ := hB
     by_cases hlt : k < cache.length
     ·
      obtain ⟨b, off, rfl, hcell0, hcell1, _⟩ := hc k hlt
      have hcell : wr.cell? ⟨b, off + k * 2, none⟩ = some (.int .i64 cache[k].page) := by rw [hb.cell (World.block_lt_of_cell? w _ hcell0)]; exact hcell0
      have hcell' : wr.cell? ⟨b, off + k * 2 + 1, none⟩ = some (.string cache[k].data) := by rw [hb.cell (World.block_lt_of_cell? w _ hcell1)]; exact hcell1
      clear hcell0 hcell1
      cases g1 : decide (cache[k].page < 0)
      ·
       cases g2 : decide ((pages.length : Int) ≤ cache[k].page)
       ·
        cases g3 : ((cache[k].data.size : Int) != size)
        ·
         go_wp2
         go_roundw
         case rel => exact ⟨k + 1, by omega, by go_num, by rw [← chkC_step hlt g1 g2 g3]; exact hq.out, hb.alloc (by omega) _, by simp; omega, by simp [go_sem, h0, hz], by simp [go_sem, h1, hz], by simp [go_sem, h2, hz], by simp [go_sem, h3, hz]⟩
         case measure => simp [intOf]; omega
        ·
         go_wp2
         go_ret
         exact ⟨by simp [chk, hr, hP, ← hq.out, chkC_bad3 hlt g1 g2 g3], hb.alloc (by omega) _⟩
       ·
        go_wp2
        go_ret
        exact ⟨by simp [chk, hr, hP, ← hq.out, chkC_bad2 hlt g2], hb.alloc (by omega) _⟩
      ·
       go_wp2
       go_ret
       exact ⟨by simp [chk, hr, hP, ← hq.out, chkC_bad1 hlt g1], hb.alloc (by omega) _⟩
     ·
      obtain rfl : k = cache.length := by omega
      have hC : chkC pages.length size cache = 0 := by rw [← hq.out]; simp [chkC]
      cases g : decide (left < -1)
      all_goals
       go_wp2
       go_ret
       exact ⟨by simp at g; simp [chk, hr, hP, hC, g]; try omega, hb⟩
theorem disk_check (d : Dsk) (v : Value) (w : World) {S : Nat → Prop} (hD : DskR S w v d) :
  Calls Tryd.prog 34 #[v] w fun e w' => e = .returned (.int .i64 (chk d)) ∧ Below w.heap.size w w' := by
 obtain ⟨po, pc, co, cc, rfl, hp, hc, ok⟩ := hD
 exact disk_check0 d.size d.left po co pc cc d.pages d.cache w hp hc ok.pages ok.cache
theorem ref40_check (d : Dsk) (v : Value) (w : World) {S : Nat → Prop} (hD : DskR S w v d) :
  Calls Tryd.prog 22 #[v] w fun e w' => e = .returned (.int .i64 (chk d)) ∧ Below w.heap.size w w' := by
 obtain ⟨po, pc, co, cc, rfl, hp, hc, ok⟩ := hD
 exact ref40_check0 d.size d.left po co pc cc d.pages d.cache w hp hc ok.pages ok.cache
end Go.Proofs.YtghikgjknhjjgaaDoor
