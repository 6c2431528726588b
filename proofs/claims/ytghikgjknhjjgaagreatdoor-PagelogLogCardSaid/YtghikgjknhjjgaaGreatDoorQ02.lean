/- A law for 'for .. := range f' where the body never leaves the loop and the iterator keeps a map of its own between two rounds: the round's word 'Kp' may speak of every block but the loop's own two. 'rangeFunc_run', the iterator knowing that no world between two rounds is smaller than its first. DERIVED: THE SHELF's CONTRACTS AT THIS DUMP, IN PLAIN WORDS (tools/lay-plain.mjs out of 'TryzShelf.lean', which tools/lay-shelf.mjs wrote): THE SAME DECLARATIONS UNDER THE SAME NAMES: 'import', 'namespace', 'open', 'def', 'theorem' AND NOTHING ELSE: no command of the shelf's: FOR A HAND-IN. Each laying: the table of numbers ('.._ren') and one theorem, a field a fact of the dump's own or the kernel's comparison; each contract: ONE APPLICATION. disk.contents (layer 40): the contract of its iterator: all pages of a valid disk with their contents, in order. slices.Backward over a slice of writes (layer 40): the contract of its iterator. The two functions Check of layer 40: each returns 'chk' of the disk, for every disk. -/
import Derived.RangeFuncNested
import Derived.RangeFuncBound
import Derived.RangeFuncCalls
import Derived.RangeFuncLeaves
import Derived.Shelf.Abstract
import Derived.WalkKit
import Derived.OwnWalkIn
import Derived.Test.YtghikgjknhjjgaaGreatDoorQ01
import Derived.RangeFuncKeeps
import Derived.Shelf.Strings.Builder1
import Derived.Shelf.Strings.Builder2
import Derived.Shelf.Strings.BuilderF
import Derived.Shelf.Strings.BuilderK
import Derived.Shelf.Strings.Builder2Cap
import Derived.Shelf.Strconv.Itoa0
import Derived.Shelf.Strconv.Itoa1
import Derived.Shelf.LaysM
import Derived.Shelf.Strconv.Itoa2
import Derived.Shelf.Strconv.Itoa3
import Derived.Shelf.Strings.Prefix
import Derived.Shelf.Bits.Mul64
import Derived.Shelf.Strings.Repeat
import Derived.Shelf.Strings.BuilderCap
import Derived.Shelf.Slices.Equal
import Derived.Ground.Names2Prog
import Derived.Shelf.Slices.Clone
import Derived.Shelf.Slices.Empties2
import Derived.Test.YtghikgjknhjjgaaGreatDoorProg
import Derived.RangeFuncBox
import Derived.TacticsInMore
import Derived.LoopNIn
import Derived.LoopIn
import Derived.Maps.OwnIn
import Derived.Maps.StringElems
import Derived.Shelf.RegionOpen
import Derived.BigQuiet
import Derived.Deep.QuietTactic
namespace Go.Proofs.YtghikgjknhjjgaaGreatDoor
set_option maxRecDepth 100000
open Go.RowKit Go.Shelf
/-- what lies in a block of T lies there still -/
def KeepT (T : Nat → Prop) (W W' : World) : Prop := ∀ k o, T k → W.heap[k]? = some o → W'.heap[k]? = some o
theorem KeepT.refl (T : Nat → Prop) (W : World) : KeepT T W W := fun _ _ _ h => h
theorem KeepT.trans {T : Nat → Prop} {A B C : World} (h : KeepT T A B) (k : KeepT T B C) : KeepT T A C := fun i o hi ho => k i o hi (h i o hi ho)
theorem KeepT.put {T : Nat → Prop} (W : World) {l : Nat} (o : Obj) (hl : ¬ T l) : KeepT T W (W.putObj l o) := fun k o' hk ho => (World.putObj_heap_other (by intro e; subst e; exact hl hk)).trans ho
theorem KeepT.set {T : Nat → Prop} (W : World) {a : Addr} (v : Value) (hl : ¬ T a.block) : KeepT T W (W.setCell a v) := fun k o' hk ho => (Below.heap_setCell W a v k (by intro e; subst e; exact hl hk)).trans ho
variable {F : Fence} {n : Nat} {P : Program}
/-- the iterator yields all of S to a body that never leaves -/
def SeqRun {α : Type} (F : Fence) (n : Nat) (P : Program) (gf : Nat) (lb : Array Value) (encs : α → Array Value) (T : Nat → Prop) (S : List α → Prop) (N : Nat) (w : World) : Prop :=
 ∀ (l : Nat) (J : List α → World → Prop), (∀ s W W', J s W → W.grownBy W' none → J s W') →
  (∀ pre x W1, J pre W1 → pre.length < N → YieldAt F (n - 1) P l (encs x) W1 fun e W' => e = .returned (.bool true) ∧ J (pre ++ [x]) W' ∧ KeepT T W1 W') →
  J [] w → CallsIn F n P gf (#[.func (.yield l) #[] #[]] ++ lb) w fun e W' => (∃ v, e = .returned v) ∧ ∃ xs, S xs ∧ J xs W'
def runPost {α : Type} (B : Nat) (T : Nat → Prop) (I : List α → World → Prop) (xs : List α) (W : World) : Exit → Act → World → Prop
 | .normal, _, W' => W'.heap[B]? = W.heap[B]? ∧ W'.heap[B + 1]? = W.heap[B + 1]? ∧ KeepT T W W' ∧ I xs W'
 | _, _, _ => False
theorem rangeFunc_run {α : Type} {g : Operand} {ps : Array Tmp} {assign body : Code} {Q : Exit → Act → World → Prop} {a : Act} {w : World}
  (hro : F.round = none) (h1 : 1 ≤ n) {gf : Nat} {lb : Array Value} (hg : a.eval g = .func (.func gf) #[] lb) (hFg : F.fn gf) (eg : ∀ args w, (callFunc gf args).run P w = .ok (.enter gf args) w)
  {encs : α → Array Value} {T : Nat → Prop} {S : List α → Prop} {N : Nat}
  (hseq : ∀ W1 : World, W1.heap.size = w.heap.size + 2 → Below w.heap.size w W1 → SeqRun F (n - 1) P gf lb encs T S N W1)
  (hT : ¬ T (w.heap.size + 1)) (hps : ∀ x, (encs x).size = ps.size)
  (I : List α → World → Prop) (hI : ∀ s W W' row, I s W → W.grownBy W' row → (∀ r, row = some r → w.heap.size ≤ r) → I s W') (h0 : I [] w) (a₁ : α → Act)
  (hassign : ∀ (l : Nat) (x : α) (W : World) (K : Act → World → Prop), K (a₁ x) W →
   assign.wpIn (F.inRound l) (n - 1 - 1) P (Exit.then K (fun _ _ _ => False)) { tmps := (ps.zip (encs x)).foldl (fun t (p, v) => t.setIfInBounds p v) a.tmps, defers := [] } W)
  (hbody : ∀ (l : Nat) (pre : List α) (x : α) (W : World), I pre W → pre.length < N → body.wpIn (F.inRound l) (n - 1 - 1) P (runPost w.heap.size T I (pre ++ [x]) W) (a₁ x) W)
  (hdone : ∀ (xs : List α) (W : World), S xs → I xs W → W.heap[w.heap.size]? = some (.deferred (some [])) → Q .normal { a with defers := { target := .collected w.heap.size, args := #[] } :: a.defers } W) :
  (Code.rangeFunc g ps assign body).wpIn F n P Q a w := by
 refine wpIn_rangeFunc fun fn hfn => ?_
 rw [hro]
 let r0 : LoopState → Loop := fun st => { state := st, pending := none, fn, tmps := a.tmps, params := ps, assign, body, defers := w.heap.size }
 have hW : Below w.heap.size w ((w.alloc (.deferred (some []))).alloc (.loop (r0 .ready))) := ((Below.refl _ w).alloc (Nat.le_refl _) _).alloc (by simp) _
 have hz : ((w.alloc (.deferred (some []))).alloc (.loop (r0 .ready))).heap.size = w.heap.size + 2 := by simp
 have hl0 : ((w.alloc (.deferred (some []))).alloc (.loop (r0 .ready))).heap[w.heap.size + 1]? = some (.loop (r0 .ready)) := by
  have := World.alloc_heap_new (w.alloc (.deferred (some []))) (.loop (r0 .ready)); rwa [World.size_alloc] at this
 have hd0 : ((w.alloc (.deferred (some []))).alloc (.loop (r0 .ready))).heap[w.heap.size]? = some (.deferred (some [])) :=
  (Below.heap_alloc _ _ _ (by simp)).trans (World.alloc_heap_new w _)
 have hi0 : I [] ((w.alloc (.deferred (some []))).alloc (.loop (r0 .ready))) :=
  hI _ _ _ none (hI _ _ _ none h0 (World.grownBy_alloc w _ none) (by simp)) (World.grownBy_alloc _ _ none) (by simp)
 refine ⟨w.heap.size + 1, [{ target := .collected w.heap.size, args := #[] }], (w.alloc (.deferred (some []))).alloc (.loop (r0 .ready)), { target := .fn (.func gf) lb, args := #[.func (.yield (w.heap.size + 1)) #[] #[]] }, (w.alloc (.deferred (some []))).alloc (.loop (r0 .ready)), gf,
  #[.func (.yield (w.heap.size + 1)) #[] #[]] ++ lb, (w.alloc (.deferred (some []))).alloc (.loop (r0 .ready)), run_enterLoop_outer _ _ _ _ _, ?_, ?_, ?_, fun _ => h1, ?_⟩
 ·
  simp only [resolve, hg]
  simp [go_sem]
 ·
  intro f' hf'; simp [Target.leads] at hf'; subst hf'; exact hFg
 ·
  simp [invoke, go_sem, eg]
 ·
  refine (hseq _ hz hW (w.heap.size + 1) (fun pre W => I pre W ∧ W.heap[w.heap.size + 1]? = some (.loop (r0 .ready)) ∧ W.heap[w.heap.size]? = some (.deferred (some []))) ?_ ?_ ⟨hi0, hl0, hd0⟩).mono ?_
  ·
   rintro s A B ⟨h1, h2, h3⟩ hg'
   exact ⟨hI _ _ _ none h1 hg' (by simp), (hg'.block _ (Array.getElem?_eq_some_iff.1 h2).1 (by simp)).trans h2, (hg'.block _ (Array.getElem?_eq_some_iff.1 h3).1 (by simp)).trans h3⟩
  ·
   rintro pre x W ⟨hi, hl, hd⟩ hlen
   have hlt := (Array.getElem?_eq_some_iff.1 hl).1
   refine ⟨fn, _, assign, body, run_yield (P := P) (args := encs x) hl (hps x), roundIn_of_wpIn hfn (hassign _ x W _ ?_)⟩
   refine ⟨_, run_beginRound hl rfl, ?_⟩
   refine wpIn_mono (hbody (w.heap.size + 1) pre x _ (hI _ _ _ _ hi (grownBy_putObj' W (w.heap.size + 1) _) (fun r e => by cases e; omega)) hlen) ?_
   rintro e a3 W3 hp
   cases e with
   | normal =>
    obtain ⟨h1, h2, h3, h4⟩ := hp
    have hl3 : W3.heap[w.heap.size + 1]? = some (.loop (r0 .busy)) := h2.trans (World.putObj_heap_same hlt)
    have hd3 : W3.heap[w.heap.size]? = some (.deferred (some [])) := h1.trans ((World.putObj_heap_other (by omega)).trans hd)
    exact ⟨_, _, run_endRound none hl3, rfl, ⟨hI _ _ _ _ h4 (grownBy_putObj' W3 (w.heap.size + 1) _) (fun r e => by cases e; omega), World.putObj_heap_same (Array.getElem?_eq_some_iff.1 hl3).1, (World.putObj_heap_other (by omega)).trans hd3⟩,
     ((KeepT.put W _ hT).trans h3).trans (KeepT.put W3 _ hT)⟩
   | ret => exact hp.elim
   | exit id => exact hp.elim
   | goto t => exact hp.elim
   | panic ch => exact hp.elim
   | outgrown => exact hp.elim
  ·
   rintro e W2 ⟨⟨v, rfl⟩, xs, hS, hi, hl, hd⟩
   exact ⟨none, _, run_endLoop (P := P) hl (by simp [r0]), hdone xs _ hS (hI _ _ _ _ hi (grownBy_putObj' W2 (w.heap.size + 1) _) (fun r e => by cases e; omega)) ((World.putObj_heap_other (by omega)).trans hd)⟩
end Go.Proofs.YtghikgjknhjjgaaGreatDoor
namespace Go.Proofs.YtghikgjknhjjgaaGreatDoor
open Go.RowKit Go.Shelf
variable {F : Fence} {n : Nat} {P : Program}
/-- the iterator yields all of S to a body that never leaves; no world between is smaller -/
def SeqRun2 {α : Type} (F : Fence) (n : Nat) (P : Program) (gf : Nat) (lb : Array Value) (encs : α → Array Value) (T : Nat → Prop) (S : List α → Prop) (N : Nat) (w : World) : Prop :=
 ∀ (l : Nat) (J : List α → World → Prop), (∀ s W W', J s W → W.grownBy W' none → J s W') →
  (∀ pre x W1, J pre W1 → pre.length < N → YieldAt F (n - 1) P l (encs x) W1 fun e W' => e = .returned (.bool true) ∧ J (pre ++ [x]) W' ∧ KeepT T W1 W') →
  J [] w → (∀ s W, J s W → w.heap.size ≤ W.heap.size) → CallsIn F n P gf (#[.func (.yield l) #[] #[]] ++ lb) w fun e W' => (∃ v, e = .returned v) ∧ ∃ xs, S xs ∧ J xs W'
theorem rangeFunc_run2 {α : Type} {g : Operand} {ps : Array Tmp} {assign body : Code} {Q : Exit → Act → World → Prop} {a : Act} {w : World}
  (hro : F.round = none) (h1 : 1 ≤ n) {gf : Nat} {lb : Array Value} (hg : a.eval g = .func (.func gf) #[] lb) (hFg : F.fn gf) (eg : ∀ args w, (callFunc gf args).run P w = .ok (.enter gf args) w)
  {encs : α → Array Value} {T : Nat → Prop} {S : List α → Prop} {N : Nat}
  (hseq : ∀ W1 : World, W1.heap.size = w.heap.size + 2 → Below w.heap.size w W1 → SeqRun2 F (n - 1) P gf lb encs T S N W1)
  (hT : ¬ T (w.heap.size + 1)) (hps : ∀ x, (encs x).size = ps.size)
  (I : List α → World → Prop) (hI : ∀ s W W' row, I s W → W.grownBy W' row → (∀ r, row = some r → w.heap.size ≤ r) → I s W') (h0 : I [] w) (a₁ : α → Act)
  (hassign : ∀ (l : Nat) (x : α) (W : World) (K : Act → World → Prop), K (a₁ x) W →
   assign.wpIn (F.inRound l) (n - 1 - 1) P (Exit.then K (fun _ _ _ => False)) { tmps := (ps.zip (encs x)).foldl (fun t (p, v) => t.setIfInBounds p v) a.tmps, defers := [] } W)
  (hbody : ∀ (l : Nat) (pre : List α) (x : α) (W : World), I pre W → w.heap.size + 2 ≤ W.heap.size → pre.length < N → body.wpIn (F.inRound l) (n - 1 - 1) P (runPost w.heap.size T I (pre ++ [x]) W) (a₁ x) W)
  (hdone : ∀ (xs : List α) (W : World), S xs → I xs W → W.heap[w.heap.size]? = some (.deferred (some [])) → Q .normal { a with defers := { target := .collected w.heap.size, args := #[] } :: a.defers } W) :
  (Code.rangeFunc g ps assign body).wpIn F n P Q a w := by
 refine wpIn_rangeFunc fun fn hfn => ?_
 rw [hro]
 let r0 : LoopState → Loop := fun st => { state := st, pending := none, fn, tmps := a.tmps, params := ps, assign, body, defers := w.heap.size }
 have hW : Below w.heap.size w ((w.alloc (.deferred (some []))).alloc (.loop (r0 .ready))) := ((Below.refl _ w).alloc (Nat.le_refl _) _).alloc (by simp) _
 have hz : ((w.alloc (.deferred (some []))).alloc (.loop (r0 .ready))).heap.size = w.heap.size + 2 := by simp
 have hl0 : ((w.alloc (.deferred (some []))).alloc (.loop (r0 .ready))).heap[w.heap.size + 1]? = some (.loop (r0 .ready)) := by
  have := World.alloc_heap_new (w.alloc (.deferred (some []))) (.loop (r0 .ready)); rwa [World.size_alloc] at this
 have hd0 : ((w.alloc (.deferred (some []))).alloc (.loop (r0 .ready))).heap[w.heap.size]? = some (.deferred (some [])) :=
  (Below.heap_alloc _ _ _ (by simp)).trans (World.alloc_heap_new w _)
 have hi0 : I [] ((w.alloc (.deferred (some []))).alloc (.loop (r0 .ready))) :=
  hI _ _ _ none (hI _ _ _ none h0 (World.grownBy_alloc w _ none) (by simp)) (World.grownBy_alloc _ _ none) (by simp)
 refine ⟨w.heap.size + 1, [{ target := .collected w.heap.size, args := #[] }], (w.alloc (.deferred (some []))).alloc (.loop (r0 .ready)), { target := .fn (.func gf) lb, args := #[.func (.yield (w.heap.size + 1)) #[] #[]] }, (w.alloc (.deferred (some []))).alloc (.loop (r0 .ready)), gf,
  #[.func (.yield (w.heap.size + 1)) #[] #[]] ++ lb, (w.alloc (.deferred (some []))).alloc (.loop (r0 .ready)), run_enterLoop_outer _ _ _ _ _, ?_, ?_, ?_, fun _ => h1, ?_⟩
 ·
  simp only [resolve, hg]
  simp [go_sem]
 ·
  intro f' hf'; simp [Target.leads] at hf'; subst hf'; exact hFg
 ·
  simp [invoke, go_sem, eg]
 ·
  refine (hseq _ hz hW (w.heap.size + 1) (fun pre W => I pre W ∧ W.heap[w.heap.size + 1]? = some (.loop (r0 .ready)) ∧ W.heap[w.heap.size]? = some (.deferred (some []))) ?_ ?_ ⟨hi0, hl0, hd0⟩ (fun _ W h => by have := (Array.getElem?_eq_some_iff.1 h.2.1).1; omega)).mono ?_
  ·
   rintro s A B ⟨h1, h2, h3⟩ hg'
   exact ⟨hI _ _ _ none h1 hg' (by simp), (hg'.block _ (Array.getElem?_eq_some_iff.1 h2).1 (by simp)).trans h2, (hg'.block _ (Array.getElem?_eq_some_iff.1 h3).1 (by simp)).trans h3⟩
  ·
   rintro pre x W ⟨hi, hl, hd⟩ hlen
   have hlt := (Array.getElem?_eq_some_iff.1 hl).1
   refine ⟨fn, _, assign, body, run_yield (P := P) (args := encs x) hl (hps x), roundIn_of_wpIn hfn (hassign _ x W _ ?_)⟩
   refine ⟨_, run_beginRound hl rfl, ?_⟩
   refine wpIn_mono (hbody (w.heap.size + 1) pre x _ (hI _ _ _ _ hi (grownBy_putObj' W (w.heap.size + 1) _) (fun r e => by cases e; omega)) (Nat.le_trans hlt (grownBy_putObj' W (w.heap.size + 1) _).size) hlen) ?_
   rintro e a3 W3 hp
   cases e with
   | normal =>
    obtain ⟨h1, h2, h3, h4⟩ := hp
    have hl3 : W3.heap[w.heap.size + 1]? = some (.loop (r0 .busy)) := h2.trans (World.putObj_heap_same hlt)
    have hd3 : W3.heap[w.heap.size]? = some (.deferred (some [])) := h1.trans ((World.putObj_heap_other (by omega)).trans hd)
    exact ⟨_, _, run_endRound none hl3, rfl, ⟨hI _ _ _ _ h4 (grownBy_putObj' W3 (w.heap.size + 1) _) (fun r e => by cases e; omega), World.putObj_heap_same (Array.getElem?_eq_some_iff.1 hl3).1, (World.putObj_heap_other (by omega)).trans hd3⟩,
     ((KeepT.put W _ hT).trans h3).trans (KeepT.put W3 _ hT)⟩
   | ret => exact hp.elim
   | exit id => exact hp.elim
   | goto t => exact hp.elim
   | panic ch => exact hp.elim
   | outgrown => exact hp.elim
  ·
   rintro e W2 ⟨⟨v, rfl⟩, xs, hS, hi, hl, hd⟩
   exact ⟨none, _, run_endLoop (P := P) hl (by simp [r0]), hdone xs _ hS (hI _ _ _ _ hi (grownBy_putObj' W2 (w.heap.size + 1) _) (fun r e => by cases e; omega)) ((World.putObj_heap_other (by omega)).trans hd)⟩
theorem bx_own {A B : World} {row : Option Nat} {b : Nat} {cs : Array Value} {t : TypeId} (hs : Bx A b cs t) (hg : A.grownBy B row) (hr : ∀ r, row = some r → ∃ o : Obj, A.heap[r]? = some o ∧ o.isCells = false) : Bx B b cs t := by
 refine hs.grown hg fun e => ?_
 obtain ⟨o, ho, hc⟩ := hr b e.symm
 unfold Bx at hs
 rw [hs] at ho
 cases ho
 cases hc
end Go.Proofs.YtghikgjknhjjgaaGreatDoor
namespace Go.Proofs
open Go.Shelf
def Tryz.laysM171_ren : Go.Shelf.Ren := ⟨fun | 171 => 45 | 243 => 74 | 246 => 95 | 283 => 105 | 284 => 106 | 285 => 107 | 286 => 108 | 129 => 114 | 317 => 113 | 318 => 115 | 319 => 116 | 320 => 117 | 337 => 119 | 338 => 120 | n => n, fun | 3 => 3 | 9 => 9 | 2 => 2 | 4 => 4 | 171 => 150 | 0 => 0 | 53 => 136 | 37 => 86 | 5 => 5 | 173 => 153 | 212 => 163 | 51 => 133 | 20 => 20 | 213 => 164 | 46 => 115 | 232 => 170 | 233 => 171 | n => n, fun | 17 => 0 | 18 => 2 | 19 => 3 | n => n⟩
theorem Tryz.laysM171 : Go.Proofs.LaysM.n171 Tryz.prog Tryz.laysM171_ren := {
 mixed := by kernel_rfl
 f129 := Tryz.func114.trans (congrArg some (by kernel_rfl))
 f171 := Tryz.func45.trans (congrArg some (by kernel_rfl))
 f243 := Tryz.func74.trans (congrArg some (by kernel_rfl))
 f246 := Tryz.func95.trans (congrArg some (by kernel_rfl))
 f283 := Tryz.func105.trans (congrArg some (by kernel_rfl))
 f284 := Tryz.func106.trans (congrArg some (by kernel_rfl))
 f285 := Tryz.func107.trans (congrArg some (by kernel_rfl))
 f286 := Tryz.func108.trans (congrArg some (by kernel_rfl))
 f317 := Tryz.func113.trans (congrArg some (by kernel_rfl))
 f318 := Tryz.func115.trans (congrArg some (by kernel_rfl))
 f319 := Tryz.func116.trans (congrArg some (by kernel_rfl))
 f320 := Tryz.func117.trans (congrArg some (by kernel_rfl))
 f337 := Tryz.func119.trans (congrArg some (by kernel_rfl))
 f338 := Tryz.func120.trans (congrArg some (by kernel_rfl))
 t0 := Tryz.underlying0
 a0 := Tryz.isAgg0
 z0 := Tryz.sizeOf0
 v0 := Tryz.zeroValue0
 t2 := Tryz.underlying2
 a2 := Tryz.isAgg2
 z2 := Tryz.sizeOf2
 v2 := Tryz.zeroValue2
 t3 := Tryz.underlying3
 a3 := Tryz.isAgg3
 z3 := Tryz.sizeOf3
 v3 := Tryz.zeroValue3
 t4 := Tryz.underlying4
 a4 := Tryz.isAgg4
 z4 := Tryz.sizeOf4
 v4 := Tryz.zeroValue4
 t5 := Tryz.underlying5
 a5 := Tryz.isAgg5
 z5 := Tryz.sizeOf5
 v5 := Tryz.zeroValue5
 t9 := Tryz.underlying9
 a9 := Tryz.isAgg9
 z9 := Tryz.sizeOf9
 v9 := Tryz.zeroValue9
 t20 := Tryz.underlying20
 a20 := Tryz.isAgg20
 z20 := Tryz.sizeOf20
 v20 := Tryz.zeroValue20
 t37 := Tryz.underlying86
 a37 := Tryz.isAgg86
 z37 := Tryz.sizeOf86
 v37 := Tryz.zeroValue86
 t46 := Tryz.underlying115
 a46 := Tryz.isAgg115
 z46 := Tryz.sizeOf115
 v46 := Tryz.zeroValue115
 t51 := Tryz.underlying133
 a51 := Tryz.isAgg133
 z51 := Tryz.sizeOf133
 v51 := Tryz.zeroValue133
 t53 := Tryz.underlying136
 a53 := Tryz.isAgg136
 z53 := Tryz.sizeOf136
 v53 := Tryz.zeroValue136
 t171 := Tryz.underlying150
 a171 := Tryz.isAgg150
 z171 := Tryz.sizeOf150
 v171 := Tryz.zeroValue150
 t173 := Tryz.underlying153
 a173 := Tryz.isAgg153
 z173 := Tryz.sizeOf153
 v173 := Tryz.zeroValue153
 t212 := Tryz.underlying163
 a212 := Tryz.isAgg163
 z212 := Tryz.sizeOf163
 v212 := Tryz.zeroValue163
 t213 := Tryz.underlying164
 a213 := Tryz.isAgg164
 z213 := Tryz.sizeOf164
 t232 := Tryz.underlying170
 a232 := Tryz.isAgg170
 z232 := Tryz.sizeOf170
 v232 := Tryz.zeroValue170
 t233 := Tryz.underlying171
 a233 := Tryz.isAgg171
 z233 := Tryz.sizeOf171
 v233 := Tryz.zeroValue171
 g17 := by kernel_rfl
 g18 := by kernel_rfl
 g19 := by kernel_rfl
 i0 := by kernel_rfl
 i2 := by kernel_rfl
 i3 := by kernel_rfl
 i4 := by kernel_rfl
 i5 := by kernel_rfl
 i9 := by kernel_rfl
 i20 := by kernel_rfl
 i37 := by kernel_rfl
 i46 := by kernel_rfl
 i51 := by kernel_rfl
 i53 := by kernel_rfl
 i171 := by kernel_rfl
 i173 := by kernel_rfl
 i212 := by kernel_rfl
 i232 := by kernel_rfl
 i233 := by kernel_rfl
 m17 := by kernel_rfl
 m18 := by kernel_rfl
 m19 := by kernel_rfl }
open Go.RowKit Go.Sort Go.Lib in
/-- strconv.Itoa: "Itoa is equivalent to FormatInt(int64(i), 10).": i's DECIMAL NUMERAL ('Lib.itoa': a '-' where i is negative, then the digits), FOR EVERY int. The world behind the call: the world before it, new blocks behind the heap (the library's 'var a [24]byte'), draws. (LAID: no walk: one application.) -/
theorem Tryz.strconv_Itoa (n : Int) (h0 : -9223372036854775808 ≤ n) (h1 : n ≤ 9223372036854775807) (w : World) (htab : Lib.TabIs Tryz.prog w "internal/strconv.uint64pow10" .u64 Lib.pow10Tab) :
  Calls Tryz.prog 45 #[.int .i64 n] w fun e w' => e = .returned (.string ⟨(Lib.itoa n).toArray⟩) ∧ ∃ k os, w' = grow (w.drewN k) os := Any.strconv_Itoa Tryz.laysM171 n h0 h1 w htab
def Tryz.lays99_ren : Go.Shelf.Ren := ⟨fun | 99 => 25 | 206 => 62 | n => n, fun | 9 => 9 | 4 => 4 | 3 => 3 | n => n, fun | n => n⟩
theorem Tryz.lays99 : Go.Proofs.Lays.n99 Tryz.prog Tryz.lays99_ren := {
 mixed := by kernel_rfl
 f99 := Tryz.func25.trans (congrArg some (by kernel_rfl))
 f206 := Tryz.func62.trans (congrArg some (by kernel_rfl))
 t3 := Tryz.underlying3
 a3 := Tryz.isAgg3
 z3 := Tryz.sizeOf3
 v3 := Tryz.zeroValue3
 t4 := Tryz.underlying4
 a4 := Tryz.isAgg4
 z4 := Tryz.sizeOf4
 v4 := Tryz.zeroValue4
 t9 := Tryz.underlying9
 a9 := Tryz.isAgg9
 z9 := Tryz.sizeOf9
 v9 := Tryz.zeroValue9 }
open Go.RowKit Go.Lib in
/-- strings.HasPrefix: "HasPrefix reports whether the string s begins with prefix.": IT RETURNS 'Lib.hasPrefix s prefix'; the world is as it was. (LAID: no walk: one application.) -/
theorem Tryz.strings_HasPrefix (s p : ByteArray) (w : World) :
  Calls Tryz.prog 25 #[.string s, .string p] w fun e w' => e = .returned (.bool (Lib.hasPrefix s.data.toList p.data.toList)) ∧ w' = w := Any.strings_HasPrefix Tryz.lays99 s p w
def Tryz.lays105_ren : Go.Shelf.Ren := ⟨fun | 105 => 50 | 212 => 80 | 99 => 25 | 165 => 81 | 166 => 57 | 170 => 82 | 169 => 59 | 263 => 98 | 264 => 99 | 206 => 62 | 240 => 88 | 241 => 100 | 276 => 102 | 277 => 110 | n => n, fun | 9 => 9 | 3 => 3 | 4 => 4 | 20 => 20 | 0 => 0 | 46 => 115 | 109 => 116 | 5 => 5 | 72 => 88 | 76 => 91 | 51 => 133 | 146 => 134 | 53 => 136 | 148 => 137 | 70 => 85 | 37 => 86 | 75 => 90 | 127 => 126 | 164 => 141 | 80 => 95 | n => n, fun | n => n⟩
theorem Tryz.lays105 : Go.Proofs.Lays.n105 Tryz.prog Tryz.lays105_ren := {
 mixed := by kernel_rfl
 f99 := Tryz.func25.trans (congrArg some (by kernel_rfl))
 f105 := Tryz.func50.trans (congrArg some (by kernel_rfl))
 f165 := Tryz.func81.trans (congrArg some (by kernel_rfl))
 f166 := Tryz.func57.trans (congrArg some (by kernel_rfl))
 f169 := Tryz.func59.trans (congrArg some (by kernel_rfl))
 f170 := Tryz.func82.trans (congrArg some (by kernel_rfl))
 f206 := Tryz.func62.trans (congrArg some (by kernel_rfl))
 f212 := Tryz.func80.trans (congrArg some (by kernel_rfl))
 f240 := Tryz.func88.trans (congrArg some (by kernel_rfl))
 f241 := Tryz.func100.trans (congrArg some (by kernel_rfl))
 f263 := Tryz.func98.trans (congrArg some (by kernel_rfl))
 f264 := Tryz.func99.trans (congrArg some (by kernel_rfl))
 f276 := Tryz.func102.trans (congrArg some (by kernel_rfl))
 f277 := Tryz.func110.trans (congrArg some (by kernel_rfl))
 t0 := Tryz.underlying0
 a0 := Tryz.isAgg0
 z0 := Tryz.sizeOf0
 v0 := Tryz.zeroValue0
 t3 := Tryz.underlying3
 a3 := Tryz.isAgg3
 z3 := Tryz.sizeOf3
 v3 := Tryz.zeroValue3
 t4 := Tryz.underlying4
 a4 := Tryz.isAgg4
 z4 := Tryz.sizeOf4
 v4 := Tryz.zeroValue4
 t5 := Tryz.underlying5
 a5 := Tryz.isAgg5
 z5 := Tryz.sizeOf5
 v5 := Tryz.zeroValue5
 t9 := Tryz.underlying9
 a9 := Tryz.isAgg9
 z9 := Tryz.sizeOf9
 v9 := Tryz.zeroValue9
 t20 := Tryz.underlying20
 a20 := Tryz.isAgg20
 z20 := Tryz.sizeOf20
 v20 := Tryz.zeroValue20
 t37 := Tryz.underlying86
 a37 := Tryz.isAgg86
 z37 := Tryz.sizeOf86
 v37 := Tryz.zeroValue86
 t46 := Tryz.underlying115
 a46 := Tryz.isAgg115
 z46 := Tryz.sizeOf115
 v46 := Tryz.zeroValue115
 t51 := Tryz.underlying133
 a51 := Tryz.isAgg133
 z51 := Tryz.sizeOf133
 v51 := Tryz.zeroValue133
 t53 := Tryz.underlying136
 a53 := Tryz.isAgg136
 z53 := Tryz.sizeOf136
 v53 := Tryz.zeroValue136
 t70 := Tryz.underlying85
 a70 := Tryz.isAgg85
 z70 := Tryz.sizeOf85
 v70 := Tryz.zeroValue85
 t72 := Tryz.underlying88
 a72 := Tryz.isAgg88
 z72 := Tryz.sizeOf88
 v72 := Tryz.zeroValue88
 t75 := Tryz.underlying90
 a75 := Tryz.isAgg90
 z75 := Tryz.sizeOf90
 v75 := Tryz.zeroValue90
 t76 := Tryz.underlying91
 a76 := Tryz.isAgg91
 z76 := Tryz.sizeOf91
 v76 := Tryz.zeroValue91
 t109 := Tryz.underlying116
 a109 := Tryz.isAgg116
 z109 := Tryz.sizeOf116
 v109 := Tryz.zeroValue116
 t127 := Tryz.underlying126
 a127 := Tryz.isAgg126
 z127 := Tryz.sizeOf126
 v127 := Tryz.zeroValue126
 t146 := Tryz.underlying134
 a146 := Tryz.isAgg134
 z146 := Tryz.sizeOf134
 v146 := Tryz.zeroValue134
 t148 := Tryz.underlying137
 a148 := Tryz.isAgg137
 z148 := Tryz.sizeOf137
 v148 := Tryz.zeroValue137
 t164 := Tryz.underlying141
 a164 := Tryz.isAgg141
 z164 := Tryz.sizeOf141
 v164 := Tryz.zeroValue141 }
theorem Tryz.Builder_Extra_105 : Builder.Extra Tryz.prog Tryz.lays105_ren := {
 sizeBuilder := by kernel_rfl
 liesBuilder := by kernel_rfl
 t5 := Tryz.underlying5
 a5 := Tryz.isAgg5
 z5 := Tryz.sizeOf5
 v5 := Tryz.zeroValue5
 infoByte := by kernel_rfl
 cellsByte := by kernel_rfl
 sizeByte := by kernel_rfl
 neB5 := by decide }
open Go.RowKit Go.Lib in
/-- **strings.Repeat: count ≥ 0, the result within one allocation: count copies of s.** (LAID: no walk: one application.) -/
theorem Tryz.strings_Repeat (s : ByteArray) (c : Nat) (w : World) (hc : c ≤ 9223372036854775807) (hlen : s.size * c ≤ 140737488355328) :
  Calls Tryz.prog 50 #[.string s, .int .i64 c] w fun e w' => e = .returned (.string ⟨(Lib.repeatL s.data.toList c).toArray⟩) ∧ Below w.heap.size w w' := Any.strings_Repeat Tryz.lays105 Tryz.Builder_Extra_105 s c w hc hlen
def Tryz.lays193_ren : Go.Shelf.Ren := ⟨fun | 193 => 63 | n => n, fun | 31 => 22 | 9 => 9 | 4 => 4 | 3 => 3 | 0 => 0 | n => n, fun | n => n⟩
theorem Tryz.lays193 : Go.Proofs.Lays.n193 Tryz.prog Tryz.lays193_ren := {
 mixed := by kernel_rfl
 f193 := Tryz.func63.trans (congrArg some (by kernel_rfl))
 t0 := Tryz.underlying0
 a0 := Tryz.isAgg0
 z0 := Tryz.sizeOf0
 v0 := Tryz.zeroValue0
 t3 := Tryz.underlying3
 a3 := Tryz.isAgg3
 z3 := Tryz.sizeOf3
 v3 := Tryz.zeroValue3
 t4 := Tryz.underlying4
 a4 := Tryz.isAgg4
 z4 := Tryz.sizeOf4
 v4 := Tryz.zeroValue4
 t9 := Tryz.underlying9
 a9 := Tryz.isAgg9
 z9 := Tryz.sizeOf9
 v9 := Tryz.zeroValue9
 t31 := Tryz.underlying22
 a31 := Tryz.isAgg22
 z31 := Tryz.sizeOf22
 v31 := Tryz.zeroValue22 }
open Go.RowKit Go.Lib in
/-- slices.Equal at []string: "Equal reports whether two slices are equal: the same length and all elements equal. If the lengths are different, Equal returns false. Otherwise, the elements are compared in increasing index order, and the comparison stops at the first unequal pair. Empty and nil slices are considered equal.": IT RETURNS WHETHER THE TWO LISTS OF ELEMENTS ARE ONE; the world is as it was but for the count of draws (the test 's1[i] != s2[i]' has two reads, whose order the model draws, once a round). 'xs', 'ys': what the cells behind the two addresses hold (the spare capacity too, if you have it); 'xs.take n', 'ys.take m': the elements. THE TWO SLICES MAY OVERLAP. (LAID: no walk: one application.) -/
theorem Tryz.slices_Equal_string (b1 o1 n c b2 o2 m d : Nat) (xs ys : List ByteArray) (w : World) (hx : n ≤ xs.length) (hy : m ≤ ys.length) (hbig : n ≤ 9223372036854775807) (hbig2 : m ≤ 9223372036854775807) (hc1 : ∀ j, j < xs.length → w.cell? ⟨b1, o1 + j, none⟩ = some (.string (xs.getD j ByteArray.empty))) (hc2 : ∀ j, j < ys.length → w.cell? ⟨b2, o2 + j, none⟩ = some (.string (ys.getD j ByteArray.empty))) :
  Calls Tryz.prog 63 #[.slice (some ⟨b1, o1, none⟩) n c, .slice (some ⟨b2, o2, none⟩) m d] w fun e w' => e = .returned (.bool (decide (xs.take n = ys.take m))) ∧ ∃ q, w' = w.drewN q := Any.slices_Equal_string Tryz.lays193 b1 o1 n c b2 o2 m d xs ys w hx hy hbig hbig2 hc1 hc2
open Go.RowKit Go.Lib in
/-- The same where the first is of length 0 (a nil one too): no cell is asked for. (LAID: no walk: one application.) -/
theorem Tryz.slices_Equal_string_empty (a1 a2 : Option Addr) (c m d : Nat) (w : World) (hbig2 : m ≤ 9223372036854775807) :
  Calls Tryz.prog 63 #[.slice a1 0 c, .slice a2 m d] w fun e w' => e = .returned (.bool (decide (m = 0))) ∧ w' = w := Any.slices_Equal_string_empty Tryz.lays193 a1 a2 c m d w hbig2
def Tryz.laysNm216_ren : Go.Shelf.Ren := ⟨fun | 16 => 42 | n => n, fun | 24 => 22 | 9 => 9 | 4 => 4 | n => n, fun | n => n⟩
theorem Tryz.laysNm216 : Go.Proofs.Lays2.n16 Tryz.prog Tryz.laysNm216_ren := {
 mixed := by kernel_rfl
 f16 := Tryz.func42.trans (congrArg some (by kernel_rfl))
 t4 := Tryz.underlying4
 a4 := Tryz.isAgg4
 z4 := Tryz.sizeOf4
 v4 := Tryz.zeroValue4
 t9 := Tryz.underlying9
 a9 := Tryz.isAgg9
 z9 := Tryz.sizeOf9
 v9 := Tryz.zeroValue9
 t24 := Tryz.underlying22
 a24 := Tryz.isAgg22
 z24 := Tryz.sizeOf22
 v24 := Tryz.zeroValue22
 i9 := by kernel_rfl }
open Go.RowKit Go.Lib in
/-- slices.Clone at []string: "Clone returns a copy of the slice. The elements are copied using assignment, so this is a shallow clone. The result may have additional unused capacity. The result preserves the nilness of s.": OF A SLICE THAT IS NOT nil IT RETURNS A SLICE THAT IS NOT nil, OF THE SAME ELEMENTS, IN MEMORY OF THE CALL's OWN: in the how-to's words (6f): 'w'.ownsRow B e 1 v' n cells': v' begins at the head of a row among the blocks from B on (B: the heap's size at the call), not frozen, whose first cells are the elements · 'Below B w w'': below B all is as it was. The capacity is whatever the run-time gives. 'zs': what the cells behind the slice's address hold; 'zs.take n': its elements. (LAID: no walk: one application.) -/
theorem Tryz.slices_Clone_string (b off n c : Nat) (zs : List ByteArray) (w : World) (hz : n ≤ zs.length) (hbig : n * 16 ≤ 140737488355328) (hc : ∀ j, j < zs.length → w.cell? ⟨b, off + j, none⟩ = some (.string (zs.getD j ByteArray.empty))) :
  Calls Tryz.prog 42 #[.slice (some ⟨b, off, none⟩) n c] w fun e w' => ∃ v', e = .returned v' ∧ w'.ownsRow w.heap.size 9 1 v' n ((zs.take n).map (Value.string)) ∧ v' ≠ .slice none 0 0 ∧ Below w.heap.size w w' := Any.slices_Clone_string Tryz.laysNm216 b off n c zs w hz hbig hc
open Go.RowKit Go.Lib in
/-- The same at nil: nil comes back; the world is as it was. (LAID: no walk: one application.) -/
theorem Tryz.slices_Clone_string_nil (n c : Nat) (w : World) :
  Calls Tryz.prog 42 #[.slice none n c] w fun e w' => e = .returned (.slice none 0 0) ∧ w' = w := Any.slices_Clone_string_nil Tryz.laysNm216 n c w
open Go.RowKit Go.Lib in
/-- The same at a slice of length 0 that is not nil, WHATEVER ITS ADDRESS (no cell is asked for): a slice that is not nil and owns nothing comes back. (LAID: no walk: one application.) -/
theorem Tryz.slices_Clone_string_zero (a : Addr) (c : Nat) (w : World) :
  Calls Tryz.prog 42 #[.slice (some a) 0 c] w fun e w' => ∃ v', e = .returned v' ∧ w'.ownsRow w.heap.size 9 1 v' 0 [] ∧ v' ≠ .slice none 0 0 ∧ Below w.heap.size w w' := Any.slices_Clone_string_zero Tryz.laysNm216 a c w
open Go.RowKit Go.Lib in
theorem Tryz.slices_Equal_string_lens (a1 a2 : Option Addr) (n c m d : Nat) (w : World) (hnm : n ≠ m) :
  Calls Tryz.prog 63 #[.slice a1 n c, .slice a2 m d] w fun e w' => e = .returned (.bool false) ∧ w' = w := Any.slices_Equal_string_lens Tryz.lays193 a1 a2 n c m d w hnm
end Go.Proofs
namespace Go.Proofs.YtghikgjknhjjgaaGreatDoor
set_option maxRecDepth 100000
open Go.RowKit Go.Shelf
attribute [local go_sem] Oper.semAt_some
theorem KeepT.cell {T : Nat → Prop} {W W' : World} (h : KeepT T W W') {p : Addr} {v : Value} (hp : T p.block) (hc : W.cell? p = some v) : W'.cell? p = some v := by
 obtain ⟨o, ho, _⟩ := cells_of_cell hc
 exact (World.cell?_of_block ((h _ o hp ho).trans ho.symm)).trans hc
/-- the map of the last writes -/
def mapD (l : List PW) : DataW Empty := l.foldl (fun D x => D.put (.int .i64 x.page) (.lit (.string x.data.data.toList))) (.map [])
theorem mapD_snoc (l : List PW) (x : PW) : mapD (l ++ [x]) = (mapD l).put (.int .i64 x.page) (.lit (.string x.data.data.toList)) := by simp [mapD]
theorem isKey_int (i : Int) : WideAt.IsKeyLit (.int .i64 i) := by simp [WideAt.IsKeyLit]
theorem mapD_fold (i : Int) : ∀ (l : List PW) (D : DataW Empty) (s : ByteArray), Maps.IsMap D → D.atKey (.int .i64 i) (.lit (.string [])) = .lit (.string s.data.toList) →
  Maps.has (l.foldl (fun D x => D.put (.int .i64 x.page) (.lit (.string x.data.data.toList))) D) (.int .i64 i) = (Maps.has D (.int .i64 i) || l.any (fun x => x.page == i)) ∧
  (l.foldl (fun D x => D.put (.int .i64 x.page) (.lit (.string x.data.data.toList))) D).atKey (.int .i64 i) (.lit (.string [])) = .lit (.string (lastW i l s).data.toList)
 | [], D, s, hD, h => ⟨by simp, h⟩
 | x :: l, D, s, hD, h => by
  rw [List.foldl_cons, lastW]
  by_cases e : x.page = i
  ·
   rw [if_pos e]
   obtain ⟨h1, h2⟩ := mapD_fold i l (D.put (.int .i64 x.page) (.lit (.string x.data.data.toList))) x.data (hD.put _ _) (by rw [e]; exact Maps.atKey_put_same hD (isKey_int i) _ _)
   refine ⟨?_, h2⟩
   rw [h1, e, Maps.has_put_same hD (isKey_int i)]
   simp [e]
  ·
   rw [if_neg e]
   have hne : Lit.int .i64 i ≠ .int .i64 x.page := fun h => by injection h with _ h; exact e h.symm
   obtain ⟨h1, h2⟩ := mapD_fold i l (D.put (.int .i64 x.page) (.lit (.string x.data.data.toList))) s (hD.put _ _) (by rw [Maps.atKey_put_other hne]; exact h)
   refine ⟨?_, h2⟩
   rw [h1, Maps.has_put_other hne, List.any_cons, show (x.page == i) = false by simpa using e, Bool.false_or]
theorem mapD_has (i : Int) (l : List PW) : Maps.has (mapD l) (.int .i64 i) = l.any (fun x => x.page == i) := by
 exact (mapD_fold i l (.map []) ByteArray.empty Maps.isMap_empty rfl).1
theorem mapD_at (i : Int) (l : List PW) : (mapD l).atKey (.int .i64 i) (.lit (.string [])) = .lit (.string (lastW i l ByteArray.empty).data.toList) :=
 (mapD_fold i l (.map []) ByteArray.empty Maps.isMap_empty rfl).2
theorem lastW_any {i : Int} {l : List PW} : ∀ (s t : ByteArray), l.any (fun x => x.page == i) = true → lastW i l s = lastW i l t := by
 induction l with
 | nil => intro s t h; simp at h
 | cons x l ih =>
  intro s t h
  rw [lastW, lastW]
  by_cases e : x.page = i
  ·
   rw [if_pos e, if_pos e]
  ·
   rw [if_neg e, if_neg e]
   exact ih s t (by simpa [e] using h)
theorem lastW_notany {i : Int} {l : List PW} : ∀ (s : ByteArray), l.any (fun x => x.page == i) = false → lastW i l s = s := by
 induction l with
 | nil => intro s h; rfl
 | cons x l ih =>
  intro s h
  have h' : ¬ x.page = i ∧ l.any (fun x => x.page == i) = false := by simpa using h
  rw [lastW, if_neg h'.1]
  exact ih s h'.2
/-- 'v, ok := m[k]' at string elements where both are known -/
theorem wpListIn_lookup_str {F : Fence} {nF : Nat} {P : Program} (w : World) {ops : Array Oper} {rest : List Oper} {o : Oper} {a : Act} {Q : Exit → Act → World → Prop}
  (hg : o.guard = none) (m x : Operand) (t : TypeId) (hop : o.op = Op.lookup t m x true)
  (k e : TypeId) (K : Maps.Keyed P k) (ht : P.underlying t = some (.map k e)) (he : P.underlying e = some .string) (hz : (zeroValue e).run P w = .ok (.string ⟨#[]⟩) w) (b n : Nat) (D : DataW Empty)
  (hm : a.eval m = .map (some b)) (hown : w.ownsMap P k (plainElem P e) b n D) (key : Value) (kl : Lit) (hx : a.eval x = key) (hkey : keyOf P k key = some kl)
  (s : ByteArray) (hat : D.atKey kl (.lit (.string [])) = .lit (.string s.data.toList)) (has : Bool) (hhas : Maps.has D kl = has)
  (hK : wpListIn F nF P ops Q rest (a.put o.dst (.tuple #[.string s, .bool has])) w) :
  wpListIn F nF P ops Q (o :: rest) a w :=
 wpListIn_lookup_own_ok w hg m x t hop k e K ht (plainElem P e) hz (.lit (.string [])) [] (plainElem_string he (s := ⟨#[]⟩) (by decide)) b n D hm hown key kl hx hkey (fun v ps hv => by
  obtain ⟨s', rfl, hc, _⟩ := plainElem_string_inv he hv
  have h1 : s'.data.toList = s.data.toList := by
   have := congrArg Prod.fst hc
   rw [hat] at this
   simpa using this.symm
  have h2 : s' = s := by
   cases s'; cases s; simp at h1; rw [h1]
  rw [h2, hhas]; exact hK)
def firsts (N k : Nat) : List (Fin N) := (List.finRange N).take k
theorem firsts_succ {N k : Nat} (h : k < N) : firsts N (k + 1) = firsts N k ++ [⟨k, h⟩] := by
 unfold firsts
 rw [List.take_add_one]
 simp [h]
theorem firsts_len {N k : Nat} (h : k ≤ N) : (firsts N k).length = k := by simp [firsts]; omega
theorem firsts_all (N : Nat) : firsts N N = List.finRange N := by unfold firsts; rw [List.take_of_length_le (by simp)]
set_option maxRecDepth 100000 in
set_option maxHeartbeats 4000000 in
theorem cont_runs (F : Fence) (n : Nat) (hF : F.fn 91) (hro : F.round = none) (hn : 1 ≤ n) (Bs : Nat) (d : Dsk) (po co : Option Addr) (pc cc : Nat) {S : Nat → Prop} (T : Nat → Prop) (W : World)
  (hok : DskOk d po co pc cc) (hval : ∀ x ∈ d.cache, 0 ≤ x.page ∧ x.page < d.pages.length)
  (hTS : ∀ b, S b → T b) (hTW : ∀ b, W.heap.size ≤ b → T b)
  (hp : StrsAt S W po d.pages) (hc : PWsAt S W co d.cache) (hB : Bx W Bs #[.int .i64 d.size, .slice po d.pages.length pc, .slice co d.cache.length cc, .int .i64 d.left] 25) :
  SeqRun F n Tryz.prog 91 #[.pointer (some ⟨Bs, 0, none⟩)] (fun x : Fin d.pages.length => #[Value.int .i64 (x.1 : Int), .string (contentD d x.1 x.2)]) T (fun ys => ys = List.finRange d.pages.length) d.pages.length W := by
 intro l J hJ hY h0
 have ok1 := hok.pages
 have ok2 := hok.cache
 have hmm := @run_makeMap Tryz.prog
 have lB := hB.lt
 refine callsIn_of_wp Tryz.func91 rfl hF ?_ hro
 simp only [Tryz.ntmps91, List.size_toArray, List.length_cons, List.length_nil, Nat.reduceAdd, Nat.reduceSub, Array.replicate_succ, Array.replicate_zero, List.push_toArray, List.append_toArray, List.nil_append, List.cons_append]
 have hB0 := hB.alloc (.map #[] 0)
 have c2 := hB0.cell 2
 simp at c2
 gi_wp2
 gi_loopw [5, 14] (fun _ i wr => ∃ k : Nat, k ≤ d.cache.length ∧ i = .int .i64 k ∧ W.grownBy wr none ∧ wr.ownsMap Tryz.prog 3 (plainElem Tryz.prog 9) W.heap.size k (mapD (d.cache.take k)))
  (fun _ i _ => d.cache.length - (intOf i).toNat)
 case atStart => exact ⟨0, Nat.zero_le _, rfl, World.grownBy_alloc W _ none, by rw [List.take_zero]; exact World.ownsMap_made W Tryz.prog 3 (plainElem Tryz.prog 9)⟩
 case round =>
  obtain ⟨k, hk, rfl, hg, hown⟩ := hrel
  clear c2 hB0
  have hBr : Bx wr Bs #[.int .i64 d.size, .slice po d.pages.length pc, .slice co d.cache.length cc, .int .i64 d.left] 25 := hB.grown hg (by simp)
  by_cases hlt : k < d.cache.length
  ·
   obtain ⟨b, off, rfl, hc1, hc2, hsb⟩ := hc k hlt
   have hcx : wr.cell? ⟨b, off + k * 2, none⟩ = some (.int .i64 d.cache[k].page) := grown_cell hg hc1 (by simp)
   have hcy : wr.cell? ⟨b, off + k * 2 + 1, none⟩ = some (.string d.cache[k].data) := grown_cell hg hc2 (by simp)
   obtain ⟨hv1, hv2⟩ := hval d.cache[k] (List.getElem_mem hlt)
   have hkey := Maps.keyOf_int_mk Tryz.underlying3 (q := .i64) (a := d.cache[k].page) (by simp [Lit.wf, IntKind.min, IntKind.max, IntKind.signed, IntKind.bits]; omega)
   have hstr := plainElem_string (H := Empty) Tryz.underlying9 (s := d.cache[k].data) (by have := hok.datas d.cache[k] (List.getElem_mem hlt); simp [maxLen]; omega)
   have hown' := hown.alloc (.cells #[.int .i64 d.cache[k].page, .string d.cache[k].data] 73)
   clear hc1 hc2
   gi_wp2_with (gi_at_mapUpdate; refine wpListIn_mapUpdate_own _ rfl _ _ _ 129 rfl 3 9 (Maps.int_keyed Tryz.underlying3) Tryz.underlying129 _ W.heap.size k _ rfl hown' (by simp [maxLen]; omega) _ _ _ rfl rfl hkey _ [] hstr ?_; intro w1 hown1 hgrow1)
   refine ⟨⟨k + 1, by omega, by go_num, ?_, ?_⟩, ?_⟩
   ·
    have h1 : W.grownBy (wr.alloc (.cells #[.int .i64 d.cache[k].page, .string d.cache[k].data] 73)) none := hg.trans (World.grownBy_alloc wr _ none)
    exact ⟨hgrow1.os.trans h1.os, hgrow1.tape.trans h1.tape, hgrow1.output.trans h1.output, Nat.le_trans h1.size hgrow1.size, fun j hj _ => (hgrow1.block j (Nat.lt_of_lt_of_le hj h1.size) (by simp; omega)).trans (h1.block j hj (by simp))⟩
   ·
    rw [List.take_add_one, List.getElem?_eq_getElem hlt, Option.toList_some, mapD_snoc]; exact hown1
   ·
    simp [intOf]; omega
  ·
   obtain rfl : k = d.cache.length := by omega
   rw [List.take_length] at hown
   obtain ⟨Wm, hWm⟩ : ∃ Wm, Wm = wr := ⟨_, rfl⟩
   subst hWm
   have c1 := hBr.cell 1
   simp at c1
   gi_wp2
   gi_loopw [6, 7, 8, 9, 27] (fun _ _ _ _ i w2 => ∃ k : Nat, k ≤ d.pages.length ∧ i = .int .i64 k ∧ J (firsts _ k) w2 ∧ KeepT T Wm w2)
    (fun _ _ _ _ i _ => d.pages.length - (intOf i).toNat)
   case atStart => exact ⟨0, Nat.zero_le _, rfl, hJ _ _ _ h0 hg, KeepT.refl _ _⟩
   case round =>
    obtain ⟨k, hk, rfl, hJk, hKT⟩ := hrel
    by_cases hlt : k < d.pages.length
    ·
     obtain ⟨b, off, rfl, hc1, hsb⟩ := hp k hlt
     have hcx : wr.cell? ⟨b, off + k, none⟩ = some (.string d.pages[k]) := hKT.cell (hTS b hsb) (grown_cell hg hc1 (by simp))
     have hown2 : wr.ownsMap Tryz.prog 3 (plainElem Tryz.prog 9) W.heap.size d.cache.length (mapD d.cache) := by
      obtain ⟨es, clock, hb, rest⟩ := hown
      exact ⟨es, clock, hKT _ _ (hTW _ (Nat.le_refl _)) hb, rest⟩
     have hkey := Maps.keyOf_int_mk Tryz.underlying3 (q := .i64) (a := (k : Int)) (by simp [Lit.wf, IntKind.min, IntKind.max, IntKind.signed, IntKind.bits]; omega)
     have hcont : contentD d k hlt = lastW k d.cache d.pages[k] := rfl
     obtain ⟨fn, tmps, assign, body, hy, hR⟩ := hY _ ⟨k, hlt⟩ wr hJk (by rw [firsts_len hk]; exact hlt)
     dsimp only at hy
     clear hc1
     cases hh : d.cache.any (fun x => x.page == (k : Int))
     ·
      have hlw := lastW_notany d.pages[k] hh
      rw [hcont, hlw] at hy
      gi_wp2_with (gi_at_lookup; refine wpListIn_lookup_str _ rfl _ _ 129 rfl 3 9 (Maps.int_keyed Tryz.underlying3) Tryz.underlying129 Tryz.underlying9 (Tryz.zeroValue9 _) W.heap.size _ _ rfl hown2 _ _ rfl hkey _ (mapD_at _ _) false ((mapD_has _ _).trans hh) ?_)
      refine hR.mono ?_
      rintro e W3 ⟨rfl, hJ3, hk3⟩
      gi_wp2
      go_roundw
      case rel => exact ⟨k + 1, by omega, by go_num, by rw [firsts_succ hlt]; exact hJ3, hKT.trans hk3⟩
      case measure => simp [intOf]; omega
     ·
      have hlw := lastW_any d.pages[k] ByteArray.empty hh
      rw [hcont, hlw] at hy
      gi_wp2_with (gi_at_lookup; refine wpListIn_lookup_str _ rfl _ _ 129 rfl 3 9 (Maps.int_keyed Tryz.underlying3) Tryz.underlying129 Tryz.underlying9 (Tryz.zeroValue9 _) W.heap.size _ _ rfl hown2 _ _ rfl hkey _ (mapD_at _ _) true ((mapD_has _ _).trans hh) ?_)
      refine hR.mono ?_
      rintro e W3 ⟨rfl, hJ3, hk3⟩
      gi_wp2
      go_roundw
      case rel => exact ⟨k + 1, by omega, by go_num, by rw [firsts_succ hlt]; exact hJ3, hKT.trans hk3⟩
      case measure => simp [intOf]; omega
    ·
     obtain rfl : k = d.pages.length := by omega
     gi_wp2
     go_end0
     exact ⟨⟨_, rfl⟩, _, rfl, by rw [← firsts_all]; exact hJk⟩
set_option maxHeartbeats 1000000 in
theorem cont_in (F : Fence) (n : Nat) (hF : F.fn 67) (hro : F.round = none) (v0 v1 v2 v3 : Value) (w : World) :
  CallsIn F n Tryz.prog 67 #[.agg #[v0, v1, v2, v3]] w fun e w' => e = .returned (.func (.func 91) #[] #[.pointer (some ⟨w.heap.size, 0, none⟩)]) ∧ w' = w.alloc (.cells #[v0, v1, v2, v3] 25) := by
 refine callsIn_of_wp Tryz.func67 rfl hF ?_ hro
 simp only [Tryz.ntmps67, List.size_toArray, List.length_cons, List.length_nil, Nat.reduceAdd, Nat.reduceSub, Array.replicate_succ, Array.replicate_zero, List.push_toArray, List.append_toArray, List.nil_append, List.cons_append]
 gi_wp2
 go_ret
 exact ⟨rfl, rfl⟩
end Go.Proofs.YtghikgjknhjjgaaGreatDoor
namespace Go.Proofs.YtghikgjknhjjgaaGreatDoor
set_option maxRecDepth 100000
open Go.RowKit Go.Shelf
attribute [local go_sem] Oper.semAt_some
/-- what has come when k rounds are over -/
def upto {α : Type} (f : Nat → α) (k : Nat) : List α := (List.range k).map f
theorem upto_succ {α : Type} (f : Nat → α) (k : Nat) : upto f (k + 1) = upto f k ++ [f k] := by simp [upto, List.range_succ]
theorem upto_length {α : Type} (f : Nat → α) (k : Nat) : (upto f k).length = k := by simp [upto]
/-- the j-th pair that Backward yields -/
def bkF (l : List PW) (j : Nat) : Int × PW := ((l.length : Int) - 1 - j, l[l.length - 1 - j]?.getD ⟨0, ByteArray.empty⟩)
set_option maxRecDepth 100000 in
set_option maxHeartbeats 2000000 in
theorem back1_in (F : Fence) (n : Nat) (hF : F.fn 90) (hro : F.round = none) (hn : 1 ≤ n) (l Bs n₀ cap : Nat) (o : Option Addr) (zs : List PW) (hreach : zs.length ≤ 140737488351232) {S : Nat → Prop} (hS : ∀ b, S b → b < n₀) (J Jx : List (Int × PW) → World → Prop)
  (hY : ∀ pre x W, J pre W → pre.length < zs.length → YieldAt F (n - 1) Tryz.prog l #[.int .i64 x.1, .agg #[.int .i64 x.2.page, .string x.2.data]] W fun e W' =>
   (e = .returned (.bool true) ∧ J (pre ++ [x]) W' ∧ Below n₀ W W') ∨ (e = .returned (.bool false) ∧ Jx (pre ++ [x]) W'))
  (W : World) (hBl : Bs < n₀) (hBs : W.cell? ⟨Bs, 0, none⟩ = some (.slice o zs.length cap))
  (hc : PWsAt S W o zs) (h0 : J [] W) :
  CallsIn F n Tryz.prog 90 #[.func (.yield l) #[] #[], .pointer (some ⟨Bs, 0, none⟩)] W fun e W' => (∃ v, e = .returned v) ∧
   ((∃ ys, ys = upto (bkF zs) zs.length ∧ J ys W') ∨ (∃ pre, (∃ k, k ≤ zs.length ∧ pre = upto (bkF zs) k) ∧ Jx pre W')) := by
 refine callsIn_of_wp Tryz.func90 rfl hF ?_ hro
 simp only [Tryz.ntmps90, List.size_toArray, List.length_cons, List.length_nil, Nat.reduceAdd, Nat.reduceSub, Array.replicate_succ, Array.replicate_zero, List.push_toArray, List.append_toArray, List.nil_append, List.cons_append]
 gi_wp2
 gi_loopw [3] (fun i wr => ∃ k : Nat, k ≤ zs.length ∧ i = .int .i64 ((zs.length : Int) - 1 - k) ∧ J (upto (bkF zs) k) wr ∧ Below n₀ W wr)
  (fun i _ => (intOf i + 1).toNat)
 case atStart => exact ⟨0, Nat.zero_le _, by go_num, h0, Below.refl _ _⟩
 case round =>
  obtain ⟨k, hk, rfl, hJs, hnx⟩ := hrel
  by_cases hlt : k < zs.length
  ·
   have hBs' : wr.cell? ⟨Bs, 0, none⟩ = some (.slice o zs.length cap) := (hnx.cell (p := ⟨Bs, 0, none⟩) hBl).trans hBs
   obtain ⟨m, hm⟩ : ∃ m : Nat, m = zs.length - 1 - k := ⟨_, rfl⟩
   have hmz : m < zs.length := by omega
   have hmi : (zs.length : Int) - 1 - k = m := by omega
   obtain ⟨b, off, rfl, hc1, hc2, hb⟩ := hc m hmz
   have hb := hS b hb
   have hx : bkF zs k = ((m : Int), zs[m]) := by rw [bkF, ← hm, hmi, List.getElem?_eq_getElem hmz]; rfl
   have hJs' := hJs
   obtain ⟨fn, tmps, assign, body, hy, hR⟩ := hY _ (bkF zs k) wr hJs (by rw [upto_length]; exact hlt)
   rw [hx] at hy hR
   have hx := Lib.hid hx
   dsimp only at hy
   have hcx : wr.cell? ⟨b, off + m * 2, none⟩ = some (.int .i64 zs[m].page) := (hnx.cell (p := ⟨b, off + m * 2, none⟩) hb).trans hc1
   have hcy : wr.cell? ⟨b, off + m * 2 + 1, none⟩ = some (.string zs[m].data) := (hnx.cell (p := ⟨b, off + m * 2 + 1, none⟩) hb).trans hc2
   rw [hmi]
   have hm' := Lib.hid (And.intro hm hmi)
   clear hm hmi hc1 hc2
   gi_wp2
   refine hR.mono ?_
   rintro e W3 (⟨rfl, hJ3, hk3⟩ | ⟨rfl, hJx3⟩)
   ·
    gi_wp2
    go_roundw
    case rel => exact ⟨k + 1, by omega, by have := hm'.out.2; go_num, by rw [upto_succ, hx.out]; exact hJ3, hnx.trans hk3⟩
    case measure => have := hm'.out.2; simp [intOf] <;> (try omega)
   ·
    gi_wp2
    refine bodyPost_ret (results_none rfl _ _ _) rfl ?_
    exact ⟨⟨_, rfl⟩, .inr ⟨_, ⟨k + 1, by omega, by rw [upto_succ, hx.out]⟩, hJx3⟩⟩
  ·
   obtain rfl : k = zs.length := by omega
   gi_wp2
   go_end0
   exact ⟨⟨_, rfl⟩, .inl ⟨_, rfl, hJs⟩⟩
set_option maxHeartbeats 1000000 in
theorem back_in (F : Fence) (n : Nat) (hF : F.fn 61) (hro : F.round = none) (a : Option Addr) (len cap : Nat) (w : World) :
  CallsIn F n Tryz.prog 61 #[.slice a len cap] w fun e w' => e = .returned (.func (.func 90) #[] #[.pointer (some ⟨w.heap.size, 0, none⟩)]) ∧ w' = w.alloc (.cells #[.slice a len cap] 23) := by
 refine callsIn_of_wp Tryz.func61 rfl hF ?_ hro
 simp only [Tryz.ntmps61, List.size_toArray, List.length_cons, List.length_nil, Nat.reduceAdd, Nat.reduceSub, Array.replicate_succ, Array.replicate_zero, List.push_toArray, List.append_toArray, List.nil_append, List.cons_append]
 gi_wp2
 go_ret
 exact ⟨rfl, rfl⟩
theorem back_stops (F : Fence) (n : Nat) (hF : F.fn 90) (hro : F.round = none) (hn : 1 ≤ n) (Bs n₀ cap : Nat) (o : Option Addr) (zs : List PW) (hreach : zs.length ≤ 140737488351232) {S : Nat → Prop} (hS : ∀ b, S b → b < n₀) (w : World) (hBs : Bs < n₀) (hn₀ : n₀ ≤ w.heap.size)
  (hBc : w.cell? ⟨Bs, 0, none⟩ = some (.slice o zs.length cap)) (hc : PWsAt S w o zs) :
  SeqStopsK F n Tryz.prog 90 #[.pointer (some ⟨Bs, 0, none⟩)] (fun x : Int × PW => #[Value.int .i64 x.1, .agg #[.int .i64 x.2.page, .string x.2.data]]) (Below n₀) (fun ys => ys = upto (bkF zs) zs.length)
   (fun pre => ∃ k, k ≤ zs.length ∧ pre = upto (bkF zs) k) zs.length w := fun l J Jx W hW _ _ hY h0 =>
 back1_in F n hF hro hn l Bs n₀ cap o zs hreach hS J Jx hY W hBs ((hW.cell (p := ⟨Bs, 0, none⟩) (show Bs < w.heap.size by omega)).trans hBc) (hc.below hW) h0
end Go.Proofs.YtghikgjknhjjgaaGreatDoor
namespace Go.Proofs.YtghikgjknhjjgaaGreatDoor
set_option maxRecDepth 100000
open Go.RowKit
set_option maxHeartbeats 400000 in
theorem ref40_ranged (p s : Int) (w : World) : Calls Tryz.prog 93 #[.int .i64 p, .int .i64 s] w fun e w' =>
  e = .returned (.bool (rangedB p s)) ∧ w = w' := by
 go_enter Tryz.func93, Tryz.ntmps93
 go_wp2
 all_goals go_ret
 all_goals simp [*, rangedB]
 all_goals omega
theorem ref40_ranged_b {b : Bool} (p s : Int) (w : World) (hb : rangedB p s = b) : Calls Tryz.prog 93 #[.int .i64 p, .int .i64 s] w fun e w' =>
  e = .returned (.bool b) ∧ w = w' := by rw [← hb]; exact ref40_ranged p s w
set_option maxHeartbeats 1000000 in
theorem ref40_check0 (size left : Int) (po co : Option Addr) (pc cc : Nat) (pages : List ByteArray) (cache : List PW) (w : World) {S : Nat → Prop}
  (hp : StrsAt S w po pages) (hc : PWsAt S w co cache)
  (hpl : pages.length ≤ 140737488351232) (hcl : cache.length ≤ 140737488351232) :
  Calls Tryz.prog 70 #[.agg #[.int .i64 size, .slice po pages.length pc, .slice co cache.length cc, .int .i64 left]] w fun e w' =>
  e = .returned (.int .i64 (chk ⟨size, pages, cache, left⟩)) ∧ Below w.heap.size w w' := by
 cases hr : rangedB pages.length size
 ·
  go_enter Tryz.func70, Tryz.ntmps70
  go_wp2_with (go_at_call 93; refine (ref40_ranged_b _ _ _ hr).mono ?_; rintro e w' ⟨rfl, rfl⟩)
  go_ret
  exact ⟨by simp [chk, hr], (Below.refl _ _).alloc (Nat.le_refl _) _⟩
 ·
  go_enter Tryz.func70, Tryz.ntmps70
  go_wp2_with (go_at_call 93; refine (ref40_ranged_b _ _ _ hr).mono ?_; rintro e w' ⟨rfl, rfl⟩)
  go_loopw [3] (fun i wr => ∃ k : Nat, k ≤ pages.length ∧ i = .int .i64 k ∧ chkP size (pages.drop k) = chkP size pages ∧ Below w.heap.size w wr ∧ w.heap.size < wr.heap.size ∧ BoxD wr w.heap.size size left po co pages.length pc cache.length cc) (fun i _ => pages.length - (intOf i).toNat)
  case atStart => exact ⟨0, Nat.zero_le _, rfl, rfl, (Below.refl _ _).alloc (Nat.le_refl _) _, by simp, by simp, by simp, by simp, by simp⟩
  case round =>
   obtain ⟨k, hk, rfl, hq0, hb, hz, hB⟩ := hrel
   have hq := Lib.hid hq0; clear hq0
   have hB0 := Lib.hid hB
   obtain ⟨h0, h1, h2, h3⟩ := hB
   by_cases hlt : k < pages.length
   ·
    obtain ⟨b, off, rfl, hcell0, _⟩ := hp k hlt
    have hcell : wr.cell? ⟨b, off + k, none⟩ = some (.string pages[k]) := by rw [hb.cell (World.block_lt_of_cell? w _ hcell0)]; exact hcell0
    clear hcell0
    cases hs : ((pages[k].size : Int) != size)
    ·
     go_wp2
     go_quiet (fail)
     go_wp2
     go_roundw
     case rel => exact ⟨k + 1, by omega, by go_num, by rw [← chkP_step hlt hs]; exact hq.out, Below.drewN hb _, by simpa using hz, h0, h1, h2, h3⟩
     case measure => simp [intOf]; omega
    ·
     go_wp2
     go_quiet (fail)
     go_wp2
     go_ret
     exact ⟨by simp [chk, hr, ← hq.out, chkP_bad hlt hs], Below.drewN hb _⟩
   ·
    obtain rfl : k = pages.length := by omega
    have hP : chkP size pages = true := by rw [← hq.out]; simp [chkP]
    clear hlt hk
    go_wp2
    go_loopw [4] (fun i wr => ∃ k : Nat, k ≤ cache.length ∧ i = .int .i64 k ∧ chkC pages.length size (cache.drop k) = chkC pages.length size cache ∧ Below w.heap.size w wr ∧ w.heap.size < wr.heap.size ∧ BoxD wr w.heap.size size left po co pages.length pc cache.length cc) (fun i _ => cache.length - (intOf i).toNat)
    case atStart => exact ⟨0, Nat.zero_le _, rfl, rfl, hb, hz, hB0.out⟩
    case round =>
     clear hB0 h0 h1 h2 h3 hb hz
     obtain ⟨k, hk, rfl, hq0, hb, hz, hB⟩ := hrel
     have hq := Lib.hid hq0; clear hq0
     obtain ⟨h0, h1, h2, h3⟩ := hB
     by_cases hlt : k < cache.length
     ·
      obtain ⟨b, off, rfl, hcell0, hcell1, _⟩ := hc k hlt
      have hcell : wr.cell? ⟨b, off + k * 2, none⟩ = some (.int .i64 cache[k].page) := by rw [hb.cell (World.block_lt_of_cell? w _ hcell0)]; exact hcell0
      have hcell' : wr.cell? ⟨b, off + k * 2 + 1, none⟩ = some (.string cache[k].data) := by rw [hb.cell (World.block_lt_of_cell? w _ hcell1)]; exact hcell1
      clear hcell0 hcell1
      cases g1 : decide (cache[k].page < 0)
      ·
       cases g2 : decide ((pages.length : Int) ≤ cache[k].page)
       ·
        cases g3 : ((cache[k].data.size : Int) != size)
        ·
         go_wp2
         go_quiet (fail)
         go_wp2
         go_quiet (fail)
         go_wp2
         go_roundw
         case rel => exact ⟨k + 1, by omega, by go_num, by rw [← chkC_step hlt g1 g2 g3]; exact hq.out, by first | exact Below.drewN hb _ | exact Below.drewN (Below.drewN hb _) _, by simpa using hz, h0, h1, h2, h3⟩
         case measure => simp [intOf]; omega
        ·
         go_wp2
         go_quiet (fail)
         go_wp2
         go_quiet (fail)
         go_wp2
         go_ret
         exact ⟨by simp [chk, hr, hP, ← hq.out, chkC_bad3 hlt g1 g2 g3], by first | exact Below.drewN hb _ | exact Below.drewN (Below.drewN hb _) _⟩
       ·
        go_wp2
        go_quiet (fail)
        go_wp2
        go_ret
        exact ⟨by simp [chk, hr, hP, ← hq.out, chkC_bad2 hlt g2], Below.drewN hb _⟩
      ·
       go_wp2
       go_quiet (fail)
       go_wp2
       go_ret
       exact ⟨by simp [chk, hr, hP, ← hq.out, chkC_bad1 hlt g1], Below.drewN hb _⟩
     ·
      obtain rfl : k = cache.length := by omega
      have hC : chkC pages.length size cache = 0 := by rw [← hq.out]; simp [chkC]
      cases g : decide (left < -1)
      all_goals
       go_wp2
       go_ret
       exact ⟨by simp at g; simp [chk, hr, hP, hC, g]; try omega, hb⟩
theorem rangedB_tests {p s : Int} {b : Bool} (h : rangedB p s = b) : (decide (p < 1) = false ∧ decide (2000 < p) = false ∧ decide (s < 1) = false ∧ decide (512 < s) = false ∧ b = true) ∨ (decide (p < 1) = true ∧ b = false) ∨ (decide (p < 1) = false ∧ decide (2000 < p) = true ∧ b = false) ∨ (decide (p < 1) = false ∧ decide (2000 < p) = false ∧ decide (s < 1) = true ∧ b = false) ∨ (decide (p < 1) = false ∧ decide (2000 < p) = false ∧ decide (s < 1) = false ∧ decide (512 < s) = true ∧ b = false) := by
 subst h
 by_cases h1 : p < 1 <;> by_cases h2 : 2000 < p <;> by_cases h3 : s < 1 <;> by_cases h4 : 512 < s <;> simp [rangedB, h1, h2, h3, h4] <;> omega
set_option maxHeartbeats 1000000 in
theorem disk_check0 (size left : Int) (po co : Option Addr) (pc cc : Nat) (pages : List ByteArray) (cache : List PW) (w : World) {S : Nat → Prop}
  (hp : StrsAt S w po pages) (hc : PWsAt S w co cache)
  (hpl : pages.length ≤ 140737488351232) (hcl : cache.length ≤ 140737488351232) :
  Calls Tryz.prog 60 #[.agg #[.int .i64 size, .slice po pages.length pc, .slice co cache.length cc, .int .i64 left]] w fun e w' =>
  e = .returned (.int .i64 (chk ⟨size, pages, cache, left⟩)) ∧ Below w.heap.size w w' := by
 have hbw : ∀ o, Below w.heap.size w (w.alloc o) := fun o => (Below.refl _ _).alloc (Nat.le_refl _) _
 cases hr : rangedB pages.length size
 ·
  rcases rangedB_tests hr with ⟨_, _, _, _, h⟩ | ⟨a1, _⟩ | ⟨a1, a2, _⟩ | ⟨a1, a2, a3, _⟩ | ⟨a1, a2, a3, a4, _⟩
  ·
   cases h
  all_goals
   go_enter Tryz.func60, Tryz.ntmps60
   go_wp2
   go_ret
   exact ⟨by simp [chk, hr], hbw _⟩
 ·
  rcases rangedB_tests hr with ⟨a1, a2, a3, a4, h⟩ | ⟨_, h⟩ | ⟨_, _, h⟩ | ⟨_, _, _, h⟩ | ⟨_, _, _, _, h⟩
  rotate_left
  ·
   cases h
  ·
   cases h
  ·
   cases h
  ·
   cases h
  clear h
  go_enter Tryz.func60, Tryz.ntmps60
  go_wp2
  clear a1 a2 a3 a4
  go_loopw [4, 30] (fun _ i wr => ∃ k : Nat, k ≤ pages.length ∧ i = .int .i64 k ∧ chkP size (pages.drop k) = chkP size pages ∧ Below w.heap.size w wr ∧ w.heap.size < wr.heap.size ∧ BoxD wr w.heap.size size left po co pages.length pc cache.length cc) (fun _ i _ => pages.length - (intOf i).toNat)
  case atStart => exact ⟨0, Nat.zero_le _, rfl, rfl, hbw _, by simp, by simp, by simp, by simp, by simp⟩
  case round =>
   obtain ⟨k, hk, rfl, hq0, hb, hz, hB⟩ := hrel
   have hq := Lib.hid hq0; clear hq0
   have hB0 := Lib.hid hB
   obtain ⟨h0, h1, h2, h3⟩ := hB
   by_cases hlt : k < pages.length
   ·
    obtain ⟨b, off, rfl, hcell0, _⟩ := hp k hlt
    have hcell : wr.cell? ⟨b, off + k, none⟩ = some (.string pages[k]) := by rw [hb.cell (World.block_lt_of_cell? w _ hcell0)]; exact hcell0
    clear hcell0
    cases hs : ((pages[k].size : Int) != size)
    ·
     go_wp2
     go_roundw
     case rel => exact ⟨k + 1, by omega, by go_num, by rw [← chkP_step hlt hs]; exact hq.out, hb, by simpa using hz, h0, h1, h2, h3⟩
     case measure => simp [intOf]; omega
    ·
     go_wp2
     go_ret
     exact ⟨by simp [chk, hr, ← hq.out, chkP_bad hlt hs], hb⟩
   ·
    obtain rfl : k = pages.length := by omega
    have hP : chkP size pages = true := by rw [← hq.out]; simp [chkP]
    clear hlt hk
    go_wp2
    go_loopw [6, 43] (fun _ i wr => ∃ k : Nat, k ≤ cache.length ∧ i = .int .i64 k ∧ chkC pages.length size (cache.drop k) = chkC pages.length size cache ∧ Below w.heap.size w wr ∧ w.heap.size < wr.heap.size ∧ BoxD wr w.heap.size size left po co pages.length pc cache.length cc) (fun _ i _ => cache.length - (intOf i).toNat)
    case atStart => exact ⟨0, Nat.zero_le _, rfl, rfl, hb, hz, hB0.out⟩
    case round =>
     clear hB0 h0 h1 h2 h3 hb hz
     obtain ⟨k, hk, rfl, hq0, hb, hz, hB⟩ := hrel
     have hq := Lib.hid hq0; clear hq0
     obtain ⟨h0, h1, h2, h3⟩ := hB
     by_cases hlt : k < cache.length
     ·
      obtain ⟨b, off, rfl, hcell0, hcell1, _⟩ := hc k hlt
      have hcell : wr.cell? ⟨b, off + k * 2, none⟩ = some (.int .i64 cache[k].page) := by rw [hb.cell (World.block_lt_of_cell? w _ hcell0)]; exact hcell0
      have hcell' : wr.cell? ⟨b, off + k * 2 + 1, none⟩ = some (.string cache[k].data) := by rw [hb.cell (World.block_lt_of_cell? w _ hcell1)]; exact hcell1
      clear hcell0 hcell1
      cases g1 : decide (cache[k].page < 0)
      ·
       cases g2 : decide ((pages.length : Int) ≤ cache[k].page)
       ·
        cases g3 : ((cache[k].data.size : Int) != size)
        ·
         go_wp2
         go_roundw
         case rel => exact ⟨k + 1, by omega, by go_num, by rw [← chkC_step hlt g1 g2 g3]; exact hq.out, hb.alloc (by omega) _, by simp; omega, by simp [go_sem, h0, hz], by simp [go_sem, h1, hz], by simp [go_sem, h2, hz], by simp [go_sem, h3, hz]⟩
         case measure => simp [intOf]; omega
        ·
         go_wp2
         go_ret
         exact ⟨by simp [chk, hr, hP, ← hq.out, chkC_bad3 hlt g1 g2 g3], hb.alloc (by omega) _⟩
       ·
        go_wp2
        go_ret
        exact ⟨by simp [chk, hr, hP, ← hq.out, chkC_bad2 hlt g2], hb.alloc (by omega) _⟩
      ·
       go_wp2
       go_ret
       exact ⟨by simp [chk, hr, hP, ← hq.out, chkC_bad1 hlt g1], hb.alloc (by omega) _⟩
     ·
      obtain rfl : k = cache.length := by omega
      have hC : chkC pages.length size cache = 0 := by rw [← hq.out]; simp [chkC]
      cases g : decide (left < -1)
      all_goals
       go_wp2
       go_ret
       exact ⟨by simp at g; simp [chk, hr, hP, hC, g]; try omega, hb⟩
theorem disk_check (d : Dsk) (v : Value) (w : World) {S : Nat → Prop} (hD : DskR S w v d) :
  Calls Tryz.prog 60 #[v] w fun e w' => e = .returned (.int .i64 (chk d)) ∧ Below w.heap.size w w' := by
 obtain ⟨po, pc, co, cc, rfl, hp, hc, ok⟩ := hD
 exact disk_check0 d.size d.left po co pc cc d.pages d.cache w hp hc ok.pages ok.cache
theorem ref40_check (d : Dsk) (v : Value) (w : World) {S : Nat → Prop} (hD : DskR S w v d) :
  Calls Tryz.prog 70 #[v] w fun e w' => e = .returned (.int .i64 (chk d)) ∧ Below w.heap.size w w' := by
 obtain ⟨po, pc, co, cc, rfl, hp, hc, ok⟩ := hD
 exact ref40_check0 d.size d.left po co pc cc d.pages d.cache w hp hc ok.pages ok.cache
end Go.Proofs.YtghikgjknhjjgaaGreatDoor
