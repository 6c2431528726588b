/- A region that draws its order, whose operations read what was there before, make memory, and call functions that make memory: ONE walk in the order of the text serves every order. What an operation hands back may hang on the order (the numbers of the blocks that it makes): an annotation says, by the operation's number, what it looks like ('f') and what is known of it ('Φ'). Digests: arrays of 32 bytes as values and in memory. No function of the program is named here. Arrays made and built, kept whole: laws that do not unroll them. No function of the program is named here. A row of bytes that a call has made itself, frozen (if at all) behind its last cell: made by '[]byte(s)', grown byte by byte, inside a fence. No function of the program is named here. Arr's and the kit's laws on arrays, inside a fence. No function of the program is named here. Two words for Lazy: 'make([]T, n)' and 'string(b)' inside a region that draws its order. No function of the program is named here. The reference's numbers of 8 bytes: quiltref41.number, Header. Layer 40's functions as the laws meet them: a disk that lies somewhere in memory. Whether pages fit (pagelog.fits, quiltref41.Fits), the size of the area; quiltref41.read, area, header. -/
import Derived.Test.YtghikgjknhjjgaaGreatDoorQ05
import Derived.StillTail
import Derived.Deep.MidRow
import Derived.Laws.IdiomStrings
import Derived.Lib.FrozenHead
import Derived.OwnWalkIn
namespace Go.Proofs.YtghikgjknhjjgaaGreatDoor
set_option maxRecDepth 100000
open Go.RowKit
/-- what an operation has made: its free parts, and the numbers of the blocks that were made meanwhile -/
structure Rec where
 x : Nat → Value
 lo : Nat
 hi : Nat
structure Ann where
 f : Rec → Value
 Φ : Rec → World → Prop
abbrev Anns := Nat → Option Ann
abbrev Recs := Nat → Option Rec
def upr (ξ : Recs) (i : Nat) (ρ : Option Rec) : Recs := match ρ with | none => ξ | some r => fun j => if j = i then some r else ξ j
theorem upr_comm {ξ : Recs} {i j : Nat} {ρ σ : Option Rec} (h : i ≠ j) : upr (upr ξ i ρ) j σ = upr (upr ξ j σ) i ρ := by
 cases ρ <;> cases σ <;> simp only [upr]
 funext k
 by_cases h1 : k = j
 ·
  subst h1; rw [if_pos rfl, if_neg (fun e => h e.symm), if_pos rfl]
 ·
  rw [if_neg h1]
  by_cases h2 : k = i
  ·
   rw [if_pos h2, if_pos h2]
  ·
   rw [if_neg h2, if_neg h2, if_neg h1]
def factAt (an : Anns) (ξ : Recs) (j : Nat) (w : World) : Prop := ∀ A r, an j = some A → ξ j = some r → ∀ w', Below w.heap.size w w' → A.Φ r w'
theorem factAt_upr {an : Anns} {ξ : Recs} {i j : Nat} {ρ : Option Rec} {w : World} (h : j ≠ i) : factAt an (upr ξ i ρ) j w ↔ factAt an ξ j w := by
 cases ρ with
 | none => exact Iff.rfl
 | some r => unfold factAt upr; simp only [if_neg h]
section
variable {P : Program} {ops : Array Oper} {md : Region.Mode} {W0 : World} {an : Anns}
/-- operation t waits for all of these -/
def pastB (md : Region.Mode) (ops : Array Oper) : Nat → List Nat → List Nat
 | 0, S => S
 | f + 1, S => pastB md ops f ((List.range ops.size).filter fun j => S.contains j || S.any fun k => Region.waitsFor md ops k j)
def reachB (md : Region.Mode) (ops : Array Oper) (t j : Nat) : Bool := (pastB md ops 8 [t]).contains j
theorem pastB_listed {t : Nat} {listed : Array Bool} (ht : ∀ k ot, ops[t]? = some ot → (∃ e ∈ ot.after, Region.binds md e = true ∧ e.on = k) → listed.getD k false = true)
  (hc : ∀ j oj, ops[j]? = some oj → listed.getD j false = true → ∀ e ∈ oj.after, Region.binds md e = true → listed.getD e.on false = true) :
  ∀ (f : Nat) (S : List Nat), (∀ k ∈ S, k = t ∨ listed.getD k false = true) → ∀ k ∈ pastB md ops f S, k = t ∨ listed.getD k false = true
 | 0, _, h => h
 | f + 1, S, h => by
  refine pastB_listed ht hc f _ fun k hk => ?_
  obtain ⟨_, hk⟩ := List.mem_filter.1 hk
  rcases Bool.or_eq_true_iff.1 hk with hk | hk
  ·
   exact h k (by simpa using hk)
  ·
   obtain ⟨j, hj, hw⟩ := List.any_eq_true.1 hk
   obtain ⟨oj, hoj, e, he, hb, hon⟩ := Region.waitsFor_spec hw
   right
   rcases h j hj with rfl | hl
   ·
    exact ht k oj hoj ⟨e, he, hb, hon⟩
   ·
    rw [← hon]; exact hc j oj hoj hl e he hb
theorem reach_listed {t j : Nat} {listed : Array Bool} (ht : t ∈ Region.ready md ops listed)
  (hc : ∀ j oj, ops[j]? = some oj → listed.getD j false = true → ∀ e ∈ oj.after, Region.binds md e = true → listed.getD e.on false = true) (h : reachB md ops t j = true) : j = t ∨ listed.getD j false = true := by
 obtain ⟨_, ot, hot, hall⟩ := mem_ready.1 ht
 refine pastB_listed (t := t) (fun k ot' h1 ⟨e, he, hb, hon⟩ => ?_) hc 8 [t] (fun k hk => .inl (by simpa using hk)) j (by simpa [reachB] using h)
 obtain rfl : ot' = ot := Option.some.inj (h1.symm.trans hot)
 rw [← hon]; exact hall e he hb
/-- an operation that can hand back nothing but a value -/
def valB : Op → Bool
 | .move _ | .assign _ | .pick .. | .load .. | .binOp .. | .unOp .. | .convert .. | .slice .. | .fieldAddr .. | .field .. | .indexAddr .. | .index .. | .extract .. => true
 | .call c => match c.callee with
  | .builtin .len | .builtin .cap => true
  | _ => false
 | _ => false
def lzAt (P : Program) (o : Oper) (a : Act) (w : World) (Post : Value → World → Prop) : Prop :=
 match (execOp a.eval o).run P w with
 | .ok (.value u) w' => Post u w'
 | .ok .skip w' => Post undef w'
 | .ok (.enter f args) w' => Calls P f args w' fun e w'' => ∃ v, e = .returned v ∧ Post v w''
 | _ => False
theorem wp_of_lz {o : Oper} {a : Act} {w : World} {Post : Value → World → Prop} {K : Act → World → Prop} {Q : Exit → Act → World → Prop} (h : lzAt P o a w Post) (hK : ∀ v w', Post v w' → K (a.put o.dst v) w') : o.wp P a w K Q := by
 unfold lzAt at h
 unfold Oper.wp
 generalize (execOp a.eval o).run P w = r at *
 cases r with
 | ok n w' =>
  cases n <;> simp only [Oper.upon] at h ⊢
  case value u => exact hK _ _ h
  case skip => exact hK _ _ h
  case enter f args => exact h.mono fun e w'' ⟨v, he, hp⟩ => by subst he; exact hK _ _ hp
 | halt x w' => exact h.elim
/-- a world that has come out of W0 -/
def LatC (W0 : World) (w : World) : Prop := ∃ y : Lat W0, w = y.w
/-- what is asked of an annotated operation -/
def lzPost (A : Ann) (w : World) (v : Value) (w' : World) : Prop := Below w.heap.size w w' ∧ ∃ x, v = A.f ⟨x, w.heap.size, w'.heap.size⟩ ∧ ∀ w'', Below w'.heap.size w' w'' → A.Φ ⟨x, w.heap.size, w'.heap.size⟩ w''
def Lazily (P : Program) (ops : Array Oper) (md : Region.Mode) (an : Anns) (W0 : World) (i : Nat) (o : Oper) (A : Ann) (ξ : Recs) (a : Act) : Prop :=
 ∀ w, Below W0.heap.size W0 w → (∀ j, reachB md ops i j = true → factAt an ξ j w) → lzAt P o a w (lzPost A w)
/-- the outcomes of operation i -/
inductive Outs (P : Program) (ops : Array Oper) (md : Region.Mode) (an : Anns) (W0 : World) (i : Nat) (o : Oper) (ξ : Recs) (a : Act) : (Option Rec → Value → Prop) → Prop
 | skip (hw : Region.wanted o (yielded ops a.tmps) = false) : Outs P ops md an W0 i o ξ a (fun ρ v => ρ = none ∧ v = undef)
 | quiet (v : Value) (hw : Region.wanted o (yielded ops a.tmps) = true) (hn : an i = none) (hr : ∀ w, LatC W0 w → (execOp a.eval o).run P w = .ok (.value v) w) : Outs P ops md an W0 i o ξ a (fun ρ u => ρ = none ∧ u = v)
 | lzy (A : Ann) (hw : Region.wanted o (yielded ops a.tmps) = true) (hn : an i = some A) (hl : Lazily P ops md an W0 i o A ξ a) : Outs P ops md an W0 i o ξ a (fun ρ u => ∃ r, ρ = some r ∧ u = A.f r)
theorem Outs.some {i : Nat} {o : Oper} {ξ : Recs} {a : Act} {S : Option Rec → Value → Prop} (h : Outs P ops md an W0 i o ξ a S) : ∃ ρ v, S ρ v := by
 cases h
 ·
  exact ⟨_, _, rfl, rfl⟩
 ·
  exact ⟨_, _, rfl, rfl⟩
 ·
  exact ⟨_, _, ⟨fun _ => undef, 0, 0⟩, rfl, rfl⟩
theorem latC_refl (W0 : World) : LatC W0 W0 := ⟨⟨W0, Below.refl _ _⟩, rfl⟩
theorem Outs.uniq {i : Nat} {o : Oper} {ξ : Recs} {a : Act} {S S' : Option Rec → Value → Prop} (h : Outs P ops md an W0 i o ξ a S) (h' : Outs P ops md an W0 i o ξ a S') : S = S' := by
 cases h with
 | skip hw => cases h' with
  | skip => rfl
  | quiet _ hw' => rw [hw] at hw'; cases hw'
  | lzy _ hw' => rw [hw] at hw'; cases hw'
 | quiet v hw hn hr => cases h' with
  | skip hw' => rw [hw] at hw'; cases hw'
  | quiet v' _ _ hr' =>
   have e := (hr W0 (latC_refl W0)).symm.trans (hr' W0 (latC_refl W0))
   injection e with e1 e2
   injection e1 with e3
   rw [e3]
  | lzy _ _ hn' => rw [hn] at hn'; cases hn'
 | lzy A hw hn hl => cases h' with
  | skip hw' => rw [hw] at hw'; cases hw'
  | quiet _ _ hn' => rw [hn] at hn'; cases hn'
  | lzy A' _ hn' => rw [hn] at hn'; cases hn'; rfl
/-- the outcomes of i stay the same when an operation apart from i has yielded -/
theorem Outs.apart {i : Nat} {oi : Oper} {ξ ξ' : Recs} {a a' : Act} {S : Option Rec → Value → Prop} (he : execOp a'.eval oi = execOp a.eval oi) (hw' : Region.wanted oi (yielded ops a'.tmps) = Region.wanted oi (yielded ops a.tmps))
  (hf : ∀ k w, reachB md ops i k = true → (factAt an ξ' k w → factAt an ξ k w)) (h : Outs P ops md an W0 i oi ξ a S) : Outs P ops md an W0 i oi ξ' a' S := by
 cases h with
 | skip hw => exact .skip (hw' ▸ hw)
 | quiet v hw hn hr => exact .quiet v (hw' ▸ hw) hn (by rw [he]; exact hr)
 | lzy A hw hn hl =>
  refine .lzy A (hw' ▸ hw) hn fun w hb hk => ?_
  have := hl w hb fun k hr => hf k w hr (hk k hr)
  unfold lzAt at this ⊢
  rw [he]; exact this
def StepK (P : Program) (ops : Array Oper) (md : Region.Mode) (an : Anns) (W0 : World) (i : Nat) (o : Oper) (ξ : Recs) (a : Act) (K : Recs → Act → Prop) : Prop :=
 ∃ S, Outs P ops md an W0 i o ξ a S ∧ ∀ ρ v, S ρ v → K (upr ξ i ρ) (a.put o.dst v)
theorem StepK.mono {i : Nat} {o : Oper} {ξ : Recs} {a : Act} {K K' : Recs → Act → Prop} (h : StepK P ops md an W0 i o ξ a K) (hK : ∀ ξ a, K ξ a → K' ξ a) : StepK P ops md an W0 i o ξ a K' := by
 obtain ⟨S, h1, h2⟩ := h
 exact ⟨S, h1, fun ρ v hs => hK _ _ (h2 ρ v hs)⟩
/-- i is taken ahead of j: then j may be taken ahead of i -/
theorem StepK.swap {i j : Nat} {oi oj : Oper} {ξ : Recs} {a : Act} {S : Option Rec → Value → Prop} {K : Recs → Act → Prop} (hij : i ≠ j) (hap : oi.apart ops oj = true)
  (hsi : ∀ cs b, oi.op ≠ .select cs b) (hsj : ∀ cs b, oj.op ≠ .select cs b) (hri : reachB md ops i j = false) (hrj : reachB md ops j i = false)
  (hi : Outs P ops md an W0 i oi ξ a S) (h : ∀ ρ v, S ρ v → StepK P ops md an W0 j oj (upr ξ i ρ) (a.put oi.dst v) K) :
  StepK P ops md an W0 j oj ξ a (fun ξ' a' => Outs P ops md an W0 i oi ξ' a' S ∧ ∀ ρ v, S ρ v → K (upr ξ' i ρ) (a'.put oi.dst v)) := by
 obtain ⟨h1, h2, h3⟩ := Oper.apart_spec hap
 have back : ∀ ρ v T, Outs P ops md an W0 j oj (upr ξ i ρ) (a.put oi.dst v) T → Outs P ops md an W0 j oj ξ a T := fun ρ v T hT =>
  Outs.apart (execOp_put oj hsj a oi.dst v h1).symm (wanted_put oj a oi.dst v h1).symm (fun k w hr hk => (factAt_upr (fun e => by subst e; rw [hrj] at hr; cases hr)).2 hk) hT
 obtain ⟨ρ0, v0, hs0⟩ := hi.some
 obtain ⟨T, hT, _⟩ := h ρ0 v0 hs0
 refine ⟨T, back _ _ _ hT, fun σ u hu => ⟨?_, fun ρ v hs => ?_⟩⟩
 ·
  exact Outs.apart (execOp_put oi hsi a oj.dst u h3) (wanted_put oi a oj.dst u h3) (fun k w hr hk => (factAt_upr (fun e => by subst e; rw [hri] at hr; cases hr)).1 hk) hi
 ·
  obtain ⟨T', hT', hK⟩ := h ρ v hs
  have := (back _ _ _ hT').uniq (back _ _ _ hT)
  subst this
  have := hK σ u hu
  rw [upr_comm hij, Act.put_comm a v u h2] at this
  exact this
/-- the head's operations in whatever order; L: what is asked when the head is done -/
def AO (P : Program) (ops : Array Oper) (md : Region.Mode) (an : Anns) (W0 : World) (n : Nat) (L : Array Bool → Recs → Act → Prop) : Nat → Array Bool → Recs → Act → Prop
 | 0, listed, ξ, a => L listed ξ a
 | f + 1, listed, ξ, a => Region.ready md ops listed ≠ [] ∧ ∀ i ∈ Region.ready md ops listed, i < n ∧ ∀ o, ops[i]? = some o → StepK P ops md an W0 i o ξ a (AO P ops md an W0 n L f (listed.setIfInBounds i true))
structure Closed (md : Region.Mode) (ops : Array Oper) (n : Nat) (listed : Array Bool) : Prop where
 size : listed.size = ops.size
 closed : ∀ j oj, ops[j]? = some oj → listed.getD j false = true → ∀ e ∈ oj.after, Region.binds md e = true → listed.getD e.on false = true
theorem Closed.set {n i : Nat} {listed : Array Bool} (inv : Closed md ops n listed) (hi : i ∈ Region.ready md ops listed) : Closed md ops n (listed.setIfInBounds i true) := by
 obtain ⟨_, oi, hoi, hall⟩ := mem_ready.1 hi
 refine ⟨by simp [inv.size], fun j oj hj hl e he hb => ?_⟩
 by_cases hij : i = j
 ·
  subst hij
  have : oj = oi := Option.some.inj (hj.symm.trans hoi)
  subst this
  exact getD_set_true (hall e he hb)
 ·
  rw [getD_set_ne false hij] at hl
  exact getD_set_true (inv.closed j oj hj hl e he hb)
def sinkAllB (md : Region.Mode) (ops : Array Oper) (n : Nat) : Bool := (List.range ops.size).all fun t => decide (t < n) || (List.range n).all fun i => (pastB md ops 8 [t]).contains i
theorem AO_first {n i : Nat} {oi : Oper} {S : Option Rec → Value → Prop} {L : Array Bool → Recs → Act → Prop} (hi : ops[i]? = some oi) (hsel : ∀ (j : Nat) (o : Oper) cs b, ops[j]? = some o → o.op ≠ .select cs b)
  (hs : sinkAllB md ops n = true) (hin : i < n) (hdone : ∀ listed ξ a, L listed ξ a → ∀ j ∈ Region.ready md ops listed, n ≤ j) :
  ∀ (f : Nat) (listed : Array Bool) (ξ : Recs) (a : Act), Closed md ops n listed →
   (∀ j oj, ops[j]? = some oj → j ≠ i → listed.getD j true = false → (∀ e ∈ oj.after, Region.binds md e = true → e.on ≠ i) → oi.apart ops oj = true) →
   i ∈ Region.ready md ops listed → Outs P ops md an W0 i oi ξ a S →
   (∀ ρ v, S ρ v → AO P ops md an W0 n L f (listed.setIfInBounds i true) (upr ξ i ρ) (a.put oi.dst v)) → AO P ops md an W0 n L (f + 1) listed ξ a := by
 intro f
 have head : ∀ (listed : Array Bool), Closed md ops n listed → i ∈ Region.ready md ops listed → ∀ j ∈ Region.ready md ops listed, j < n := by
  intro listed inv hr j hj
  rcases Nat.lt_or_ge j n with h | h
  ·
   exact h
  ·
   exfalso
   have hlt : j < ops.size := by obtain ⟨_, oj, hoj, _⟩ := mem_ready.1 hj; exact (Array.getElem?_eq_some_iff.1 hoj).1
   have h1 := List.all_eq_true.1 hs j (List.mem_range.2 hlt)
   simp only [Bool.or_eq_true, decide_eq_true_eq] at h1
   rcases h1 with h1 | h1
   ·
    omega
   ·
    rcases reach_listed hj inv.closed (List.all_eq_true.1 h1 i (List.mem_range.2 hin)) with h2 | h2
    ·
     omega
    ·
     rw [getD_both (mem_ready.1 hr).1] at h2; cases h2
 induction f with
 | zero =>
  intro listed ξ a inv _ hr hy H
  refine ⟨fun h => (by rw [h] at hr; cases hr), fun j hj => ⟨head listed inv hr j hj, fun oj hoj => ?_⟩⟩
  by_cases hji : j = i
  ·
   subst hji
   obtain rfl : oj = oi := Option.some.inj (hoj.symm.trans hi)
   exact ⟨S, hy, H⟩
  ·
   obtain ⟨ρ, v, hs⟩ := hy.some
   have := hdone _ _ _ (H ρ v hs) j (ready_mono hj hji)
   have := head listed inv hr j hj
   omega
 | succ f ih =>
  intro listed ξ a inv hfree hr hy H
  refine ⟨fun h => (by rw [h] at hr; cases hr), fun j hj => ⟨head listed inv hr j hj, fun oj hoj => ?_⟩⟩
  by_cases hji : j = i
  ·
   subst hji
   obtain rfl : oj = oi := Option.some.inj (hoj.symm.trans hi)
   exact ⟨S, hy, H⟩
  ·
   obtain ⟨hjun, oj', hoj', hall⟩ := mem_ready.1 hj
   obtain rfl : oj' = oj := Option.some.inj (hoj'.symm.trans hoj)
   have hun := (mem_ready.1 hr).1
   have hnot : ∀ e ∈ oj'.after, Region.binds md e = true → e.on ≠ i := fun e he hb heq => by
    have h1 := hall e he hb
    rw [heq, getD_both hun] at h1
    cases h1
   have hri : reachB md ops i j = false := by
    cases h : reachB md ops i j with
    | false => rfl
    | true =>
     rcases reach_listed hr inv.closed h with h2 | h2
     ·
      exact absurd h2 hji
     ·
      rw [getD_both hjun] at h2; cases h2
   have hrj : reachB md ops j i = false := by
    cases h : reachB md ops j i with
    | false => rfl
    | true =>
     rcases reach_listed hj inv.closed h with h2 | h2
     ·
      exact absurd h2.symm hji
     ·
      rw [getD_both hun] at h2; cases h2
   have hfree' : ∀ k ok, ops[k]? = some ok → k ≠ i → (listed.setIfInBounds j true).getD k true = false →
     (∀ e ∈ ok.after, Region.binds md e = true → e.on ≠ i) → oi.apart ops ok = true := fun k ok hk hki hun hno => by
    refine hfree k ok hk hki ?_ hno
    by_cases hjk : j = k
    ·
     subst hjk; exact hjun
    ·
     rw [getD_set_ne true hjk] at hun; exact hun
   refine (StepK.swap (Ne.symm hji) (hfree j oj' hoj hji hjun hnot) (fun cs b => hsel i oi cs b hi) (fun cs b => hsel j oj' cs b hoj) hri hrj hy fun ρ v hs => ((H ρ v hs).2 j (ready_mono hj hji)).2 oj' hoj).mono ?_
   rintro ξ' a' ⟨h1, h2⟩
   refine ih (listed.setIfInBounds j true) ξ' a' (inv.set hj) hfree' (ready_mono hr (Ne.symm hji)) h1 fun ρ v hs => ?_
   rw [Array.setIfInBounds_comm _ _ hji]
   exact h2 ρ v hs
/-- what is known at a world -/
structure Good (an : Anns) (W0 : World) (ξ : Recs) (w : World) : Prop where
 below : Below W0.heap.size W0 w
 fact : ∀ j, factAt an ξ j w
 range : ∀ j r, ξ j = some r → W0.heap.size ≤ r.lo ∧ r.lo ≤ r.hi ∧ r.hi ≤ w.heap.size
 apart : ∀ i j r s, i ≠ j → ξ i = some r → ξ j = some s → r.hi ≤ s.lo ∨ s.hi ≤ r.lo
theorem Good.start (an : Anns) {W0 w : World} (h : Below W0.heap.size W0 w) : Good an W0 (fun _ => none) w :=
 ⟨h, (fun _ _ _ _ h => by cases h), (fun _ _ h => by cases h), (fun _ _ _ _ _ h => by cases h)⟩
theorem Good.add {ξ : Recs} {w w' : World} {i : Nat} {A : Ann} {x : Nat → Value} (h : Good an W0 ξ w) (hb : Below w.heap.size w w') (hA : an i = some A) (hΦ : ∀ w'', Below w'.heap.size w' w'' → A.Φ ⟨x, w.heap.size, w'.heap.size⟩ w'') :
  Good an W0 (upr ξ i (some ⟨x, w.heap.size, w'.heap.size⟩)) w' := by
 have hz := hb.size
 have hz0 := h.below.size
 have each : ∀ j r, upr ξ i (some ⟨x, w.heap.size, w'.heap.size⟩) j = some r → (j = i ∧ r = ⟨x, w.heap.size, w'.heap.size⟩) ∨ (j ≠ i ∧ ξ j = some r) := by
  intro j r hj
  unfold upr at hj
  by_cases e : j = i
  ·
   left; simp only [if_pos e] at hj; exact ⟨e, (Option.some.inj hj).symm⟩
  ·
   right; simp only [if_neg e] at hj; exact ⟨e, hj⟩
 refine ⟨h.below.trans (hb.mono hz0), ?_, ?_, ?_⟩
 ·
  intro j B r hB hr w'' hb''
  rcases each j r hr with ⟨rfl, rfl⟩ | ⟨_, hr⟩
  ·
   rw [hA] at hB; cases hB; exact hΦ w'' hb''
  ·
   exact h.fact j B r hB hr w'' (hb.trans (hb''.mono hz))
 ·
  intro j r hr
  rcases each j r hr with ⟨rfl, rfl⟩ | ⟨_, hr⟩
  ·
   exact ⟨hz0, hz, Nat.le_refl _⟩
  ·
   obtain ⟨h1, h2, h3⟩ := h.range j r hr
   exact ⟨h1, h2, by omega⟩
 ·
  intro j k r s hjk hr hs
  rcases each j r hr with ⟨e1, e2⟩ | ⟨_, hr'⟩
  ·
   rcases each k s hs with ⟨e3, _⟩ | ⟨_, hs'⟩
   ·
    exact absurd (e1.trans e3.symm) hjk
   ·
    right; rw [e2]; exact (h.range k s hs').2.2
  ·
   rcases each k s hs with ⟨_, e4⟩ | ⟨_, hs'⟩
   ·
    left; rw [e4]; exact (h.range j r hr').2.2
   ·
    exact h.apart j k r s hjk hr' hs'
theorem wpAny_of_AO {n g : Nat} {L : Array Bool → Recs → Act → Prop} {Q' : Exit → Act → World → Prop} (hL : ∀ listed ξ a w, L listed ξ a → Good an W0 ξ w → wpAny P md ops Q' g listed a w) :
  ∀ (f : Nat) (listed : Array Bool) (ξ : Recs) (a : Act) (w : World), AO P ops md an W0 n L f listed ξ a → Good an W0 ξ w → wpAny P md ops Q' (f + g) listed a w
 | 0, listed, ξ, a, w, h, hg => by rw [Nat.zero_add]; exact hL _ _ _ _ h hg
 | f + 1, listed, ξ, a, w, h, hg => by
  rw [show f + 1 + g = (f + g) + 1 by omega]
  refine ⟨fun h0 => absurd h0 h.1, fun i hi => ?_⟩
  obtain ⟨_, oi, hoi, _⟩ := mem_ready.1 hi
  obtain ⟨S, hS, hK⟩ := (h.2 i hi).2 oi hoi
  unfold wpOp
  simp only [hoi]
  cases hS with
  | skip hw =>
   rw [if_neg (by rw [hw]; exact Bool.false_ne_true)]
   exact wpAny_of_AO hL f _ _ _ _ (hK none undef ⟨rfl, rfl⟩) hg
  | quiet v hw hn hr =>
   rw [if_pos hw]
   left
   unfold Oper.wp
   rw [hr w ⟨⟨w, hg.below⟩, rfl⟩]
   exact wpAny_of_AO hL f _ _ _ _ (hK none v ⟨rfl, rfl⟩) hg
  | lzy A hw hn hl =>
   rw [if_pos hw]
   left
   refine wp_of_lz (hl w hg.below fun j _ => hg.fact j) ?_
   rintro v w' ⟨hb, x, rfl, hΦ⟩
   exact wpAny_of_AO hL f _ _ _ _ (hK _ _ ⟨_, rfl, rfl⟩) (hg.add hb hn hΦ)
/-- the walk in the order of the text -/
def LW (P : Program) (ops : Array Oper) (md : Region.Mode) (an : Anns) (W0 : World) (Q : Recs → Act → Prop) : List Oper → Nat → Recs → Act → Prop
 | [], _, ξ, a => Q ξ a
 | o :: r, k, ξ, a => StepK P ops md an W0 k o ξ a (LW P ops md an W0 Q r (k + 1))
def setTo (listed : Array Bool) : Nat → Nat → Array Bool
 | 0, _ => listed
 | f + 1, k => setTo (listed.setIfInBounds k true) f (k + 1)
def lazyHead (md : Region.Mode) (ops : Array Oper) (n : Nat) : Nat → Nat → Array Bool → Bool
 | 0, _, listed => (Region.ready md ops listed).all fun j => decide (n ≤ j)
 | f + 1, k, listed => (Region.ready md ops listed).contains k && Region.free md ops listed k && lazyHead md ops n f (k + 1) (listed.setIfInBounds k true)
def lazyB (md : Region.Mode) (ops : Array Oper) (n : Nat) : Bool := Region.noSelect ops && sinkAllB md ops n && lazyHead md ops n n 0 (Array.replicate ops.size false)
theorem AO_lex {n : Nat} {Lq : Recs → Act → Prop} (hsel : Region.noSelect ops = true) (hs : sinkAllB md ops n = true) (done : Array Bool) (hdn : (Region.ready md ops done).all (fun j => decide (n ≤ j)) = true) :
  ∀ (l : List Oper) (k : Nat) (listed : Array Bool) (ξ : Recs) (a : Act), (∀ j, j < l.length → l[j]? = ops[k + j]?) → k + l.length = n → Closed md ops n listed → setTo listed l.length k = done →
  lazyHead md ops n l.length k listed = true → LW P ops md an W0 Lq l k ξ a → AO P ops md an W0 n (fun listed' ξ' a' => listed' = done ∧ Lq ξ' a') l.length listed ξ a
 | [], k, listed, ξ, a, _, _, _, hd, _, h => ⟨hd, h⟩
 | o :: l, k, listed, ξ, a, hl, hk, inv, hd, hB, h => by
  have h0 : ops[k]? = some o := by simpa using (hl 0 (by simp)).symm
  simp only [List.length_cons, lazyHead, Bool.and_eq_true] at hB
  obtain ⟨⟨hr, hf⟩, hB'⟩ := hB
  have hkn : k < n := by simp only [List.length_cons] at hk; omega
  have hr' : k ∈ Region.ready md ops listed := by simpa using hr
  obtain ⟨S, hS, hK⟩ := h
  refine AO_first h0 (Region.noSelect_spec hsel) hs hkn (fun listed' _ a' hL j hj => ?_) l.length listed ξ a inv (Region.free_spec h0 hf) hr' hS fun ρ v hs' => ?_
  ·
   rw [hL.1] at hj; exact of_decide_eq_true (List.all_eq_true.1 hdn j hj)
  ·
   exact AO_lex hsel hs done hdn l (k + 1) _ _ _ (fun j hj => by have := hl (j + 1) (by simp; omega); simpa [Nat.add_assoc, Nat.add_comm 1 j] using this) (by simp only [List.length_cons] at hk; omega) (inv.set hr') (by simpa [setTo] using hd) hB' (hK ρ v hs')
theorem lazyHead_done {n : Nat} : ∀ (f k : Nat) (listed : Array Bool), lazyHead md ops n f k listed = true → (Region.ready md ops (setTo listed f k)).all (fun j => decide (n ≤ j)) = true
 | 0, _, _, h => h
 | f + 1, k, listed, h => by
  simp only [lazyHead, Bool.and_eq_true] at h
  exact lazyHead_done f (k + 1) _ h.2
theorem wp_region_lazy {id : Nat} {Q : Exit → Act → World → Prop} {a : Act} {w : World} {l : List Oper} (n : Nat) (an : Anns) (hm : P.follows .mixedOrders = true) (hn : n ≤ l.length) (hB : lazyB .any l.toArray n = true)
  (h : LW P l.toArray .any an w (fun ξ a' => ∀ w', Good an w ξ w' → wpAny P .any l.toArray Q (l.length - n) (setTo (Array.replicate l.length false) n 0) a' w') (l.take n) 0 (fun _ => none) a) : (Code.region id l.toArray true).wp P Q a w := by
 simp only [lazyB, Bool.and_eq_true] at hB
 obtain ⟨⟨hsel, hs⟩, hlex⟩ := hB
 have htl : (l.take n).length = n := by simp; omega
 have inv0 : Closed .any l.toArray n (Array.replicate l.toArray.size false) := ⟨by simp, fun j oj _ hl => (by rw [getD_replicate_false] at hl; cases hl)⟩
 have hdn := lazyHead_done _ _ _ hlex
 have H := AO_lex (md := .any) hsel hs _ hdn (l.take n) 0 _ _ a (fun j hj => by
  have hj' : j < n := by rw [htl] at hj; exact hj
  simp [hj']) (by simpa using htl) inv0 (by rw [htl]) (by rw [htl]; exact hlex) h
 refine wp_region_any hm ?_
 simp only [List.size_toArray] at H
 have := wpAny_of_AO (g := l.length - n) (Q' := Q) (w := { w with drawn := w.drawn + 1 }) (fun listed ξ a' w' hL hg => ?_) _ _ _ _ H (Good.start an ((Below.refl _ w).drew))
 ·
  rw [htl] at this
  simpa [show n + (l.length - n) = l.length by omega] using this
 ·
  rw [hL.1]
  simpa using hL.2 w' hg
theorem wp_region_lz {id : Nat} {Q : Exit → Act → World → Prop} {a : Act} {w : World} {l : List Oper} (n g : Nat) (done : Array Bool) (an : Anns) (hm : P.follows .mixedOrders = true) (hn : l.length = n + g) (hd : setTo (Array.replicate l.length false) n 0 = done) (hB : lazyB .any l.toArray n = true)
  (h : LW P l.toArray .any an w (fun ξ a' => ∀ w', Good an w ξ w' → wpAny P .any l.toArray Q g done a' w') (l.take n) 0 (fun _ => none) a) : (Code.region id l.toArray true).wp P Q a w := by
 refine wp_region_lazy n an hm (by omega) hB ?_
 rw [hd, show l.length - n = g by omega]
 exact h
theorem bind_value {P : Program} {s : Sem Value} {w w' : World} {n : Next} (h : (do pure (Next.value (← s)) : Sem Next).run P w = .ok n w') : ∃ u, n = .value u := by
 rw [Sem.run_bind] at h
 cases hr : Sem.run P s w with
 | ok u w1 => rw [hr] at h; simp [Result.andThen] at h; exact ⟨u, h.1.symm⟩
 | halt x w1 => rw [hr] at h; simp [Result.andThen] at h
theorem valB_run {o : Oper} {ρ : Operand → Value} {w w' : World} {n : Next} (hv : valB o.op = true) (h : (execOp ρ o).run P w = .ok n w') : ∃ u, n = .value u := by
 unfold execOp at h
 cases ho : o.op <;> rw [ho] at hv h <;> first | (cases hv; done) | exact bind_value h | skip
 case move x => simp at h; exact ⟨_, h.1.symm⟩
 case assign x => simp at h; exact ⟨_, h.1.symm⟩
 case pick c a b =>
  dsimp only at h
  rw [Sem.run_bind] at h
  cases hr : Sem.run P (asBool (ρ c)) w with
  | ok u w1 => rw [hr] at h; simp [Result.andThen] at h; exact ⟨_, h.1.symm⟩
  | halt x w1 => rw [hr] at h; simp [Result.andThen] at h
 case call c =>
  unfold valB at hv
  dsimp only at h hv
  cases hc : c.callee with
  | builtin b =>
   rw [hc] at hv
   cases b <;> first | (cases hv; done) | skip
   all_goals
    simp [resolve, hc, invoke, builtin] at h
    generalize Sem.run P _ w = r at h
    cases r with
    | ok u w1 => simp [Result.andThen] at h; exact ⟨_, h.1.symm⟩
    | halt x w1 => simp [Result.andThen] at h
  | value f => rw [hc] at hv; cases hv
  | invoke r m => rw [hc] at hv; cases hv
theorem wpQuiet_LW {W0 : World} {Q : Recs → Act → Prop} : ∀ (qs rest : List Oper) (k : Nat) (ξ : Recs) (a : Act), qs.all (fun o => valB o.op) = true → (List.range qs.length).all (fun i => (an (k + i)).isNone) = true →
  wpQuiet P ops (LatC W0) (fun a' => LW P ops md an W0 Q rest (k + qs.length) ξ a') qs a → LW P ops md an W0 Q (qs ++ rest) k ξ a
 | [], rest, k, ξ, a, _, _, h => h
 | o :: qs, rest, k, ξ, a, hv, hn, h => by
  simp only [List.all_cons, Bool.and_eq_true] at hv
  have hn0 : an k = none := by have := List.all_eq_true.1 hn 0 (List.mem_range.2 (by simp)); simpa using this
  have hn' : (List.range qs.length).all (fun i => (an (k + 1 + i)).isNone) = true := List.all_eq_true.2 fun i hi => by
   have := List.all_eq_true.1 hn (i + 1) (List.mem_range.2 (by have := List.mem_range.1 hi; simp; omega))
   rwa [show k + (i + 1) = k + 1 + i by omega] at this
  have next : ∀ a', wpQuiet P ops (LatC W0) (fun a'' => LW P ops md an W0 Q rest (k + (qs.length + 1)) ξ a'') qs a' → LW P ops md an W0 Q (qs ++ rest) (k + 1) ξ a' := fun a' h' =>
   wpQuiet_LW qs rest (k + 1) ξ a' hv.2 hn' (by rwa [show k + 1 + qs.length = k + (qs.length + 1) by omega])
  unfold wpQuiet at h
  show StepK P ops md an W0 k o ξ a (LW P ops md an W0 Q (qs ++ rest) (k + 1))
  by_cases hw : Region.wanted o (yielded ops a.tmps) = true
  ·
   rw [if_pos hw] at h
   obtain ⟨v, h1, h2⟩ := h
   refine ⟨_, .quiet v hw hn0 fun w hC => ?_, ?_⟩
   ·
    have := h1 w hC
    unfold Oper.quietAt at this
    generalize hr : (execOp a.eval o).run P w = r at this
    cases r with
    | ok n w' =>
     obtain ⟨u, rfl⟩ := valB_run hv.1 hr
     obtain ⟨rfl, rfl⟩ := this
     rfl
    | halt x w' => exact this.elim
   ·
    rintro ρ u ⟨rfl, rfl⟩
    exact next _ h2
  ·
   rw [if_neg hw] at h
   refine ⟨_, .skip (by simpa using hw), ?_⟩
   rintro ρ u ⟨rfl, rfl⟩
   exact next _ h
/-- the next m operations: none of them annotated, none of them a call -/
theorem LW.block {W0 : World} {Q : Recs → Act → Prop} {l : List Oper} {k : Nat} {ξ : Recs} {a : Act} (m k' : Nat) (hk : k + (l.take m).length = k') (hv : (l.take m).all (fun o => valB o.op) = true) (hn : (List.range (l.take m).length).all (fun i => (an (k + i)).isNone) = true)
  (h : wpQuiet P ops (fun w => ∃ y : Lat W0, w = y.w) (fun a' => LW P ops md an W0 Q (l.drop m) k' ξ a') (l.take m) a) : LW P ops md an W0 Q l k ξ a := by
 subst hk
 have := wpQuiet_LW (l.take m) (l.drop m) k ξ a hv hn h
 rwa [List.take_append_drop] at this
/-- an annotated operation -/
theorem LW.lzy {W0 : World} {Q : Recs → Act → Prop} {o : Oper} {rest : List Oper} {k : Nat} {ξ : Recs} {a : Act} (A : Ann) (hw : Region.wanted o (yielded ops a.tmps) = true) (hA : an k = some A)
  (hl : ∀ y : Lat W0, (∀ j, reachB md ops k j = true → factAt an ξ j y.w) → lzAt P o a y.w (lzPost A y.w)) (h : ∀ r : Rec, LW P ops md an W0 Q rest (k + 1) (upr ξ k (some r)) (a.put o.dst (A.f r))) : LW P ops md an W0 Q (o :: rest) k ξ a := by
 refine ⟨_, .lzy A hw hA fun w hb hk => hl ⟨w, hb⟩ hk, ?_⟩
 rintro ρ u ⟨r, rfl, rfl⟩
 exact h r
theorem LW.skip {W0 : World} {Q : Recs → Act → Prop} {o : Oper} {rest : List Oper} {k : Nat} {ξ : Recs} {a : Act} (hw : Region.wanted o (yielded ops a.tmps) = false) (h : LW P ops md an W0 Q rest (k + 1) ξ (a.put o.dst undef)) : LW P ops md an W0 Q (o :: rest) k ξ a := by
 refine ⟨_, .skip hw, ?_⟩
 rintro ρ u ⟨rfl, rfl⟩
 exact h
theorem LW.done {W0 : World} {Q : Recs → Act → Prop} {k : Nat} {ξ : Recs} {a : Act} (h : Q ξ a) : LW P ops md an W0 Q [] k ξ a := h
/-- a fact that an operation waits for -/
theorem factAt.get {ξ : Recs} {j : Nat} {w : World} {A : Ann} {r : Rec} (h : factAt an ξ j w) (hA : an j = some A) (hr : ξ j = some r) : A.Φ r w := h A r hA hr w (Below.refl _ _)
theorem Good.get {W0 : World} {ξ : Recs} {w : World} (h : Good an W0 ξ w) (j : Nat) {A : Ann} {r : Rec} (hA : an j = some A) (hr : ξ j = some r) : A.Φ r w := (h.fact j).get hA hr
end
end Go.Proofs.YtghikgjknhjjgaaGreatDoor
namespace Go.Proofs.YtghikgjknhjjgaaGreatDoor
set_option maxRecDepth 100000
open Go.RowKit
theorem Bx.range {w : World} {b : Nat} {cs : Array Value} {t : TypeId} (h : Bx w b cs t) : w.rangeAt b 0 cs.toList := by
 intro j v hv
 rw [Nat.zero_add, h.cell]
 simpa using hv
end Go.Proofs.YtghikgjknhjjgaaGreatDoor
namespace Go.Proofs.YtghikgjknhjjgaaGreatDoor
set_option maxRecDepth 100000
open Go.RowKit
section
variable {P : Program} {ops : Array Oper} {rest : List Oper} {o : Oper} {a : Act} {Q : Exit → Act → World → Prop} {w : World}
end
section
variable {P : Program} {ops : Array Oper} {rest : List Oper} {o : Oper} {a : Act} {Q : Exit → Act → World → Prop} {w : World}
end
section
variable {P : Program} {ops : Array Oper} {rest : List Oper} {o : Oper} {a : Act} {Q : Exit → Act → World → Prop} {w : World}
end
/-- the annotation of a call that answers one value -/
def annK (v : Value) : Ann := ⟨fun _ => v, fun _ _ => True⟩
theorem lz_constB {P : Program} {f : FuncId} {args : Array Value} {v : Value} {W : World} (h : Calls P f args W fun e w' => e = .returned v ∧ Below W.heap.size W w') : Calls P f args W fun e w' => ∃ u, e = .returned u ∧ lzPost (annK v) W u w' :=
 h.mono fun _ _ ⟨he, hw⟩ => ⟨v, he, hw, fun _ => undef, rfl, fun _ _ => trivial⟩
end Go.Proofs.YtghikgjknhjjgaaGreatDoor
namespace Go.Proofs.YtghikgjknhjjgaaGreatDoor
open Go.RowKit
/-- the slice v, of n elements of one cell each, holds xs in a row of its own -/
def OwnG (w : World) (base : Nat) (e : TypeId) (v : Value) (n : Nat) (xs : List Value) : Prop :=
 xs.length = n ∧ ∃ g cap cur fz, v = .slice (some ⟨g, 0, none⟩) n cap ∧ base ≤ g ∧ w.heap[g]? = some (.cells cur e fz) ∧ (fz = (0, 0) ∨ cur.size ≤ fz.1) ∧ n ≤ cap ∧ cap ≤ maxLen ∧ cur.size = cap ∧ cur.toList.take n = xs
section
variable {w w' : World} {base : Nat} {e : TypeId} {v : Value} {n : Nat} {xs : List Value}
theorem OwnG.lt (h : OwnG w base e v n xs) : ∀ k, v.ownBlock = some k → base ≤ k ∧ k < w.heap.size := by
 obtain ⟨_, g, cap, cur, fz, rfl, hb, hg, _⟩ := h
 intro k hk
 obtain rfl : g = k := by simpa [Value.ownBlock] using hk
 exact ⟨hb, (Array.getElem?_eq_some_iff.1 hg).1⟩
theorem OwnG.same (h : OwnG w base e v n xs) (hw : ∀ k, v.ownBlock = some k → w'.heap[k]? = w.heap[k]?) : OwnG w' base e v n xs := by
 obtain ⟨hl, g, cap, cur, fz, rfl, hb, hg, r⟩ := h
 exact ⟨hl, g, cap, cur, fz, rfl, hb, (hw g rfl).trans hg, r⟩
theorem OwnG.alloc (h : OwnG w base e v n xs) (o : Obj) : OwnG (w.alloc o) base e v n xs := h.same fun k hk => Below.heap_alloc w o k (h.lt k hk).2
theorem OwnG.row (h : OwnG w base e v n xs) : ∃ g cap, v = .slice (some ⟨g, 0, none⟩) n cap ∧ base ≤ g ∧ g < w.heap.size ∧ RowAt (· = g) w (some ⟨g, 0, none⟩) xs ∧ n ≤ cap ∧ cap ≤ maxLen := by
 obtain ⟨hl, g, cap, cur, fz, rfl, hb, hg, hf, hn, hc, hs, ht⟩ := h
 refine ⟨g, cap, rfl, hb, (Array.getElem?_eq_some_iff.1 hg).1, fun j hj => ⟨g, 0, rfl, ?_, rfl⟩, hn, hc⟩
 rw [cell_of_row _ _ _ _ _ _ hg, Nat.zero_add]
 have : (cur.toList.take n)[j]? = some xs[j] := by rw [ht]; exact List.getElem?_eq_getElem hj
 rw [List.getElem?_take] at this
 split at this
 ·
  simpa using this
 ·
  cases this
theorem OwnG.cells (h : OwnG w base e v n xs) {g : Nat} (hg : v.ownBlock = some g) : ∀ j u, xs[j]? = some u → w.cell? ((⟨g, 0, none⟩ : Addr).add j) = some u := by
 obtain ⟨g', cap, rfl, _, _, hr, _⟩ := h.row
 obtain rfl : g' = g := by simpa [Value.ownBlock] using hg
 exact hr.src _ rfl
end
section
variable {P : Program}
end
section
variable {F : Fence} {nF : Nat} {P : Program} {ops : Array Oper} {rest : List Oper} {o : Oper} {a : Act} {Q : Exit → Act → World → Prop} {w : World}
end
end Go.Proofs.YtghikgjknhjjgaaGreatDoor
namespace Go.Proofs.YtghikgjknhjjgaaGreatDoor
open Go.RowKit
section
variable {F : Fence} {nF : Nat} {P : Program} {ops : Array Oper} {rest : List Oper} {o : Oper} {a : Act} {Q : Exit → Act → World → Prop} {w w' : World}
end
end Go.Proofs.YtghikgjknhjjgaaGreatDoor
namespace Go.Proofs.YtghikgjknhjjgaaGreatDoor
set_option maxRecDepth 100000
open Go.RowKit
section
variable {P : Program} {o : Oper} {a : Act} {w : World}
theorem run_str (src dst e : TypeId) (hs : P.underlying src = some (.slice e)) (he : P.underlying e = some (.int .u8)) (hd : P.underlying dst = some .string)
  (ad : Addr) (n c : Nat) (l : List UInt8) (hn : l.length = n) {S : Nat → Prop} (hrow : RowAt S w (some ad) (bytesV l)) : (convert src dst (.slice (some ad) n c)).run P w = .ok (.string ⟨l.toArray⟩) w := by
 cases l with
 | nil =>
  subst hn
  rw [run_convert_bytes_string w src dst e _ _ _ hs he hd]
  simp [Conv.bytesToString]
  rfl
 | cons y l =>
  obtain ⟨b, off, h, _⟩ := hrow 0 (by simp [bytesV])
  obtain rfl := Option.some.inj h
  rw [run_convert_bytes_arg w src e hs he b off n c ((y :: l).map fun u => (u.toNat : Int)) (by simpa using hn) (fun i hi => ?_) dst hd, strOf_bytes]
  obtain ⟨b', off', h', hc, _⟩ := hrow i (by simp [bytesV] at hn ⊢; omega)
  obtain ⟨rfl, rfl⟩ : b = b' ∧ off = off' := by simpa using h'
  have hi' : i < (y :: l).length := by omega
  rw [hc]
  simp only [bytesV, List.getElem_map]
  rw [List.getD, List.getElem?_map, List.getElem?_eq_getElem hi']
  rfl
def annMk (n : Nat) (z : Value) (e : TypeId) : Ann := ⟨fun r => .slice (some ⟨r.lo, 0, none⟩) n n, fun r W => Bx W r.lo (List.replicate n z).toArray e⟩
theorem lz_make (l c : Operand) (t : TypeId) (hop : o.op = Op.makeSlice t l c)
  (e : TypeId) (i : TypeInfo) (z : Value) (bytes : Nat) (ht : P.underlying t = some (.slice e)) (hi : P.info? e = some i) (hz : i.zero = some z) (hsize : i.size = 1) (hby : i.bytes = bytes) (hzc : z.cells = #[z])
  (n : Nat) (hl : a.eval l = .int .i64 n) (hc : a.eval c = .int .i64 n) (hb : bytes * n ≤ 281474976710656) (h63 : n ≤ 9223372036854775807) : lzAt P o a w (lzPost (annMk n z e) w) := by
 have hb' : (i.bytes : Int) * (n : Int) ≤ 281474976710656 := by
  have h : ((i.bytes * n : Nat) : Int) ≤ 281474976710656 := by rw [hby]; omega
  rwa [Int.natCast_mul] at h
 have hrun := run_make (P := P) w t e i z ht hi hz .i64 .i64 n n (by omega) (Int.le_refl _) hb' (by omega)
 rw [hsize, hzc, Nat.mul_one, madeCells_one] at hrun
 simp only [Int.toNat_natCast] at hrun
 unfold lzAt
 simp [execOp, hop, hl, hc, hrun, Result.andThen]
 exact ⟨Below.one _ _, fun _ => undef, rfl, fun w'' hb => (Bx.new w _ _).belowAll hb⟩
theorem lz_strK (x : Operand) (src dst e : TypeId) (hop : o.op = .convert src dst x) (hs : P.underlying src = some (.slice e)) (he : P.underlying e = some (.int .u8)) (hd : P.underlying dst = some .string)
  (ad : Addr) (n c : Nat) (l : List UInt8) (hx : a.eval x = .slice (some ad) n c) (hn : l.length = n) {S : Nat → Prop} (hrow : RowAt S w (some ad) (bytesV l)) : lzAt P o a w (lzPost (annK (.string ⟨l.toArray⟩)) w) := by
 unfold lzAt
 simp [execOp, hop, hx, run_str src dst e hs he hd ad n c l hn hrow, Result.andThen]
 exact ⟨Below.refl _ _, fun _ => undef, rfl, fun _ _ => trivial⟩
end
end Go.Proofs.YtghikgjknhjjgaaGreatDoor
namespace Go.Proofs.YtghikgjknhjjgaaGreatDoor
set_option maxRecDepth 100000
open Go.RowKit
theorem num8_take (n k : Nat) (hk : k < 8) : bytesV ((num8 n).take (k + 1)) = bytesV ((num8 n).take k) ++ [.int .u8 ((n : Int) / 2 ^ (56 - 8 * k) % 256)] := by
 have e : ((n : Int) / 2 ^ (56 - 8 * k) % 256) = ((n / 2 ^ (56 - 8 * k) % 256 : Nat) : Int) := by rw [Int.natCast_emod, Int.natCast_ediv, Int.natCast_pow]; rfl
 rw [e]
 rcases k with _ | _ | _ | _ | _ | _ | _ | _ | k
 case succ => omega
 all_goals simp [bytesV, num8]
set_option maxHeartbeats 1000000 in
theorem rf_number (n : Nat) (w : World) :
  Calls Tryz.prog 94 #[.int .i64 n] w fun e w' => e = .returned (.string (bs (num8 n))) ∧ Below w.heap.size w w' := by
 obtain ⟨i0, hi, hz0, hz1, hz2⟩ := info_parts infoU8
 go_enter Tryz.func94, Tryz.ntmps94
 go_wp2
 go_loopw [3, 4] (fun v i wr => ∃ (k : Nat) (x : Int), k ≤ 8 ∧ i = .int .i64 x ∧ -8 ≤ x ∧ x ≤ 56 ∧ Hid (x = 56 - 8 * k) ∧ wr.ownsRow w.heap.size 5 1 v k (bytesV ((num8 n).take k)) ∧ Below w.heap.size w wr) (fun _ i _ => (intOf i + 8).toNat)
 case atStart => exact ⟨0, 56, by omega, rfl, by omega, by omega, Lib.hid rfl, ownsRow_empty w _ _ _ _ rfl (Nat.le_refl _), Below.one _ _⟩
 case round =>
  obtain ⟨k, x, hk, rfl, hx1, hx2, hx, hown, hB⟩ := hrel
  by_cases hlt : k < 8
  ·
   have hz := hB.size
   obtain rfl : x = ((56 - 8 * k : Nat) : Int) := by rw [hx.out]; omega
   go_wp2_with (at_builtin; refine wpList_app rfl _ _ 86 rfl w.heap.size 5 i0 _ 1 1 Tryz.underlying86 hi hz0 hz1 hz2 rfl (by decide) _ k _ rfl (hown.alloc _) _ 1 1 [.int .u8 ((n : Int) / 2 ^ (56 - 8 * k) % 256)] rfl (by intro e; cases e) rfl (RowAt.bx (Bx.new wr _ _)) (by simp [Value.oneCell']) (by unfold maxLen; omega) (by omega) (by simp; omega) ?_; intro v' w1 hown1 hg)
   go_roundw
   case rel => exact ⟨k + 1, _, by omega, rfl, by omega, by omega, Lib.hid (by omega), by rw [num8_take n k hlt]; exact hown1, (hB.alloc hz _).grown hg (by simp; omega) (fun b e => (hown.lt b e).1)⟩
   case measure => simp [intOf]; omega
  ·
   obtain rfl : k = 8 := by omega
   obtain rfl : x = -8 := by rw [hx.out]; rfl
   obtain ⟨o, c, rfl, hs, hr, _⟩ := ownsRow_at hown
   go_wp2_with (refine wpList_str rfl _ 86 9 5 rfl Tryz.underlying86 Tryz.underlying5 Tryz.underlying9 _ 8 _ (num8 n) rfl rfl hr ?_)
   go_ret
   exact ⟨rfl, hB⟩
set_option maxHeartbeats 2000000 in
theorem rf_Header (z v n : Nat) (w : World) (hz : 24 ≤ z) (hz2 : z ≤ 1000000) :
  Calls Tryz.prog 73 #[.int .i64 z, .int .i64 v, .int .i64 n] w fun e w' => e = .returned (.string (bs (hdrL z v n))) ∧ Below w.heap.size w w' := by
 obtain ⟨i0, hi, hz0, hz1, hz2'⟩ := info_parts infoU8
 have e24 : (z : Int) - 24 = ((z - 24 : Nat) : Int) := by omega
 have hle : z - 24 ≤ 1000000 := by omega
 have h8v : (num8 v).length = 8 := rfl
 have h8n : (num8 n).length = 8 := rfl
 have hzs : (zerosB (z - 24)).size = z - 24 := by simp [zerosB, ByteArray.size]
 go_enter Tryz.func73, Tryz.ntmps73
 go_wp2_with fail
 refine wp_region_lz 14 0 #[true, true, true, true, true, true, true, true, true, true, true, true, true, true] (fun i => if i = 1 ∨ i = 11 then some (annK (.string (bs (num8 v)))) else if i = 3 then some (annK (.string (bs (num8 n)))) else if i = 7 then some (annMk (z - 24) (.int .u8 0) 5) else if i = 8 then some (annK (.string (zerosB (z - 24)))) else none) (by kernel_rfl) (by rfl) (by rfl) (by kernel_rfl) ?_
 simp only [List.take_succ_cons, List.take_zero]
 refine LW.block 1 1 (by rfl) (by kernel_rfl) (by kernel_rfl) ?_
 simp only [List.take_succ_cons, List.take_zero, List.drop_succ_cons, List.drop_zero]
 repeat (first | go_big_quiet_skip | (go_big_quiet_want; go_big_quiet_op; go_big_quiet_on))
 refine wpQuiet_nil ?_
 refine LW.lzy _ (by rfl) (by rfl) ?_ ?_
 ·
  intro yL _
  unfold lzAt
  go_simp
  exact lz_constB (rf_number v _)
 intro _
 simp only [Act.put, List.setIfInBounds_toArray, List.set_cons_zero, List.set_cons_succ]
 (try simp only [annK])
 refine LW.block 1 3 (by rfl) (by kernel_rfl) (by kernel_rfl) ?_
 simp only [List.take_succ_cons, List.take_zero, List.drop_succ_cons, List.drop_zero]
 repeat (first | go_big_quiet_skip | (go_big_quiet_want; go_big_quiet_op; go_big_quiet_on))
 refine wpQuiet_nil ?_
 refine LW.lzy _ (by rfl) (by rfl) ?_ ?_
 ·
  intro yL _
  unfold lzAt
  go_simp
  exact lz_constB (rf_number n _)
 intro _
 simp only [Act.put, List.setIfInBounds_toArray, List.set_cons_zero, List.set_cons_succ]
 (try simp only [annK])
 refine LW.block 3 7 (by rfl) (by kernel_rfl) (by kernel_rfl) ?_
 simp only [List.take_succ_cons, List.take_zero, List.drop_succ_cons, List.drop_zero]
 repeat (first | go_big_quiet_skip | (go_big_quiet_want; go_big_quiet_op; go_big_quiet_on))
 refine wpQuiet_nil ?_
 refine LW.lzy _ (by rfl) (by rfl) ?_ ?_
 ·
  intro yL _
  exact lz_make (.tmp 13) (.tmp 13) 86 rfl 5 i0 _ 1 Tryz.underlying86 hi hz0 hz1 hz2' rfl (z - 24) rfl rfl (by omega) (by omega)
 intro r7
 simp only [Act.put, List.setIfInBounds_toArray, List.set_cons_zero, List.set_cons_succ]
 refine LW.lzy _ (by rfl) (by rfl) ?_ ?_
 ·
  intro yL hf
  have hx := (hf 7 (by decide +kernel)).get (by rfl) (by rfl)
  exact lz_strK (.tmp 14) 86 9 5 rfl Tryz.underlying86 Tryz.underlying5 Tryz.underlying9 _ (z - 24) _ (List.replicate (z - 24) 0) rfl (by simp) (S := (· = r7.lo)) (by have := RowAt.bx hx; simpa [bytesV] using this)
 intro r8
 simp only [Act.put, List.setIfInBounds_toArray, List.set_cons_zero, List.set_cons_succ]
 (try simp only [annK])
 refine LW.block 2 11 (by rfl) (by kernel_rfl) (by kernel_rfl) ?_
 simp only [List.take_succ_cons, List.take_zero, List.drop_succ_cons, List.drop_zero]
 repeat (first | go_big_quiet_skip | (go_big_quiet_want; go_big_quiet_op; go_big_quiet_on))
 refine wpQuiet_nil ?_
 refine LW.lzy _ (by rfl) (by rfl) ?_ ?_
 ·
  intro yL _
  unfold lzAt
  go_simp
  exact lz_constB (rf_number v _)
 intro _
 simp only [Act.put, List.setIfInBounds_toArray, List.set_cons_zero, List.set_cons_succ]
 (try simp only [annK])
 refine LW.block 2 14 (by rfl) (by kernel_rfl) (by kernel_rfl) ?_
 simp only [List.take_succ_cons, List.take_zero, List.drop_succ_cons, List.drop_zero]
 repeat (first | go_big_quiet_skip | (go_big_quiet_want; go_big_quiet_op; go_big_quiet_on))
 refine wpQuiet_nil ?_
 refine LW.done ?_
 intro w' hG
 refine wpAny_done (by kernel_rfl) ?_ _
 go_wp2
 go_ret
 refine ⟨?_, hG.below⟩
 show Ending.returned (.string (bs (num8 v) ++ bs (num8 n) ++ bs (List.replicate (z - 24) 0) ++ bs (num8 v))) = _
 rw [bs_app, bs_app, bs_app]; rfl
end Go.Proofs.YtghikgjknhjjgaaGreatDoor
namespace Go.Proofs.YtghikgjknhjjgaaGreatDoor
set_option maxRecDepth 100000
open Go.RowKit
/-- the value v is the disk d in the world w -/
def DskV (w : World) (v : Value) (d : Dsk) : Prop := DskR (· < w.heap.size) w v d
theorem DskV.of {S : Nat → Prop} {w : World} {v : Value} {d : Dsk} (h : DskR S w v d) (hS : InS S w) : DskV w v d := h.mono hS
theorem DskV.below {w w' : World} {v : Value} {d : Dsk} (h : DskV w v d) (hb : Below w.heap.size w w') : DskV w' v d :=
 DskR.mono (DskR.below h hb) fun _ hs => Nat.lt_of_lt_of_le hs hb.size
theorem DskV.drewN {w : World} {v : Value} {d : Dsk} (h : DskV w v d) (n : Nat) : DskV (w.drewN n) v d := h.below (Below.drewN (Below.refl _ _) n)
theorem inS_all (w : World) : InS (· < w.heap.size) w := fun _ h => h
theorem gr_all {w w' : World} (hb : Below w.heap.size w w') : InS (Gr (· < w.heap.size) w w') w' := (inS_all w).gr hb
theorem DskV.agg {w : World} {v : Value} {d : Dsk} (h : DskV w v d) : ∃ po pc co cc, v = .agg #[.int .i64 d.size, .slice po d.pages.length pc, .slice co d.cache.length cc, .int .i64 d.left] := by
 obtain ⟨po, pc, co, cc, e, _⟩ := h
 exact ⟨po, pc, co, cc, e⟩
theorem v_write (d : Dsk) (v : Value) (i : Int) (data : ByteArray) (w : World) (hD : DskV w v d) (hd : data.size ≤ 140737488351232) (hn : d.cache.length ≤ 1000000) {A : Dsk} {er : Int} (he : writeD d i data = (A, er)) :
  Calls Tryz.prog 84 #[v, .int .i64 i, .string data] w fun e w' => ∃ v', e = .returned (.tuple #[v', .int .i64 er]) ∧ DskV w' v' A ∧ Below w.heap.size w w' := by
 refine (disk_write d v i data w (inS_all w) hD hd hn).mono ?_
 rintro e w' ⟨v', rfl, h, hb⟩
 rw [he] at h ⊢
 exact ⟨v', rfl, .of h (gr_all hb), hb⟩
theorem v_flush (d : Dsk) (v : Value) (w : World) (hD : DskV w v d) {A : Dsk} {er : Int} (he : flushD d = (A, er)) :
  Calls Tryz.prog 32 #[v] w fun e w' => ∃ v', e = .returned (.tuple #[v', .int .i64 er]) ∧ DskV w' v' A ∧ Below w.heap.size w w' := by
 refine (disk_flush d v w (inS_all w) hD).mono ?_
 rintro e w' ⟨v', rfl, h, hb⟩
 rw [he] at h ⊢
 exact ⟨v', rfl, .of h (gr_all hb), hb⟩
theorem v_crash (d : Dsk) (v : Value) (picks : List Int) (qo : Option Addr) (qc : Nat) (w : World) {T : Nat → Prop} (hD : DskV w v d) (hq : IntsAt T w qo picks) (hql : picks.length ≤ 1000000) (hn : d.cache.length ≤ 1000000) {A : Dsk} (he : crashD d picks = A) :
  Calls Tryz.prog 47 #[v, .slice qo picks.length qc] w fun e w' => ∃ v', e = .returned v' ∧ DskV w' v' A ∧ Below w.heap.size w w' := by
 refine (disk_crash d v picks qo qc w (inS_all w) hD hq hql hn).mono ?_
 rintro e w' ⟨v', rfl, h, hb⟩
 rw [he] at h
 exact ⟨v', rfl, .of h (gr_all hb), hb⟩
theorem v_read (d : Dsk) (v : Value) (i : Int) (w : World) (hD : DskV w v d) {s : ByteArray} {er : Int} (he : readD d i = (s, er)) :
  Calls Tryz.prog 24 #[v, .int .i64 i] w fun e w' => e = .returned (.tuple #[.string s, .int .i64 er]) ∧ Below w.heap.size w w' := by
 refine (disk_read d v i w (inS_all w) hD).mono ?_
 rintro e w' ⟨rfl, hb⟩
 rw [he]
 exact ⟨rfl, hb⟩
theorem v_check (d : Dsk) (v : Value) (w : World) (hD : DskV w v d) {er : Int} (he : chk d = er) :
  Calls Tryz.prog 60 #[v] w fun e w' => e = .returned (.int .i64 er) ∧ Below w.heap.size w w' := he ▸ disk_check d v w hD
theorem v_great {b : Bool} (d : Dsk) (v : Value) (w : World) (hD : DskV w v d) (hg : greatW d.pages d.cache = b) :
  Calls Tryz.prog 20 #[v] w fun e w' => e = .returned (.bool b) ∧ Below w.heap.size w w' := great_b d v w hD hg
theorem v_same (d : Dsk) (va vb : Value) (w : World) (hD : DskV w va d) (hE : DskV w vb d) :
  Calls Tryz.prog 43 #[va, vb] w fun e w' => e = .returned (.bool true) ∧ Below w.heap.size w w' := same_refl d va vb w hD hE
end Go.Proofs.YtghikgjknhjjgaaGreatDoor
namespace Go.Proofs.YtghikgjknhjjgaaGreatDoor
set_option maxRecDepth 100000
open Go.RowKit
theorem fitE_1 {d : Dsk} {frm til : Int} (h : (chk d != 0) = true) : fitE d frm til = 1 := by unfold fitE; rw [if_pos (by simpa using h)]
theorem fitE_2 {d : Dsk} {frm til : Int} (h : (chk d != 0) = false) (hf : d.size < 24 ∨ frm < 0 ∨ til < 3 ∨ (d.pages.length : Int) < til ∨ til - 3 < frm) : fitE d frm til = 2 := by
 unfold fitE
 rw [if_neg (by simpa using h), if_pos]
 unfold fitsB
 simp only [Bool.and_eq_false_iff, decide_eq_false_iff_not]
 omega
theorem fitE_0 {d : Dsk} {frm til : Int} (h : (chk d != 0) = false) (h1 : 24 ≤ d.size) (h2 : 0 ≤ frm) (h3 : 3 ≤ til) (h4 : til ≤ (d.pages.length : Int)) (h5 : frm ≤ til - 3) : fitE d frm til = 0 := by
 unfold fitE fitsB
 rw [if_neg (by simpa using h), if_neg (by simp; omega)]
theorem fitE_zero {d : Dsk} {frm til : Int} (h : fitE d frm til = 0) : chk d = 0 ∧ 24 ≤ d.size ∧ 0 ≤ frm ∧ 3 ≤ til ∧ til ≤ (d.pages.length : Int) ∧ frm ≤ til - 3 := by
 unfold fitE at h
 split at h
 ·
  cases h
 ·
  rename_i h1
  split at h
  ·
   cases h
  ·
   rename_i h2
   unfold fitsB at h2
   simp at h2
   refine ⟨by simpa using h1, ?_⟩
   omega
set_option maxHeartbeats 2000000 in
theorem pl_fits (d : Dsk) (v : Value) (frm til : Int) (w : World) (hD : DskV w v d) :
  Calls Tryz.prog 51 #[v, .int .i64 frm, .int .i64 til] w fun e w' => e = .returned (.int .i64 (fitE d frm til)) ∧ Below w.heap.size w w' := by
 have hD0 := hD
 obtain ⟨po, pc, co, cc, rfl⟩ := hD.agg
 clear hD
 cases g0 : (chk d != 0)
 ·
  cases g1 : decide (d.size < 24)
  ·
   have g1' := of_decide_eq_false g1
   cases g2 : decide (frm < 0)
   ·
    have g2' := of_decide_eq_false g2
    cases g3 : decide (til < 3)
    ·
     have g3' := of_decide_eq_false g3
     cases g4 : decide ((d.pages.length : Int) < til)
     ·
      have g4' := of_decide_eq_false g4
      have g6 : til ≤ 1000000000 := by
       obtain ⟨q, _⟩ := chk_zero (by simpa using g0)
       have := rangedB_true q
       omega
      cases g5 : decide (til - 3 < frm)
      ·
       go_enter Tryz.func51, Tryz.ntmps51
       go_wp2_with fail
       refine (v_check d _ _ (hD0.below (Below.one _ _)) rfl).mono ?_
       rintro e w1 ⟨rfl, hb1⟩
       have x1 := (Bx.new w _ _).belowAll hb1
       have cX := x1.cell
       have lX := x1.lt
       go_wp2
       go_ret
       exact ⟨by rw [fitE_0 g0 (by omega) (by omega) (by omega) (by omega) (by have := of_decide_eq_false g5; omega)]; rfl, btr (Below.one _ _) hb1⟩
      ·
       have g5' := of_decide_eq_true g5
       go_enter Tryz.func51, Tryz.ntmps51
       go_wp2_with fail
       refine (v_check d _ _ (hD0.below (Below.one _ _)) rfl).mono ?_
       rintro e w1 ⟨rfl, hb1⟩
       have x1 := (Bx.new w _ _).belowAll hb1
       have cX := x1.cell
       have lX := x1.lt
       go_wp2
       go_ret
       exact ⟨by rw [fitE_2 g0 (by omega)]; rfl, btr (Below.one _ _) hb1⟩
     ·
      have g4' := of_decide_eq_true g4
      go_enter Tryz.func51, Tryz.ntmps51
      go_wp2_with fail
      refine (v_check d _ _ (hD0.below (Below.one _ _)) rfl).mono ?_
      rintro e w1 ⟨rfl, hb1⟩
      have x1 := (Bx.new w _ _).belowAll hb1
      have cX := x1.cell
      have lX := x1.lt
      go_wp2
      go_ret
      exact ⟨by rw [fitE_2 g0 (by omega)]; rfl, btr (Below.one _ _) hb1⟩
    ·
     have g3' := of_decide_eq_true g3
     go_enter Tryz.func51, Tryz.ntmps51
     go_wp2_with fail
     refine (v_check d _ _ (hD0.below (Below.one _ _)) rfl).mono ?_
     rintro e w1 ⟨rfl, hb1⟩
     have x1 := (Bx.new w _ _).belowAll hb1
     have cX := x1.cell
     have lX := x1.lt
     go_wp2
     go_ret
     exact ⟨by rw [fitE_2 g0 (by omega)]; rfl, btr (Below.one _ _) hb1⟩
   ·
    have g2' := of_decide_eq_true g2
    go_enter Tryz.func51, Tryz.ntmps51
    go_wp2_with fail
    refine (v_check d _ _ (hD0.below (Below.one _ _)) rfl).mono ?_
    rintro e w1 ⟨rfl, hb1⟩
    have x1 := (Bx.new w _ _).belowAll hb1
    have cX := x1.cell
    have lX := x1.lt
    go_wp2
    go_ret
    exact ⟨by rw [fitE_2 g0 (by omega)]; rfl, btr (Below.one _ _) hb1⟩
  ·
   have g1' := of_decide_eq_true g1
   go_enter Tryz.func51, Tryz.ntmps51
   go_wp2_with fail
   refine (v_check d _ _ (hD0.below (Below.one _ _)) rfl).mono ?_
   rintro e w1 ⟨rfl, hb1⟩
   have x1 := (Bx.new w _ _).belowAll hb1
   have cX := x1.cell
   have lX := x1.lt
   go_wp2
   go_ret
   exact ⟨by rw [fitE_2 g0 (by omega)]; rfl, btr (Below.one _ _) hb1⟩
 ·
  go_enter Tryz.func51, Tryz.ntmps51
  go_wp2_with fail
  refine (v_check d _ _ (hD0.below (Below.one _ _)) rfl).mono ?_
  rintro e w1 ⟨rfl, hb1⟩
  have x1 := (Bx.new w _ _).belowAll hb1
  have cX := x1.cell
  have lX := x1.lt
  go_wp2
  go_ret
  exact ⟨by rw [fitE_1 g0]; rfl, btr (Below.one _ _) hb1⟩
set_option maxHeartbeats 2000000 in
theorem rf_Fits (d : Dsk) (v : Value) (frm til : Int) (w : World) (hc : (chk d != 0) = false) {b : Bool} (hb : fitsB d frm til = b) (hD : DskV w v d) :
  Calls Tryz.prog 76 #[v, .int .i64 frm, .int .i64 til] w fun e w' => e = .returned (.bool b) ∧ Below w.heap.size w w' := by
 subst hb
 obtain ⟨po, pc, co, cc, rfl⟩ := hD.agg
 have x1 := Bx.new w #[.int .i64 d.size, .slice po d.pages.length pc, .slice co d.cache.length cc, .int .i64 d.left] 25
 have cX := x1.cell
 have lX := x1.lt
 clear hD
 cases g1 : decide (24 ≤ d.size)
 ·
  have g1' := of_decide_eq_false g1
  go_enter Tryz.func76, Tryz.ntmps76
  go_wp2
  go_ret
  refine ⟨?_, Below.one _ _⟩
  rw [show fitsB d frm til = false by unfold fitsB; simp only [Bool.and_eq_false_iff, decide_eq_false_iff_not]; omega]
  rfl
 have g1' := of_decide_eq_true g1
 cases g2 : decide (0 ≤ frm)
 ·
  have g2' := of_decide_eq_false g2
  go_enter Tryz.func76, Tryz.ntmps76
  go_wp2
  go_ret
  refine ⟨?_, Below.one _ _⟩
  rw [show fitsB d frm til = false by unfold fitsB; simp only [Bool.and_eq_false_iff, decide_eq_false_iff_not]; omega]
  rfl
 have g2' := of_decide_eq_true g2
 cases g3 : decide (3 ≤ til)
 ·
  have g3' := of_decide_eq_false g3
  go_enter Tryz.func76, Tryz.ntmps76
  go_wp2
  go_ret
  refine ⟨?_, Below.one _ _⟩
  rw [show fitsB d frm til = false by unfold fitsB; simp only [Bool.and_eq_false_iff, decide_eq_false_iff_not]; omega]
  rfl
 have g3' := of_decide_eq_true g3
 cases g4 : decide (til ≤ (d.pages.length : Int))
 ·
  have g4' := of_decide_eq_false g4
  go_enter Tryz.func76, Tryz.ntmps76
  go_wp2
  go_ret
  refine ⟨?_, Below.one _ _⟩
  rw [show fitsB d frm til = false by unfold fitsB; simp only [Bool.and_eq_false_iff, decide_eq_false_iff_not]; omega]
  rfl
 have g4' := of_decide_eq_true g4
 have g6 : til ≤ 1000000000 := by
  obtain ⟨q, _⟩ := chk_zero (by simpa using hc)
  have := rangedB_true q
  omega
 cases g5 : decide (frm ≤ til - 3)
 ·
  have g5' := of_decide_eq_false g5
  go_enter Tryz.func76, Tryz.ntmps76
  go_wp2
  go_ret
  refine ⟨?_, Below.one _ _⟩
  rw [show fitsB d frm til = false by unfold fitsB; simp only [Bool.and_eq_false_iff, decide_eq_false_iff_not]; omega]
  rfl
 have g5' := of_decide_eq_true g5
 go_enter Tryz.func76, Tryz.ntmps76
 go_wp2
 go_ret
 refine ⟨?_, Below.one _ _⟩
 rw [show fitsB d frm til = true by unfold fitsB; simp; omega]
 rfl
theorem area_bd {d : Dsk} {frm til : Int} (h : fitE d frm til = 0) : 0 ≤ areaN d frm til ∧ areaN d frm til ≤ 1024000 ∧ 24 ≤ d.size ∧ d.size ≤ 512 ∧ 0 ≤ til - frm - 2 ∧ til - frm - 2 ≤ 2000 := by
 obtain ⟨h0, h1, h2, h3, h4, h5⟩ := fitE_zero h
 have := rangedB_true (chk_zero h0).1
 have ha : 0 ≤ til - frm - 2 := by omega
 have hb : til - frm - 2 ≤ 2000 := by omega
 refine ⟨Int.mul_nonneg ha (by omega), ?_, h1, by omega, ha, hb⟩
 have := Int.mul_le_mul hb (show d.size ≤ 512 by omega) (by omega) (by omega)
 unfold areaN; omega
set_option maxHeartbeats 1000000 in
theorem pl_area (d : Dsk) (v : Value) (frm til : Int) (w : World) (hf : fitE d frm til = 0) (hD : DskV w v d) :
  Calls Tryz.prog 29 #[v, .int .i64 frm, .int .i64 til] w fun e w' => e = .returned (.int .i64 (areaN d frm til)) ∧ Below w.heap.size w w' := by
 obtain ⟨a1, a2, a3, a4, a5, a6⟩ := area_bd hf
 obtain ⟨h0, h1, h2, h3, h4, h5⟩ := fitE_zero hf
 have hr := rangedB_true (chk_zero h0).1
 obtain ⟨po, pc, co, cc, rfl⟩ := hD.agg
 have x1 := Bx.new w #[.int .i64 d.size, .slice po d.pages.length pc, .slice co d.cache.length cc, .int .i64 d.left] 25
 have cX := x1.cell
 have lX := x1.lt
 have ha : (til - frm - 2) * d.size = areaN d frm til := rfl
 have Ha := Lib.hid ha
 have b1 : 0 ≤ (til - frm - 2) * d.size := a1
 have b2 : (til - frm - 2) * d.size ≤ 1024000 := a2
 clear hD hf ha a1 a2 h0
 go_enter Tryz.func29, Tryz.ntmps29
 go_wp2
 go_ret
 exact ⟨by rw [← Ha.out]; rfl, Below.one _ _⟩
set_option maxHeartbeats 1000000 in
theorem rf_read (d : Dsk) (v : Value) (i : Int) (w : World) (hD : DskV w v d) :
  Calls Tryz.prog 69 #[v, .int .i64 i] w fun e w' => e = .returned (.string (bs (pageL d i))) ∧ Below w.heap.size w w' := by
 have hD0 := hD
 obtain ⟨po, pc, co, cc, rfl⟩ := hD.agg
 have x1 := Bx.new w #[.int .i64 d.size, .slice po d.pages.length pc, .slice co d.cache.length cc, .int .i64 d.left] 25
 have cX := x1.cell
 have lX := x1.lt
 clear hD
 go_enter Tryz.func69, Tryz.ntmps69
 go_wp2_with fail
 refine (ref40_read d _ i _ (hD0.below (Below.one _ _))).mono ?_
 rintro e w1 ⟨rfl, hb1⟩
 go_wp2
 go_ret
 refine ⟨?_, btr (Below.one _ _) hb1⟩
 unfold pageL
 rw [bs_of]; rfl
end Go.Proofs.YtghikgjknhjjgaaGreatDoor
