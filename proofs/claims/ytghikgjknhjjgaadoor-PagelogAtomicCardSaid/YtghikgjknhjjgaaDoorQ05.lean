/- A region that draws its order, whose operations read what was there before, make memory, and call functions that make memory: ONE walk in the order of the text serves every order. What an operation hands back may hang on the order (the numbers of the blocks that it makes): an annotation says, by the operation's number, what it looks like ('f') and what is known of it ('Φ'). Digests: arrays of 32 bytes as values and in memory. No function of the program is named here. Arrays made and built, kept whole: laws that do not unroll them. No function of the program is named here. A row of bytes that a call has made itself, frozen (if at all) behind its last cell: made by '[]byte(s)', grown byte by byte, inside a fence. No function of the program is named here. Arr's and the kit's laws on arrays, inside a fence. No function of the program is named here. Two words for Lazy: 'make([]T, n)' and 'string(b)' inside a region that draws its order. No function of the program is named here. The reference's numbers of 8 bytes: quiltref41.number, Header. Layer 40's functions as the laws meet them: a disk that lies somewhere in memory. Whether pages fit (pagelog.fits, quiltref41.Fits), the size of the area; quiltref41.read, area, header. The bytes of the area, as the reference collects them. Plain laws: what a list of operations makes of a valid disk. No function of the program is named here. -/
import Derived.Test.YtghikgjknhjjgaaDoorQ04
import Derived.StillTail
import Derived.Deep.MidRow
import Derived.Laws.IdiomStrings
import Derived.Lib.FrozenHead
import Derived.OwnWalkIn
import Derived.Lib.AppendStr
import Derived.Test.YtghikgjknhjjgaaDoorQ01
namespace Go.Proofs.YtghikgjknhjjgaaDoor
set_option maxRecDepth 100000
open Go.RowKit
/-- what an operation has made: its free parts, and the numbers of the blocks that were made meanwhile -/
structure Rec where
 x : Nat → Value
 lo : Nat
 hi : Nat
structure Ann where
 f : Rec → Value
 Φ : Rec → World → Prop
abbrev Anns := Nat → Option Ann
abbrev Recs := Nat → Option Rec
def upr (ξ : Recs) (i : Nat) (ρ : Option Rec) : Recs := match ρ with | none => ξ | some r => fun j => if j = i then some r else ξ j
theorem upr_comm {ξ : Recs} {i j : Nat} {ρ σ : Option Rec} (h : i ≠ j) : upr (upr ξ i ρ) j σ = upr (upr ξ j σ) i ρ := by
 cases ρ <;> cases σ <;> simp only [upr]
 funext k
 by_cases h1 : k = j
 ·
  subst h1; rw [if_pos rfl, if_neg (fun e => h e.symm), if_pos rfl]
 ·
  rw [if_neg h1]
  by_cases h2 : k = i
  ·
   rw [if_pos h2, if_pos h2]
  ·
   rw [if_neg h2, if_neg h2, if_neg h1]
def factAt (an : Anns) (ξ : Recs) (j : Nat) (w : World) : Prop := ∀ A r, an j = some A → ξ j = some r → ∀ w', Below w.heap.size w w' → A.Φ r w'
theorem factAt_upr {an : Anns} {ξ : Recs} {i j : Nat} {ρ : Option Rec} {w : World} (h : j ≠ i) : factAt an (upr ξ i ρ) j w ↔ factAt an ξ j w := by
 cases ρ with
 | none => exact Iff.rfl
 | some r => unfold factAt upr; simp only [if_neg h]
section
variable {P : Program} {ops : Array Oper} {md : Region.Mode} {W0 : World} {an : Anns}
/-- operation t waits for all of these -/
def pastB (md : Region.Mode) (ops : Array Oper) : Nat → List Nat → List Nat
 | 0, S => S
 | f + 1, S => pastB md ops f ((List.range ops.size).filter fun j => S.contains j || S.any fun k => Region.waitsFor md ops k j)
def reachB (md : Region.Mode) (ops : Array Oper) (t j : Nat) : Bool := (pastB md ops 8 [t]).contains j
theorem pastB_listed {t : Nat} {listed : Array Bool} (ht : ∀ k ot, ops[t]? = some ot → (∃ e ∈ ot.after, Region.binds md e = true ∧ e.on = k) → listed.getD k false = true)
  (hc : ∀ j oj, ops[j]? = some oj → listed.getD j false = true → ∀ e ∈ oj.after, Region.binds md e = true → listed.getD e.on false = true) :
  ∀ (f : Nat) (S : List Nat), (∀ k ∈ S, k = t ∨ listed.getD k false = true) → ∀ k ∈ pastB md ops f S, k = t ∨ listed.getD k false = true
 | 0, _, h => h
 | f + 1, S, h => by
  refine pastB_listed ht hc f _ fun k hk => ?_
  obtain ⟨_, hk⟩ := List.mem_filter.1 hk
  rcases Bool.or_eq_true_iff.1 hk with hk | hk
  ·
   exact h k (by simpa using hk)
  ·
   obtain ⟨j, hj, hw⟩ := List.any_eq_true.1 hk
   obtain ⟨oj, hoj, e, he, hb, hon⟩ := Region.waitsFor_spec hw
   right
   rcases h j hj with rfl | hl
   ·
    exact ht k oj hoj ⟨e, he, hb, hon⟩
   ·
    rw [← hon]; exact hc j oj hoj hl e he hb
theorem reach_listed {t j : Nat} {listed : Array Bool} (ht : t ∈ Region.ready md ops listed)
  (hc : ∀ j oj, ops[j]? = some oj → listed.getD j false = true → ∀ e ∈ oj.after, Region.binds md e = true → listed.getD e.on false = true) (h : reachB md ops t j = true) : j = t ∨ listed.getD j false = true := by
 obtain ⟨_, ot, hot, hall⟩ := mem_ready.1 ht
 refine pastB_listed (t := t) (fun k ot' h1 ⟨e, he, hb, hon⟩ => ?_) hc 8 [t] (fun k hk => .inl (by simpa using hk)) j (by simpa [reachB] using h)
 obtain rfl : ot' = ot := Option.some.inj (h1.symm.trans hot)
 rw [← hon]; exact hall e he hb
/-- an operation that can hand back nothing but a value -/
def valB : Op → Bool
 | .move _ | .assign _ | .pick .. | .load .. | .binOp .. | .unOp .. | .convert .. | .slice .. | .fieldAddr .. | .field .. | .indexAddr .. | .index .. | .extract .. => true
 | .call c => match c.callee with
  | .builtin .len | .builtin .cap => true
  | _ => false
 | _ => false
def lzAt (P : Program) (o : Oper) (a : Act) (w : World) (Post : Value → World → Prop) : Prop :=
 match (execOp a.eval o).run P w with
 | .ok (.value u) w' => Post u w'
 | .ok .skip w' => Post undef w'
 | .ok (.enter f args) w' => Calls P f args w' fun e w'' => ∃ v, e = .returned v ∧ Post v w''
 | _ => False
theorem wp_of_lz {o : Oper} {a : Act} {w : World} {Post : Value → World → Prop} {K : Act → World → Prop} {Q : Exit → Act → World → Prop} (h : lzAt P o a w Post) (hK : ∀ v w', Post v w' → K (a.put o.dst v) w') : o.wp P a w K Q := by
 unfold lzAt at h
 unfold Oper.wp
 generalize (execOp a.eval o).run P w = r at *
 cases r with
 | ok n w' =>
  cases n <;> simp only [Oper.upon] at h ⊢
  case value u => exact hK _ _ h
  case skip => exact hK _ _ h
  case enter f args => exact h.mono fun e w'' ⟨v, he, hp⟩ => by subst he; exact hK _ _ hp
 | halt x w' => exact h.elim
/-- a world that has come out of W0 -/
def LatC (W0 : World) (w : World) : Prop := ∃ y : Lat W0, w = y.w
/-- what is asked of an annotated operation -/
def lzPost (A : Ann) (w : World) (v : Value) (w' : World) : Prop := Below w.heap.size w w' ∧ ∃ x, v = A.f ⟨x, w.heap.size, w'.heap.size⟩ ∧ ∀ w'', Below w'.heap.size w' w'' → A.Φ ⟨x, w.heap.size, w'.heap.size⟩ w''
def Lazily (P : Program) (ops : Array Oper) (md : Region.Mode) (an : Anns) (W0 : World) (i : Nat) (o : Oper) (A : Ann) (ξ : Recs) (a : Act) : Prop :=
 ∀ w, Below W0.heap.size W0 w → (∀ j, reachB md ops i j = true → factAt an ξ j w) → lzAt P o a w (lzPost A w)
/-- the outcomes of operation i -/
inductive Outs (P : Program) (ops : Array Oper) (md : Region.Mode) (an : Anns) (W0 : World) (i : Nat) (o : Oper) (ξ : Recs) (a : Act) : (Option Rec → Value → Prop) → Prop
 | skip (hw : Region.wanted o (yielded ops a.tmps) = false) : Outs P ops md an W0 i o ξ a (fun ρ v => ρ = none ∧ v = undef)
 | quiet (v : Value) (hw : Region.wanted o (yielded ops a.tmps) = true) (hn : an i = none) (hr : ∀ w, LatC W0 w → (execOp a.eval o).run P w = .ok (.value v) w) : Outs P ops md an W0 i o ξ a (fun ρ u => ρ = none ∧ u = v)
 | lzy (A : Ann) (hw : Region.wanted o (yielded ops a.tmps) = true) (hn : an i = some A) (hl : Lazily P ops md an W0 i o A ξ a) : Outs P ops md an W0 i o ξ a (fun ρ u => ∃ r, ρ = some r ∧ u = A.f r)
theorem Outs.some {i : Nat} {o : Oper} {ξ : Recs} {a : Act} {S : Option Rec → Value → Prop} (h : Outs P ops md an W0 i o ξ a S) : ∃ ρ v, S ρ v := by
 cases h
 ·
  exact ⟨_, _, rfl, rfl⟩
 ·
  exact ⟨_, _, rfl, rfl⟩
 ·
  exact ⟨_, _, ⟨fun _ => undef, 0, 0⟩, rfl, rfl⟩
theorem latC_refl (W0 : World) : LatC W0 W0 := ⟨⟨W0, Below.refl _ _⟩, rfl⟩
theorem Outs.uniq {i : Nat} {o : Oper} {ξ : Recs} {a : Act} {S S' : Option Rec → Value → Prop} (h : Outs P ops md an W0 i o ξ a S) (h' : Outs P ops md an W0 i o ξ a S') : S = S' := by
 cases h with
 | skip hw => cases h' with
  | skip => rfl
  | quiet _ hw' => rw [hw] at hw'; cases hw'
  | lzy _ hw' => rw [hw] at hw'; cases hw'
 | quiet v hw hn hr => cases h' with
  | skip hw' => rw [hw] at hw'; cases hw'
  | quiet v' _ _ hr' =>
   have e := (hr W0 (latC_refl W0)).symm.trans (hr' W0 (latC_refl W0))
   injection e with e1 e2
   injection e1 with e3
   rw [e3]
  | lzy _ _ hn' => rw [hn] at hn'; cases hn'
 | lzy A hw hn hl => cases h' with
  | skip hw' => rw [hw] at hw'; cases hw'
  | quiet _ _ hn' => rw [hn] at hn'; cases hn'
  | lzy A' _ hn' => rw [hn] at hn'; cases hn'; rfl
/-- the outcomes of i stay the same when an operation apart from i has yielded -/
theorem Outs.apart {i : Nat} {oi : Oper} {ξ ξ' : Recs} {a a' : Act} {S : Option Rec → Value → Prop} (he : execOp a'.eval oi = execOp a.eval oi) (hw' : Region.wanted oi (yielded ops a'.tmps) = Region.wanted oi (yielded ops a.tmps))
  (hf : ∀ k w, reachB md ops i k = true → (factAt an ξ' k w → factAt an ξ k w)) (h : Outs P ops md an W0 i oi ξ a S) : Outs P ops md an W0 i oi ξ' a' S := by
 cases h with
 | skip hw => exact .skip (hw' ▸ hw)
 | quiet v hw hn hr => exact .quiet v (hw' ▸ hw) hn (by rw [he]; exact hr)
 | lzy A hw hn hl =>
  refine .lzy A (hw' ▸ hw) hn fun w hb hk => ?_
  have := hl w hb fun k hr => hf k w hr (hk k hr)
  unfold lzAt at this ⊢
  rw [he]; exact this
def StepK (P : Program) (ops : Array Oper) (md : Region.Mode) (an : Anns) (W0 : World) (i : Nat) (o : Oper) (ξ : Recs) (a : Act) (K : Recs → Act → Prop) : Prop :=
 ∃ S, Outs P ops md an W0 i o ξ a S ∧ ∀ ρ v, S ρ v → K (upr ξ i ρ) (a.put o.dst v)
theorem StepK.mono {i : Nat} {o : Oper} {ξ : Recs} {a : Act} {K K' : Recs → Act → Prop} (h : StepK P ops md an W0 i o ξ a K) (hK : ∀ ξ a, K ξ a → K' ξ a) : StepK P ops md an W0 i o ξ a K' := by
 obtain ⟨S, h1, h2⟩ := h
 exact ⟨S, h1, fun ρ v hs => hK _ _ (h2 ρ v hs)⟩
/-- i is taken ahead of j: then j may be taken ahead of i -/
theorem StepK.swap {i j : Nat} {oi oj : Oper} {ξ : Recs} {a : Act} {S : Option Rec → Value → Prop} {K : Recs → Act → Prop} (hij : i ≠ j) (hap : oi.apart ops oj = true)
  (hsi : ∀ cs b, oi.op ≠ .select cs b) (hsj : ∀ cs b, oj.op ≠ .select cs b) (hri : reachB md ops i j = false) (hrj : reachB md ops j i = false)
  (hi : Outs P ops md an W0 i oi ξ a S) (h : ∀ ρ v, S ρ v → StepK P ops md an W0 j oj (upr ξ i ρ) (a.put oi.dst v) K) :
  StepK P ops md an W0 j oj ξ a (fun ξ' a' => Outs P ops md an W0 i oi ξ' a' S ∧ ∀ ρ v, S ρ v → K (upr ξ' i ρ) (a'.put oi.dst v)) := by
 obtain ⟨h1, h2, h3⟩ := Oper.apart_spec hap
 have back : ∀ ρ v T, Outs P ops md an W0 j oj (upr ξ i ρ) (a.put oi.dst v) T → Outs P ops md an W0 j oj ξ a T := fun ρ v T hT =>
  Outs.apart (execOp_put oj hsj a oi.dst v h1).symm (wanted_put oj a oi.dst v h1).symm (fun k w hr hk => (factAt_upr (fun e => by subst e; rw [hrj] at hr; cases hr)).2 hk) hT
 obtain ⟨ρ0, v0, hs0⟩ := hi.some
 obtain ⟨T, hT, _⟩ := h ρ0 v0 hs0
 refine ⟨T, back _ _ _ hT, fun σ u hu => ⟨?_, fun ρ v hs => ?_⟩⟩
 ·
  exact Outs.apart (execOp_put oi hsi a oj.dst u h3) (wanted_put oi a oj.dst u h3) (fun k w hr hk => (factAt_upr (fun e => by subst e; rw [hri] at hr; cases hr)).1 hk) hi
 ·
  obtain ⟨T', hT', hK⟩ := h ρ v hs
  have := (back _ _ _ hT').uniq (back _ _ _ hT)
  subst this
  have := hK σ u hu
  rw [upr_comm hij, Act.put_comm a v u h2] at this
  exact this
/-- the head's operations in whatever order; L: what is asked when the head is done -/
def AO (P : Program) (ops : Array Oper) (md : Region.Mode) (an : Anns) (W0 : World) (n : Nat) (L : Array Bool → Recs → Act → Prop) : Nat → Array Bool → Recs → Act → Prop
 | 0, listed, ξ, a => L listed ξ a
 | f + 1, listed, ξ, a => Region.ready md ops listed ≠ [] ∧ ∀ i ∈ Region.ready md ops listed, i < n ∧ ∀ o, ops[i]? = some o → StepK P ops md an W0 i o ξ a (AO P ops md an W0 n L f (listed.setIfInBounds i true))
structure Closed (md : Region.Mode) (ops : Array Oper) (n : Nat) (listed : Array Bool) : Prop where
 size : listed.size = ops.size
 closed : ∀ j oj, ops[j]? = some oj → listed.getD j false = true → ∀ e ∈ oj.after, Region.binds md e = true → listed.getD e.on false = true
theorem Closed.set {n i : Nat} {listed : Array Bool} (inv : Closed md ops n listed) (hi : i ∈ Region.ready md ops listed) : Closed md ops n (listed.setIfInBounds i true) := by
 obtain ⟨_, oi, hoi, hall⟩ := mem_ready.1 hi
 refine ⟨by simp [inv.size], fun j oj hj hl e he hb => ?_⟩
 by_cases hij : i = j
 ·
  subst hij
  have : oj = oi := Option.some.inj (hj.symm.trans hoi)
  subst this
  exact getD_set_true (hall e he hb)
 ·
  rw [getD_set_ne false hij] at hl
  exact getD_set_true (inv.closed j oj hj hl e he hb)
def sinkAllB (md : Region.Mode) (ops : Array Oper) (n : Nat) : Bool := (List.range ops.size).all fun t => decide (t < n) || (List.range n).all fun i => (pastB md ops 8 [t]).contains i
theorem AO_first {n i : Nat} {oi : Oper} {S : Option Rec → Value → Prop} {L : Array Bool → Recs → Act → Prop} (hi : ops[i]? = some oi) (hsel : ∀ (j : Nat) (o : Oper) cs b, ops[j]? = some o → o.op ≠ .select cs b)
  (hs : sinkAllB md ops n = true) (hin : i < n) (hdone : ∀ listed ξ a, L listed ξ a → ∀ j ∈ Region.ready md ops listed, n ≤ j) :
  ∀ (f : Nat) (listed : Array Bool) (ξ : Recs) (a : Act), Closed md ops n listed →
   (∀ j oj, ops[j]? = some oj → j ≠ i → listed.getD j true = false → (∀ e ∈ oj.after, Region.binds md e = true → e.on ≠ i) → oi.apart ops oj = true) →
   i ∈ Region.ready md ops listed → Outs P ops md an W0 i oi ξ a S →
   (∀ ρ v, S ρ v → AO P ops md an W0 n L f (listed.setIfInBounds i true) (upr ξ i ρ) (a.put oi.dst v)) → AO P ops md an W0 n L (f + 1) listed ξ a := by
 intro f
 have head : ∀ (listed : Array Bool), Closed md ops n listed → i ∈ Region.ready md ops listed → ∀ j ∈ Region.ready md ops listed, j < n := by
  intro listed inv hr j hj
  rcases Nat.lt_or_ge j n with h | h
  ·
   exact h
  ·
   exfalso
   have hlt : j < ops.size := by obtain ⟨_, oj, hoj, _⟩ := mem_ready.1 hj; exact (Array.getElem?_eq_some_iff.1 hoj).1
   have h1 := List.all_eq_true.1 hs j (List.mem_range.2 hlt)
   simp only [Bool.or_eq_true, decide_eq_true_eq] at h1
   rcases h1 with h1 | h1
   ·
    omega
   ·
    rcases reach_listed hj inv.closed (List.all_eq_true.1 h1 i (List.mem_range.2 hin)) with h2 | h2
    ·
     omega
    ·
     rw [getD_both (mem_ready.1 hr).1] at h2; cases h2
 induction f with
 | zero =>
  intro listed ξ a inv _ hr hy H
  refine ⟨fun h => (by rw [h] at hr; cases hr), fun j hj => ⟨head listed inv hr j hj, fun oj hoj => ?_⟩⟩
  by_cases hji : j = i
  ·
   subst hji
   obtain rfl : oj = oi := Option.some.inj (hoj.symm.trans hi)
   exact ⟨S, hy, H⟩
  ·
   obtain ⟨ρ, v, hs⟩ := hy.some
   have := hdone _ _ _ (H ρ v hs) j (ready_mono hj hji)
   have := head listed inv hr j hj
   omega
 | succ f ih =>
  intro listed ξ a inv hfree hr hy H
  refine ⟨fun h => (by rw [h] at hr; cases hr), fun j hj => ⟨head listed inv hr j hj, fun oj hoj => ?_⟩⟩
  by_cases hji : j = i
  ·
   subst hji
   obtain rfl : oj = oi := Option.some.inj (hoj.symm.trans hi)
   exact ⟨S, hy, H⟩
  ·
   obtain ⟨hjun, oj', hoj', hall⟩ := mem_ready.1 hj
   obtain rfl : oj' = oj := Option.some.inj (hoj'.symm.trans hoj)
   have hun := (mem_ready.1 hr).1
   have hnot : ∀ e ∈ oj'.after, Region.binds md e = true → e.on ≠ i := fun e he hb heq => by
    have h1 := hall e he hb
    rw [heq, getD_both hun] at h1
    cases h1
   have hri : reachB md ops i j = false := by
    cases h : reachB md ops i j with
    | false => rfl
    | true =>
     rcases reach_listed hr inv.closed h with h2 | h2
     ·
      exact absurd h2 hji
     ·
      rw [getD_both hjun] at h2; cases h2
   have hrj : reachB md ops j i = false := by
    cases h : reachB md ops j i with
    | false => rfl
    | true =>
     rcases reach_listed hj inv.closed h with h2 | h2
     ·
      exact absurd h2.symm hji
     ·
      rw [getD_both hun] at h2; cases h2
   have hfree' : ∀ k ok, ops[k]? = some ok → k ≠ i → (listed.setIfInBounds j true).getD k true = false →
     (∀ e ∈ ok.after, Region.binds md e = true → e.on ≠ i) → oi.apart ops ok = true := fun k ok hk hki hun hno => by
    refine hfree k ok hk hki ?_ hno
    by_cases hjk : j = k
    ·
     subst hjk; exact hjun
    ·
     rw [getD_set_ne true hjk] at hun; exact hun
   refine (StepK.swap (Ne.symm hji) (hfree j oj' hoj hji hjun hnot) (fun cs b => hsel i oi cs b hi) (fun cs b => hsel j oj' cs b hoj) hri hrj hy fun ρ v hs => ((H ρ v hs).2 j (ready_mono hj hji)).2 oj' hoj).mono ?_
   rintro ξ' a' ⟨h1, h2⟩
   refine ih (listed.setIfInBounds j true) ξ' a' (inv.set hj) hfree' (ready_mono hr (Ne.symm hji)) h1 fun ρ v hs => ?_
   rw [Array.setIfInBounds_comm _ _ hji]
   exact h2 ρ v hs
/-- what is known at a world -/
structure Good (an : Anns) (W0 : World) (ξ : Recs) (w : World) : Prop where
 below : Below W0.heap.size W0 w
 fact : ∀ j, factAt an ξ j w
 range : ∀ j r, ξ j = some r → W0.heap.size ≤ r.lo ∧ r.lo ≤ r.hi ∧ r.hi ≤ w.heap.size
 apart : ∀ i j r s, i ≠ j → ξ i = some r → ξ j = some s → r.hi ≤ s.lo ∨ s.hi ≤ r.lo
theorem Good.start (an : Anns) {W0 w : World} (h : Below W0.heap.size W0 w) : Good an W0 (fun _ => none) w :=
 ⟨h, (fun _ _ _ _ h => by cases h), (fun _ _ h => by cases h), (fun _ _ _ _ _ h => by cases h)⟩
theorem Good.add {ξ : Recs} {w w' : World} {i : Nat} {A : Ann} {x : Nat → Value} (h : Good an W0 ξ w) (hb : Below w.heap.size w w') (hA : an i = some A) (hΦ : ∀ w'', Below w'.heap.size w' w'' → A.Φ ⟨x, w.heap.size, w'.heap.size⟩ w'') :
  Good an W0 (upr ξ i (some ⟨x, w.heap.size, w'.heap.size⟩)) w' := by
 have hz := hb.size
 have hz0 := h.below.size
 have each : ∀ j r, upr ξ i (some ⟨x, w.heap.size, w'.heap.size⟩) j = some r → (j = i ∧ r = ⟨x, w.heap.size, w'.heap.size⟩) ∨ (j ≠ i ∧ ξ j = some r) := by
  intro j r hj
  unfold upr at hj
  by_cases e : j = i
  ·
   left; simp only [if_pos e] at hj; exact ⟨e, (Option.some.inj hj).symm⟩
  ·
   right; simp only [if_neg e] at hj; exact ⟨e, hj⟩
 refine ⟨h.below.trans (hb.mono hz0), ?_, ?_, ?_⟩
 ·
  intro j B r hB hr w'' hb''
  rcases each j r hr with ⟨rfl, rfl⟩ | ⟨_, hr⟩
  ·
   rw [hA] at hB; cases hB; exact hΦ w'' hb''
  ·
   exact h.fact j B r hB hr w'' (hb.trans (hb''.mono hz))
 ·
  intro j r hr
  rcases each j r hr with ⟨rfl, rfl⟩ | ⟨_, hr⟩
  ·
   exact ⟨hz0, hz, Nat.le_refl _⟩
  ·
   obtain ⟨h1, h2, h3⟩ := h.range j r hr
   exact ⟨h1, h2, by omega⟩
 ·
  intro j k r s hjk hr hs
  rcases each j r hr with ⟨e1, e2⟩ | ⟨_, hr'⟩
  ·
   rcases each k s hs with ⟨e3, _⟩ | ⟨_, hs'⟩
   ·
    exact absurd (e1.trans e3.symm) hjk
   ·
    right; rw [e2]; exact (h.range k s hs').2.2
  ·
   rcases each k s hs with ⟨_, e4⟩ | ⟨_, hs'⟩
   ·
    left; rw [e4]; exact (h.range j r hr').2.2
   ·
    exact h.apart j k r s hjk hr' hs'
theorem wpAny_of_AO {n g : Nat} {L : Array Bool → Recs → Act → Prop} {Q' : Exit → Act → World → Prop} (hL : ∀ listed ξ a w, L listed ξ a → Good an W0 ξ w → wpAny P md ops Q' g listed a w) :
  ∀ (f : Nat) (listed : Array Bool) (ξ : Recs) (a : Act) (w : World), AO P ops md an W0 n L f listed ξ a → Good an W0 ξ w → wpAny P md ops Q' (f + g) listed a w
 | 0, listed, ξ, a, w, h, hg => by rw [Nat.zero_add]; exact hL _ _ _ _ h hg
 | f + 1, listed, ξ, a, w, h, hg => by
  rw [show f + 1 + g = (f + g) + 1 by omega]
  refine ⟨fun h0 => absurd h0 h.1, fun i hi => ?_⟩
  obtain ⟨_, oi, hoi, _⟩ := mem_ready.1 hi
  obtain ⟨S, hS, hK⟩ := (h.2 i hi).2 oi hoi
  unfold wpOp
  simp only [hoi]
  cases hS with
  | skip hw =>
   rw [if_neg (by rw [hw]; exact Bool.false_ne_true)]
   exact wpAny_of_AO hL f _ _ _ _ (hK none undef ⟨rfl, rfl⟩) hg
  | quiet v hw hn hr =>
   rw [if_pos hw]
   left
   unfold Oper.wp
   rw [hr w ⟨⟨w, hg.below⟩, rfl⟩]
   exact wpAny_of_AO hL f _ _ _ _ (hK none v ⟨rfl, rfl⟩) hg
  | lzy A hw hn hl =>
   rw [if_pos hw]
   left
   refine wp_of_lz (hl w hg.below fun j _ => hg.fact j) ?_
   rintro v w' ⟨hb, x, rfl, hΦ⟩
   exact wpAny_of_AO hL f _ _ _ _ (hK _ _ ⟨_, rfl, rfl⟩) (hg.add hb hn hΦ)
/-- the walk in the order of the text -/
def LW (P : Program) (ops : Array Oper) (md : Region.Mode) (an : Anns) (W0 : World) (Q : Recs → Act → Prop) : List Oper → Nat → Recs → Act → Prop
 | [], _, ξ, a => Q ξ a
 | o :: r, k, ξ, a => StepK P ops md an W0 k o ξ a (LW P ops md an W0 Q r (k + 1))
def setTo (listed : Array Bool) : Nat → Nat → Array Bool
 | 0, _ => listed
 | f + 1, k => setTo (listed.setIfInBounds k true) f (k + 1)
def lazyHead (md : Region.Mode) (ops : Array Oper) (n : Nat) : Nat → Nat → Array Bool → Bool
 | 0, _, listed => (Region.ready md ops listed).all fun j => decide (n ≤ j)
 | f + 1, k, listed => (Region.ready md ops listed).contains k && Region.free md ops listed k && lazyHead md ops n f (k + 1) (listed.setIfInBounds k true)
def lazyB (md : Region.Mode) (ops : Array Oper) (n : Nat) : Bool := Region.noSelect ops && sinkAllB md ops n && lazyHead md ops n n 0 (Array.replicate ops.size false)
theorem AO_lex {n : Nat} {Lq : Recs → Act → Prop} (hsel : Region.noSelect ops = true) (hs : sinkAllB md ops n = true) (done : Array Bool) (hdn : (Region.ready md ops done).all (fun j => decide (n ≤ j)) = true) :
  ∀ (l : List Oper) (k : Nat) (listed : Array Bool) (ξ : Recs) (a : Act), (∀ j, j < l.length → l[j]? = ops[k + j]?) → k + l.length = n → Closed md ops n listed → setTo listed l.length k = done →
  lazyHead md ops n l.length k listed = true → LW P ops md an W0 Lq l k ξ a → AO P ops md an W0 n (fun listed' ξ' a' => listed' = done ∧ Lq ξ' a') l.length listed ξ a
 | [], k, listed, ξ, a, _, _, _, hd, _, h => ⟨hd, h⟩
 | o :: l, k, listed, ξ, a, hl, hk, inv, hd, hB, h => by
  have h0 : ops[k]? = some o := by simpa using (hl 0 (by simp)).symm
  simp only [List.length_cons, lazyHead, Bool.and_eq_true] at hB
  obtain ⟨⟨hr, hf⟩, hB'⟩ := hB
  have hkn : k < n := by simp only [List.length_cons] at hk; omega
  have hr' : k ∈ Region.ready md ops listed := by simpa using hr
  obtain ⟨S, hS, hK⟩ := h
  refine AO_first h0 (Region.noSelect_spec hsel) hs hkn (fun listed' _ a' hL j hj => ?_) l.length listed ξ a inv (Region.free_spec h0 hf) hr' hS fun ρ v hs' => ?_
  ·
   rw [hL.1] at hj; exact of_decide_eq_true (List.all_eq_true.1 hdn j hj)
  ·
   exact AO_lex hsel hs done hdn l (k + 1) _ _ _ (fun j hj => by have := hl (j + 1) (by simp; omega); simpa [Nat.add_assoc, Nat.add_comm 1 j] using this) (by simp only [List.length_cons] at hk; omega) (inv.set hr') (by simpa [setTo] using hd) hB' (hK ρ v hs')
theorem lazyHead_done {n : Nat} : ∀ (f k : Nat) (listed : Array Bool), lazyHead md ops n f k listed = true → (Region.ready md ops (setTo listed f k)).all (fun j => decide (n ≤ j)) = true
 | 0, _, _, h => h
 | f + 1, k, listed, h => by
  simp only [lazyHead, Bool.and_eq_true] at h
  exact lazyHead_done f (k + 1) _ h.2
theorem wp_region_lazy {id : Nat} {Q : Exit → Act → World → Prop} {a : Act} {w : World} {l : List Oper} (n : Nat) (an : Anns) (hm : P.follows .mixedOrders = true) (hn : n ≤ l.length) (hB : lazyB .any l.toArray n = true)
  (h : LW P l.toArray .any an w (fun ξ a' => ∀ w', Good an w ξ w' → wpAny P .any l.toArray Q (l.length - n) (setTo (Array.replicate l.length false) n 0) a' w') (l.take n) 0 (fun _ => none) a) : (Code.region id l.toArray true).wp P Q a w := by
 simp only [lazyB, Bool.and_eq_true] at hB
 obtain ⟨⟨hsel, hs⟩, hlex⟩ := hB
 have htl : (l.take n).length = n := by simp; omega
 have inv0 : Closed .any l.toArray n (Array.replicate l.toArray.size false) := ⟨by simp, fun j oj _ hl => (by rw [getD_replicate_false] at hl; cases hl)⟩
 have hdn := lazyHead_done _ _ _ hlex
 have H := AO_lex (md := .any) hsel hs _ hdn (l.take n) 0 _ _ a (fun j hj => by
  have hj' : j < n := by rw [htl] at hj; exact hj
  simp [hj']) (by simpa using htl) inv0 (by rw [htl]) (by rw [htl]; exact hlex) h
 refine wp_region_any hm ?_
 simp only [List.size_toArray] at H
 have := wpAny_of_AO (g := l.length - n) (Q' := Q) (w := { w with drawn := w.drawn + 1 }) (fun listed ξ a' w' hL hg => ?_) _ _ _ _ H (Good.start an ((Below.refl _ w).drew))
 ·
  rw [htl] at this
  simpa [show n + (l.length - n) = l.length by omega] using this
 ·
  rw [hL.1]
  simpa using hL.2 w' hg
theorem wp_region_lz {id : Nat} {Q : Exit → Act → World → Prop} {a : Act} {w : World} {l : List Oper} (n g : Nat) (done : Array Bool) (an : Anns) (hm : P.follows .mixedOrders = true) (hn : l.length = n + g) (hd : setTo (Array.replicate l.length false) n 0 = done) (hB : lazyB .any l.toArray n = true)
  (h : LW P l.toArray .any an w (fun ξ a' => ∀ w', Good an w ξ w' → wpAny P .any l.toArray Q g done a' w') (l.take n) 0 (fun _ => none) a) : (Code.region id l.toArray true).wp P Q a w := by
 refine wp_region_lazy n an hm (by omega) hB ?_
 rw [hd, show l.length - n = g by omega]
 exact h
theorem bind_value {P : Program} {s : Sem Value} {w w' : World} {n : Next} (h : (do pure (Next.value (← s)) : Sem Next).run P w = .ok n w') : ∃ u, n = .value u := by
 rw [Sem.run_bind] at h
 cases hr : Sem.run P s w with
 | ok u w1 => rw [hr] at h; simp [Result.andThen] at h; exact ⟨u, h.1.symm⟩
 | halt x w1 => rw [hr] at h; simp [Result.andThen] at h
theorem valB_run {o : Oper} {ρ : Operand → Value} {w w' : World} {n : Next} (hv : valB o.op = true) (h : (execOp ρ o).run P w = .ok n w') : ∃ u, n = .value u := by
 unfold execOp at h
 cases ho : o.op <;> rw [ho] at hv h <;> first | (cases hv; done) | exact bind_value h | skip
 case move x => simp at h; exact ⟨_, h.1.symm⟩
 case assign x => simp at h; exact ⟨_, h.1.symm⟩
 case pick c a b =>
  dsimp only at h
  rw [Sem.run_bind] at h
  cases hr : Sem.run P (asBool (ρ c)) w with
  | ok u w1 => rw [hr] at h; simp [Result.andThen] at h; exact ⟨_, h.1.symm⟩
  | halt x w1 => rw [hr] at h; simp [Result.andThen] at h
 case call c =>
  unfold valB at hv
  dsimp only at h hv
  cases hc : c.callee with
  | builtin b =>
   rw [hc] at hv
   cases b <;> first | (cases hv; done) | skip
   all_goals
    simp [resolve, hc, invoke, builtin] at h
    generalize Sem.run P _ w = r at h
    cases r with
    | ok u w1 => simp [Result.andThen] at h; exact ⟨_, h.1.symm⟩
    | halt x w1 => simp [Result.andThen] at h
  | value f => rw [hc] at hv; cases hv
  | invoke r m => rw [hc] at hv; cases hv
theorem wpQuiet_LW {W0 : World} {Q : Recs → Act → Prop} : ∀ (qs rest : List Oper) (k : Nat) (ξ : Recs) (a : Act), qs.all (fun o => valB o.op) = true → (List.range qs.length).all (fun i => (an (k + i)).isNone) = true →
  wpQuiet P ops (LatC W0) (fun a' => LW P ops md an W0 Q rest (k + qs.length) ξ a') qs a → LW P ops md an W0 Q (qs ++ rest) k ξ a
 | [], rest, k, ξ, a, _, _, h => h
 | o :: qs, rest, k, ξ, a, hv, hn, h => by
  simp only [List.all_cons, Bool.and_eq_true] at hv
  have hn0 : an k = none := by have := List.all_eq_true.1 hn 0 (List.mem_range.2 (by simp)); simpa using this
  have hn' : (List.range qs.length).all (fun i => (an (k + 1 + i)).isNone) = true := List.all_eq_true.2 fun i hi => by
   have := List.all_eq_true.1 hn (i + 1) (List.mem_range.2 (by have := List.mem_range.1 hi; simp; omega))
   rwa [show k + (i + 1) = k + 1 + i by omega] at this
  have next : ∀ a', wpQuiet P ops (LatC W0) (fun a'' => LW P ops md an W0 Q rest (k + (qs.length + 1)) ξ a'') qs a' → LW P ops md an W0 Q (qs ++ rest) (k + 1) ξ a' := fun a' h' =>
   wpQuiet_LW qs rest (k + 1) ξ a' hv.2 hn' (by rwa [show k + 1 + qs.length = k + (qs.length + 1) by omega])
  unfold wpQuiet at h
  show StepK P ops md an W0 k o ξ a (LW P ops md an W0 Q (qs ++ rest) (k + 1))
  by_cases hw : Region.wanted o (yielded ops a.tmps) = true
  ·
   rw [if_pos hw] at h
   obtain ⟨v, h1, h2⟩ := h
   refine ⟨_, .quiet v hw hn0 fun w hC => ?_, ?_⟩
   ·
    have := h1 w hC
    unfold Oper.quietAt at this
    generalize hr : (execOp a.eval o).run P w = r at this
    cases r with
    | ok n w' =>
     obtain ⟨u, rfl⟩ := valB_run hv.1 hr
     obtain ⟨rfl, rfl⟩ := this
     rfl
    | halt x w' => exact this.elim
   ·
    rintro ρ u ⟨rfl, rfl⟩
    exact next _ h2
  ·
   rw [if_neg hw] at h
   refine ⟨_, .skip (by simpa using hw), ?_⟩
   rintro ρ u ⟨rfl, rfl⟩
   exact next _ h
/-- the next m operations: none of them annotated, none of them a call -/
theorem LW.block {W0 : World} {Q : Recs → Act → Prop} {l : List Oper} {k : Nat} {ξ : Recs} {a : Act} (m k' : Nat) (hk : k + (l.take m).length = k') (hv : (l.take m).all (fun o => valB o.op) = true) (hn : (List.range (l.take m).length).all (fun i => (an (k + i)).isNone) = true)
  (h : wpQuiet P ops (fun w => ∃ y : Lat W0, w = y.w) (fun a' => LW P ops md an W0 Q (l.drop m) k' ξ a') (l.take m) a) : LW P ops md an W0 Q l k ξ a := by
 subst hk
 have := wpQuiet_LW (l.take m) (l.drop m) k ξ a hv hn h
 rwa [List.take_append_drop] at this
/-- an annotated operation -/
theorem LW.lzy {W0 : World} {Q : Recs → Act → Prop} {o : Oper} {rest : List Oper} {k : Nat} {ξ : Recs} {a : Act} (A : Ann) (hw : Region.wanted o (yielded ops a.tmps) = true) (hA : an k = some A)
  (hl : ∀ y : Lat W0, (∀ j, reachB md ops k j = true → factAt an ξ j y.w) → lzAt P o a y.w (lzPost A y.w)) (h : ∀ r : Rec, LW P ops md an W0 Q rest (k + 1) (upr ξ k (some r)) (a.put o.dst (A.f r))) : LW P ops md an W0 Q (o :: rest) k ξ a := by
 refine ⟨_, .lzy A hw hA fun w hb hk => hl ⟨w, hb⟩ hk, ?_⟩
 rintro ρ u ⟨r, rfl, rfl⟩
 exact h r
theorem LW.skip {W0 : World} {Q : Recs → Act → Prop} {o : Oper} {rest : List Oper} {k : Nat} {ξ : Recs} {a : Act} (hw : Region.wanted o (yielded ops a.tmps) = false) (h : LW P ops md an W0 Q rest (k + 1) ξ (a.put o.dst undef)) : LW P ops md an W0 Q (o :: rest) k ξ a := by
 refine ⟨_, .skip hw, ?_⟩
 rintro ρ u ⟨rfl, rfl⟩
 exact h
theorem LW.done {W0 : World} {Q : Recs → Act → Prop} {k : Nat} {ξ : Recs} {a : Act} (h : Q ξ a) : LW P ops md an W0 Q [] k ξ a := h
/-- a fact that an operation waits for -/
theorem factAt.get {ξ : Recs} {j : Nat} {w : World} {A : Ann} {r : Rec} (h : factAt an ξ j w) (hA : an j = some A) (hr : ξ j = some r) : A.Φ r w := h A r hA hr w (Below.refl _ _)
theorem Good.get {W0 : World} {ξ : Recs} {w : World} (h : Good an W0 ξ w) (j : Nat) {A : Ann} {r : Rec} (hA : an j = some A) (hr : ξ j = some r) : A.Φ r w := (h.fact j).get hA hr
end
end Go.Proofs.YtghikgjknhjjgaaDoor
namespace Go.Proofs.YtghikgjknhjjgaaDoor
set_option maxRecDepth 100000
open Go.RowKit
theorem Bx.range {w : World} {b : Nat} {cs : Array Value} {t : TypeId} (h : Bx w b cs t) : w.rangeAt b 0 cs.toList := by
 intro j v hv
 rw [Nat.zero_add, h.cell]
 simpa using hv
end Go.Proofs.YtghikgjknhjjgaaDoor
namespace Go.Proofs.YtghikgjknhjjgaaDoor
set_option maxRecDepth 100000
open Go.RowKit
section
variable {P : Program} {ops : Array Oper} {rest : List Oper} {o : Oper} {a : Act} {Q : Exit → Act → World → Prop} {w : World}
end
section
variable {P : Program} {ops : Array Oper} {rest : List Oper} {o : Oper} {a : Act} {Q : Exit → Act → World → Prop} {w : World}
end
section
variable {P : Program} {ops : Array Oper} {rest : List Oper} {o : Oper} {a : Act} {Q : Exit → Act → World → Prop} {w : World}
end
/-- the annotation of a call that answers one value -/
def annK (v : Value) : Ann := ⟨fun _ => v, fun _ _ => True⟩
theorem lz_constB {P : Program} {f : FuncId} {args : Array Value} {v : Value} {W : World} (h : Calls P f args W fun e w' => e = .returned v ∧ Below W.heap.size W w') : Calls P f args W fun e w' => ∃ u, e = .returned u ∧ lzPost (annK v) W u w' :=
 h.mono fun _ _ ⟨he, hw⟩ => ⟨v, he, hw, fun _ => undef, rfl, fun _ _ => trivial⟩
end Go.Proofs.YtghikgjknhjjgaaDoor
namespace Go.Proofs.YtghikgjknhjjgaaDoor
open Go.RowKit
/-- the slice v, of n elements of one cell each, holds xs in a row of its own -/
def OwnG (w : World) (base : Nat) (e : TypeId) (v : Value) (n : Nat) (xs : List Value) : Prop :=
 xs.length = n ∧ ∃ g cap cur fz, v = .slice (some ⟨g, 0, none⟩) n cap ∧ base ≤ g ∧ w.heap[g]? = some (.cells cur e fz) ∧ (fz = (0, 0) ∨ cur.size ≤ fz.1) ∧ n ≤ cap ∧ cap ≤ maxLen ∧ cur.size = cap ∧ cur.toList.take n = xs
section
variable {w w' : World} {base : Nat} {e : TypeId} {v : Value} {n : Nat} {xs : List Value}
theorem OwnG.lt (h : OwnG w base e v n xs) : ∀ k, v.ownBlock = some k → base ≤ k ∧ k < w.heap.size := by
 obtain ⟨_, g, cap, cur, fz, rfl, hb, hg, _⟩ := h
 intro k hk
 obtain rfl : g = k := by simpa [Value.ownBlock] using hk
 exact ⟨hb, (Array.getElem?_eq_some_iff.1 hg).1⟩
theorem OwnG.same (h : OwnG w base e v n xs) (hw : ∀ k, v.ownBlock = some k → w'.heap[k]? = w.heap[k]?) : OwnG w' base e v n xs := by
 obtain ⟨hl, g, cap, cur, fz, rfl, hb, hg, r⟩ := h
 exact ⟨hl, g, cap, cur, fz, rfl, hb, (hw g rfl).trans hg, r⟩
theorem OwnG.alloc (h : OwnG w base e v n xs) (o : Obj) : OwnG (w.alloc o) base e v n xs := h.same fun k hk => Below.heap_alloc w o k (h.lt k hk).2
theorem OwnG.row (h : OwnG w base e v n xs) : ∃ g cap, v = .slice (some ⟨g, 0, none⟩) n cap ∧ base ≤ g ∧ g < w.heap.size ∧ RowAt (· = g) w (some ⟨g, 0, none⟩) xs ∧ n ≤ cap ∧ cap ≤ maxLen := by
 obtain ⟨hl, g, cap, cur, fz, rfl, hb, hg, hf, hn, hc, hs, ht⟩ := h
 refine ⟨g, cap, rfl, hb, (Array.getElem?_eq_some_iff.1 hg).1, fun j hj => ⟨g, 0, rfl, ?_, rfl⟩, hn, hc⟩
 rw [cell_of_row _ _ _ _ _ _ hg, Nat.zero_add]
 have : (cur.toList.take n)[j]? = some xs[j] := by rw [ht]; exact List.getElem?_eq_getElem hj
 rw [List.getElem?_take] at this
 split at this
 ·
  simpa using this
 ·
  cases this
theorem OwnG.cells (h : OwnG w base e v n xs) {g : Nat} (hg : v.ownBlock = some g) : ∀ j u, xs[j]? = some u → w.cell? ((⟨g, 0, none⟩ : Addr).add j) = some u := by
 obtain ⟨g', cap, rfl, _, _, hr, _⟩ := h.row
 obtain rfl : g' = g := by simpa [Value.ownBlock] using hg
 exact hr.src _ rfl
end
section
variable {P : Program}
end
section
variable {F : Fence} {nF : Nat} {P : Program} {ops : Array Oper} {rest : List Oper} {o : Oper} {a : Act} {Q : Exit → Act → World → Prop} {w : World}
end
end Go.Proofs.YtghikgjknhjjgaaDoor
namespace Go.Proofs.YtghikgjknhjjgaaDoor
open Go.RowKit
section
variable {F : Fence} {nF : Nat} {P : Program} {ops : Array Oper} {rest : List Oper} {o : Oper} {a : Act} {Q : Exit → Act → World → Prop} {w w' : World}
end
end Go.Proofs.YtghikgjknhjjgaaDoor
namespace Go.Proofs.YtghikgjknhjjgaaDoor
set_option maxRecDepth 100000
open Go.RowKit
section
variable {P : Program} {o : Oper} {a : Act} {w : World}
end
end Go.Proofs.YtghikgjknhjjgaaDoor
namespace Go.Proofs.YtghikgjknhjjgaaDoor
set_option maxRecDepth 100000
open Go.RowKit
end Go.Proofs.YtghikgjknhjjgaaDoor
namespace Go.Proofs.YtghikgjknhjjgaaDoor
set_option maxRecDepth 100000
open Go.RowKit
/-- the value v is the disk d in the world w -/
def DskV (w : World) (v : Value) (d : Dsk) : Prop := DskR (· < w.heap.size) w v d
theorem DskV.of {S : Nat → Prop} {w : World} {v : Value} {d : Dsk} (h : DskR S w v d) (hS : InS S w) : DskV w v d := h.mono hS
theorem DskV.below {w w' : World} {v : Value} {d : Dsk} (h : DskV w v d) (hb : Below w.heap.size w w') : DskV w' v d :=
 DskR.mono (DskR.below h hb) fun _ hs => Nat.lt_of_lt_of_le hs hb.size
theorem DskV.drewN {w : World} {v : Value} {d : Dsk} (h : DskV w v d) (n : Nat) : DskV (w.drewN n) v d := h.below (Below.drewN (Below.refl _ _) n)
theorem inS_all (w : World) : InS (· < w.heap.size) w := fun _ h => h
theorem gr_all {w w' : World} (hb : Below w.heap.size w w') : InS (Gr (· < w.heap.size) w w') w' := (inS_all w).gr hb
theorem DskV.agg {w : World} {v : Value} {d : Dsk} (h : DskV w v d) : ∃ po pc co cc, v = .agg #[.int .i64 d.size, .slice po d.pages.length pc, .slice co d.cache.length cc, .int .i64 d.left] := by
 obtain ⟨po, pc, co, cc, e, _⟩ := h
 exact ⟨po, pc, co, cc, e⟩
theorem v_write (d : Dsk) (v : Value) (i : Int) (data : ByteArray) (w : World) (hD : DskV w v d) (hd : data.size ≤ 140737488351232) (hn : d.cache.length ≤ 1000000) {A : Dsk} {er : Int} (he : writeD d i data = (A, er)) :
  Calls Tryd.prog 64 #[v, .int .i64 i, .string data] w fun e w' => ∃ v', e = .returned (.tuple #[v', .int .i64 er]) ∧ DskV w' v' A ∧ Below w.heap.size w w' := by
 refine (disk_write d v i data w (inS_all w) hD hd hn).mono ?_
 rintro e w' ⟨v', rfl, h, hb⟩
 rw [he] at h ⊢
 exact ⟨v', rfl, .of h (gr_all hb), hb⟩
theorem v_flush (d : Dsk) (v : Value) (w : World) (hD : DskV w v d) {A : Dsk} {er : Int} (he : flushD d = (A, er)) :
  Calls Tryd.prog 42 #[v] w fun e w' => ∃ v', e = .returned (.tuple #[v', .int .i64 er]) ∧ DskV w' v' A ∧ Below w.heap.size w w' := by
 refine (disk_flush d v w (inS_all w) hD).mono ?_
 rintro e w' ⟨v', rfl, h, hb⟩
 rw [he] at h ⊢
 exact ⟨v', rfl, .of h (gr_all hb), hb⟩
theorem v_crash (d : Dsk) (v : Value) (picks : List Int) (qo : Option Addr) (qc : Nat) (w : World) {T : Nat → Prop} (hD : DskV w v d) (hq : IntsAt T w qo picks) (hql : picks.length ≤ 1000000) (hn : d.cache.length ≤ 1000000) {A : Dsk} (he : crashD d picks = A) :
  Calls Tryd.prog 16 #[v, .slice qo picks.length qc] w fun e w' => ∃ v', e = .returned v' ∧ DskV w' v' A ∧ Below w.heap.size w w' := by
 refine (disk_crash d v picks qo qc w (inS_all w) hD hq hql hn).mono ?_
 rintro e w' ⟨v', rfl, h, hb⟩
 rw [he] at h
 exact ⟨v', rfl, .of h (gr_all hb), hb⟩
theorem v_read (d : Dsk) (v : Value) (i : Int) (w : World) (hD : DskV w v d) {s : ByteArray} {er : Int} (he : readD d i = (s, er)) :
  Calls Tryd.prog 24 #[v, .int .i64 i] w fun e w' => e = .returned (.tuple #[.string s, .int .i64 er]) ∧ Below w.heap.size w w' := by
 refine (disk_read d v i w (inS_all w) hD).mono ?_
 rintro e w' ⟨rfl, hb⟩
 rw [he]
 exact ⟨rfl, hb⟩
theorem v_check (d : Dsk) (v : Value) (w : World) (hD : DskV w v d) {er : Int} (he : chk d = er) :
  Calls Tryd.prog 34 #[v] w fun e w' => e = .returned (.int .i64 er) ∧ Below w.heap.size w w' := he ▸ disk_check d v w hD
theorem v_rcheck (d : Dsk) (v : Value) (w : World) (hD : DskV w v d) {er : Int} (he : chk d = er) :
  Calls Tryd.prog 22 #[v] w fun e w' => e = .returned (.int .i64 er) ∧ Below w.heap.size w w' := he ▸ ref40_check d v w hD
theorem v_great {b : Bool} (d : Dsk) (v : Value) (w : World) (hD : DskV w v d) (hg : greatW d.pages d.cache = b) :
  Calls Tryd.prog 21 #[v] w fun e w' => e = .returned (.bool b) ∧ Below w.heap.size w w' := great_b d v w hD hg
end Go.Proofs.YtghikgjknhjjgaaDoor
namespace Go.Proofs.YtghikgjknhjjgaaDoor
set_option maxRecDepth 100000
open Go.RowKit
theorem fitE_1 {d : Dsk} {frm til : Int} (h : (chk d != 0) = true) : fitE d frm til = 1 := by unfold fitE; rw [if_pos (by simpa using h)]
theorem fitE_2 {d : Dsk} {frm til : Int} (h : (chk d != 0) = false) (hf : d.size < 24 ∨ frm < 0 ∨ til < 3 ∨ (d.pages.length : Int) < til ∨ til - 3 < frm) : fitE d frm til = 2 := by
 unfold fitE
 rw [if_neg (by simpa using h), if_pos]
 unfold fitsB
 simp only [Bool.and_eq_false_iff, decide_eq_false_iff_not]
 omega
theorem fitE_0 {d : Dsk} {frm til : Int} (h : (chk d != 0) = false) (h1 : 24 ≤ d.size) (h2 : 0 ≤ frm) (h3 : 3 ≤ til) (h4 : til ≤ (d.pages.length : Int)) (h5 : frm ≤ til - 3) : fitE d frm til = 0 := by
 unfold fitE fitsB
 rw [if_neg (by simpa using h), if_neg (by simp; omega)]
theorem fitE_zero {d : Dsk} {frm til : Int} (h : fitE d frm til = 0) : chk d = 0 ∧ 24 ≤ d.size ∧ 0 ≤ frm ∧ 3 ≤ til ∧ til ≤ (d.pages.length : Int) ∧ frm ≤ til - 3 := by
 unfold fitE at h
 split at h
 ·
  cases h
 ·
  rename_i h1
  split at h
  ·
   cases h
  ·
   rename_i h2
   unfold fitsB at h2
   simp at h2
   refine ⟨by simpa using h1, ?_⟩
   omega
set_option maxHeartbeats 2000000 in
theorem pl_fits (d : Dsk) (v : Value) (frm til : Int) (w : World) (hD : DskV w v d) :
  Calls Tryd.prog 27 #[v, .int .i64 frm, .int .i64 til] w fun e w' => e = .returned (.int .i64 (fitE d frm til)) ∧ Below w.heap.size w w' := by
 have hD0 := hD
 obtain ⟨po, pc, co, cc, rfl⟩ := hD.agg
 clear hD
 cases g0 : (chk d != 0)
 ·
  cases g1 : decide (d.size < 24)
  ·
   have g1' := of_decide_eq_false g1
   cases g2 : decide (frm < 0)
   ·
    have g2' := of_decide_eq_false g2
    cases g3 : decide (til < 3)
    ·
     have g3' := of_decide_eq_false g3
     cases g4 : decide ((d.pages.length : Int) < til)
     ·
      have g4' := of_decide_eq_false g4
      have g6 : til ≤ 1000000000 := by
       obtain ⟨q, _⟩ := chk_zero (by simpa using g0)
       have := rangedB_true q
       omega
      cases g5 : decide (til - 3 < frm)
      ·
       go_enter Tryd.func27, Tryd.ntmps27
       go_wp2_with fail
       refine (v_check d _ _ (hD0.below (Below.one _ _)) rfl).mono ?_
       rintro e w1 ⟨rfl, hb1⟩
       have x1 := (Bx.new w _ _).belowAll hb1
       have cX := x1.cell
       have lX := x1.lt
       go_wp2
       go_ret
       exact ⟨by rw [fitE_0 g0 (by omega) (by omega) (by omega) (by omega) (by have := of_decide_eq_false g5; omega)]; rfl, btr (Below.one _ _) hb1⟩
      ·
       have g5' := of_decide_eq_true g5
       go_enter Tryd.func27, Tryd.ntmps27
       go_wp2_with fail
       refine (v_check d _ _ (hD0.below (Below.one _ _)) rfl).mono ?_
       rintro e w1 ⟨rfl, hb1⟩
       have x1 := (Bx.new w _ _).belowAll hb1
       have cX := x1.cell
       have lX := x1.lt
       go_wp2
       go_ret
       exact ⟨by rw [fitE_2 g0 (by omega)]; rfl, btr (Below.one _ _) hb1⟩
     ·
      have g4' := of_decide_eq_true g4
      go_enter Tryd.func27, Tryd.ntmps27
      go_wp2_with fail
      refine (v_check d _ _ (hD0.below (Below.one _ _)) rfl).mono ?_
      rintro e w1 ⟨rfl, hb1⟩
      have x1 := (Bx.new w _ _).belowAll hb1
      have cX := x1.cell
      have lX := x1.lt
      go_wp2
      go_ret
      exact ⟨by rw [fitE_2 g0 (by omega)]; rfl, btr (Below.one _ _) hb1⟩
    ·
     have g3' := of_decide_eq_true g3
     go_enter Tryd.func27, Tryd.ntmps27
     go_wp2_with fail
     refine (v_check d _ _ (hD0.below (Below.one _ _)) rfl).mono ?_
     rintro e w1 ⟨rfl, hb1⟩
     have x1 := (Bx.new w _ _).belowAll hb1
     have cX := x1.cell
     have lX := x1.lt
     go_wp2
     go_ret
     exact ⟨by rw [fitE_2 g0 (by omega)]; rfl, btr (Below.one _ _) hb1⟩
   ·
    have g2' := of_decide_eq_true g2
    go_enter Tryd.func27, Tryd.ntmps27
    go_wp2_with fail
    refine (v_check d _ _ (hD0.below (Below.one _ _)) rfl).mono ?_
    rintro e w1 ⟨rfl, hb1⟩
    have x1 := (Bx.new w _ _).belowAll hb1
    have cX := x1.cell
    have lX := x1.lt
    go_wp2
    go_ret
    exact ⟨by rw [fitE_2 g0 (by omega)]; rfl, btr (Below.one _ _) hb1⟩
  ·
   have g1' := of_decide_eq_true g1
   go_enter Tryd.func27, Tryd.ntmps27
   go_wp2_with fail
   refine (v_check d _ _ (hD0.below (Below.one _ _)) rfl).mono ?_
   rintro e w1 ⟨rfl, hb1⟩
   have x1 := (Bx.new w _ _).belowAll hb1
   have cX := x1.cell
   have lX := x1.lt
   go_wp2
   go_ret
   exact ⟨by rw [fitE_2 g0 (by omega)]; rfl, btr (Below.one _ _) hb1⟩
 ·
  go_enter Tryd.func27, Tryd.ntmps27
  go_wp2_with fail
  refine (v_check d _ _ (hD0.below (Below.one _ _)) rfl).mono ?_
  rintro e w1 ⟨rfl, hb1⟩
  have x1 := (Bx.new w _ _).belowAll hb1
  have cX := x1.cell
  have lX := x1.lt
  go_wp2
  go_ret
  exact ⟨by rw [fitE_1 g0]; rfl, btr (Below.one _ _) hb1⟩
theorem area_bd {d : Dsk} {frm til : Int} (h : fitE d frm til = 0) : 0 ≤ areaN d frm til ∧ areaN d frm til ≤ 1024000 ∧ 24 ≤ d.size ∧ d.size ≤ 512 ∧ 0 ≤ til - frm - 2 ∧ til - frm - 2 ≤ 2000 := by
 obtain ⟨h0, h1, h2, h3, h4, h5⟩ := fitE_zero h
 have := rangedB_true (chk_zero h0).1
 have ha : 0 ≤ til - frm - 2 := by omega
 have hb : til - frm - 2 ≤ 2000 := by omega
 refine ⟨Int.mul_nonneg ha (by omega), ?_, h1, by omega, ha, hb⟩
 have := Int.mul_le_mul hb (show d.size ≤ 512 by omega) (by omega) (by omega)
 unfold areaN; omega
set_option maxHeartbeats 1000000 in
theorem pl_area (d : Dsk) (v : Value) (frm til : Int) (w : World) (hf : fitE d frm til = 0) (hD : DskV w v d) :
  Calls Tryd.prog 30 #[v, .int .i64 frm, .int .i64 til] w fun e w' => e = .returned (.int .i64 (areaN d frm til)) ∧ Below w.heap.size w w' := by
 obtain ⟨a1, a2, a3, a4, a5, a6⟩ := area_bd hf
 obtain ⟨h0, h1, h2, h3, h4, h5⟩ := fitE_zero hf
 have hr := rangedB_true (chk_zero h0).1
 obtain ⟨po, pc, co, cc, rfl⟩ := hD.agg
 have x1 := Bx.new w #[.int .i64 d.size, .slice po d.pages.length pc, .slice co d.cache.length cc, .int .i64 d.left] 30
 have cX := x1.cell
 have lX := x1.lt
 have ha : (til - frm - 2) * d.size = areaN d frm til := rfl
 have Ha := Lib.hid ha
 have b1 : 0 ≤ (til - frm - 2) * d.size := a1
 have b2 : (til - frm - 2) * d.size ≤ 1024000 := a2
 clear hD hf ha a1 a2 h0
 go_enter Tryd.func30, Tryd.ntmps30
 go_wp2
 go_ret
 exact ⟨by rw [← Ha.out]; rfl, Below.one _ _⟩
end Go.Proofs.YtghikgjknhjjgaaDoor
namespace Go.Proofs.YtghikgjknhjjgaaDoor
set_option maxRecDepth 100000
open Go.RowKit
theorem bytesV_app (l m : List UInt8) : bytesV (l ++ m) = bytesV l ++ bytesV m := by simp [bytesV]
theorem strCells_bs (l : List UInt8) : Lib.strCells (bs l) = bytesV l := by simp [Lib.strCells, bytesV]
theorem pagesL_succ (d : Dsk) (i : Int) (m : Nat) : pagesL d i (m + 1) = pagesL d i m ++ pageL d (i + m) := by
 unfold pagesL; rw [List.range_succ]; simp
theorem pagesL_len (d : Dsk) (i : Int) (z : Nat) : ∀ m : Nat, (∀ j : Nat, j < m → (pageL d (i + j)).length = z) → (pagesL d i m).length = m * z
 | 0, _ => by simp [pagesL]
 | m + 1, h => by
  rw [pagesL_succ, List.length_append, pagesL_len d i z m (fun j hj => h j (by omega)), h m (by omega), Nat.succ_mul]
theorem lastW_size' {d : Dsk} (h : chk d = 0) {k : Nat} (hk : k < d.pages.length) : ((contentD d k hk).size : Int) = d.size := by
 obtain ⟨_, h2, h3, _⟩ := chk_zero h
 exact lastW_size (fun x hx => (h3 x hx).2.2) _ (h2 _ (List.getElem_mem _))
theorem pageL_len {d : Dsk} (h : chk d = 0) {i : Int} (h0 : 0 ≤ i) (h1 : i < d.pages.length) : (pageL d i).length = d.size.toNat := by
 have hk : i.toNat < d.pages.length := by omega
 have e : (i.toNat : Int) = i := by omega
 unfold pageL
 rw [← e, readD_ok h hk]
 have := lastW_size' h hk
 rw [Array.length_toList]
 show (contentD d i.toNat hk).size = _
 omega
theorem areaL_len {d : Dsk} {frm til : Int} (hf : fitE d frm til = 0) : ((areaL d frm til).length : Int) = areaN d frm til := by
 obtain ⟨h0, h1, h2, h3, h4, h5⟩ := fitE_zero hf
 unfold areaL
 rw [pagesL_len d _ d.size.toNat _ (fun j hj => pageL_len h0 (by omega) (by omega))]
 unfold areaN
 rw [Int.natCast_mul]
 congr 1 <;> omega
end Go.Proofs.YtghikgjknhjjgaaDoor
namespace Go.Proofs.YtghikgjknhjjgaaDoor
set_option maxRecDepth 100000
open Go.RowKit
/-- an operation that fits a disk -/
def GoodOp (d : Dsk) : DOp → Prop
 | .wr i data => 0 ≤ i ∧ i < d.pages.length ∧ (data.size : Int) = d.size
 | .fl => True
theorem GoodOp.of {d e : Dsk} {o : DOp} (h : GoodOp d o) (h1 : e.pages.length = d.pages.length) (h2 : e.size = d.size) : GoodOp e o := by
 cases o with
 | wr i data => obtain ⟨a, b, c⟩ := h; exact ⟨a, by rw [h1]; exact b, by rw [h2]; exact c⟩
 | fl => exact trivial
/-- two disks of one shape -/
def Shape (d e : Dsk) : Prop := chk e = 0 ∧ e.size = d.size ∧ e.pages.length = d.pages.length
theorem Shape.refl {d : Dsk} (h : chk d = 0) : Shape d d := ⟨h, rfl, rfl⟩
theorem Shape.trans {a b c : Dsk} (h : Shape a b) (k : Shape b c) : Shape a c := ⟨k.1, k.2.1.trans h.2.1, k.2.2.trans h.2.2⟩
theorem pageL_nat {d : Dsk} (h : chk d = 0) {k : Nat} (hk : k < d.pages.length) : pageL d k = (contentD d k hk).data.toList := by
 unfold pageL
 rw [readD_ok h hk]
theorem opP_stop {d : Dsk} {o : DOp} (h : chk d = 0) (g : GoodOp d o) (hl : d.left = 0) : opP d o = (d, 18) := by
 cases o with
 | wr i data =>
  obtain ⟨a, b, c⟩ := g
  unfold opP writeD
  simp only
  rw [if_neg (by simp [h]), if_neg (by omega), if_neg (by simp [c]), if_pos hl]
 | fl => unfold opP flushD; simp only; rw [if_neg (by simp [h]), if_pos hl]
theorem opP_wr {d : Dsk} {i : Int} {data : ByteArray} (h : chk d = 0) (g : GoodOp d (.wr i data)) (hl : d.left ≠ 0) : opP d (.wr i data) = ({ opD d with cache := d.cache ++ [⟨i, data⟩] }, 0) := by
 obtain ⟨a, b, c⟩ := g
 unfold opP writeD
 simp only
 rw [if_neg (by simp [h]), if_neg (by omega), if_neg (by simp [c]), if_neg hl]
theorem opP_fl {d : Dsk} (h : chk d = 0) (hl : d.left ≠ 0) : opP d .fl = (⟨d.size, contentsD d, [], (opD d).left⟩, 0) := by
 unfold opP flushD
 simp only
 rw [if_neg (by simp [h]), if_neg hl]
theorem opP_shape {d : Dsk} {o : DOp} (h : chk d = 0) (g : GoodOp d o) : Shape d (opP d o).1 := by
 by_cases hl : d.left = 0
 ·
  rw [opP_stop h g hl]; exact .refl h
 ·
  cases o with
  | wr i data =>
   rw [opP_wr h g hl]
   exact ⟨write_chk h g.1 g.2.1 g.2.2, rfl, rfl⟩
  | fl =>
   rw [opP_fl h hl]
   exact ⟨flush_chk h _ (opD_left (chk_zero h).2.2.2), rfl, contentsD_len d⟩
/-- what a page reads as behind an operation that succeeds -/
theorem opP_page {d : Dsk} {o : DOp} (h : chk d = 0) (g : GoodOp d o) (hl : d.left ≠ 0) {k : Nat} (hk : k < d.pages.length) :
  pageL (opP d o).1 k = match o with | .wr i data => if i = k then data.data.toList else pageL d k | .fl => pageL d k := by
 have hs := opP_shape h g
 have hk' : k < (opP d o).1.pages.length := by rw [hs.2.2]; exact hk
 rw [pageL_nat hs.1 hk', pageL_nat h hk]
 cases o with
 | wr i data =>
  simp only
  rw [content_write hk _ (by rw [opP_wr h g hl]) hk']
  split <;> rfl
 | fl =>
  simp only
  rw [content_flush hk _ (by rw [opP_fl h hl]) hk']
theorem perf_stop {d : Dsk} {ops : List DOp} (h : chk d = 0) (g : ∀ o ∈ ops, GoodOp d o) (hl : d.left = 0) (hne : ops ≠ []) : perfP d ops = (d, 18) := by
 cases ops with
 | nil => exact absurd rfl hne
 | cons o r => rw [perfP, opP_stop h (g o (by simp)) hl, if_pos (by simp)]
theorem perf_shape : ∀ {ops : List DOp} {d : Dsk}, chk d = 0 → (∀ o ∈ ops, GoodOp d o) → Shape d (perfP d ops).1 ∧ ((perfP d ops).2 = 0 ∨ (perfP d ops).2 = 18)
 | [], d, h, _ => ⟨.refl h, .inl rfl⟩
 | o :: r, d, h, g => by
  rw [perfP]
  have hs := opP_shape h (g o (by simp))
  split
  ·
   rename_i he
   refine ⟨hs, .inr ?_⟩
   by_cases hl : d.left = 0
   ·
    rw [opP_stop h (g o (by simp)) hl]
   ·
    exfalso
    apply he
    cases o with
    | wr i data => rw [opP_wr h (g _ (by simp)) hl]
    | fl => rw [opP_fl h hl]
  ·
   have := perf_shape (ops := r) hs.1 (fun o' ho' => (g o' (by simp [ho'])).of hs.2.2 hs.2.1)
   exact ⟨hs.trans this.1, this.2⟩
theorem perf_app : ∀ (a b : List DOp) (d : Dsk), perfP d (a ++ b) = if (perfP d a).2 ≠ 0 then perfP d a else perfP (perfP d a).1 b
 | [], b, d => by simp [perfP]
 | o :: r, b, d => by
  rw [List.cons_append, perfP, perfP, perf_app r b]
  by_cases h : (opP d o).2 ≠ 0
  ·
   rw [if_pos h, if_pos h, if_pos h]
  ·
   rw [if_neg h, if_neg h]
theorem perf_on {d : Dsk} {o : DOp} {r : List DOp} (h : (opP d o).2 = 0) : perfP d (o :: r) = perfP (opP d o).1 r := by rw [perfP, if_neg (by simp [h])]
/-- pages that no operation writes read as before -/
theorem perf_else : ∀ {ops : List DOp} {d : Dsk} {k : Nat}, chk d = 0 → (∀ o ∈ ops, GoodOp d o) → k < d.pages.length → (∀ i data, DOp.wr i data ∈ ops → i ≠ k) → pageL (perfP d ops).1 k = pageL d k
 | [], _, _, _, _, _, _ => rfl
 | o :: r, d, k, h, g, hk, hn => by
  have hs := opP_shape h (g o (by simp))
  have hp : pageL (opP d o).1 k = pageL d k := by
   by_cases hl : d.left = 0
   ·
    rw [opP_stop h (g o (by simp)) hl]
   ·
    rw [opP_page h (g o (by simp)) hl hk]
    cases o with
    | wr i data => exact if_neg (hn i data (by simp))
    | fl => rfl
  rw [perfP]
  split
  ·
   exact hp
  ·
   rw [perf_else (ops := r) hs.1 (fun o' ho' => (g o' (by simp [ho'])).of hs.2.2 hs.2.1) (by rw [hs.2.2]; exact hk) (fun i data hm => hn i data (by simp [hm]))]
   exact hp
/-- a page all of whose writes bear the same bytes -/
theorem perf_hit : ∀ {ops : List DOp} {d : Dsk} {k : Nat} {D : List UInt8}, chk d = 0 → (∀ o ∈ ops, GoodOp d o) → k < d.pages.length → (perfP d ops).2 = 0 → (∀ i data, DOp.wr i data ∈ ops → i = k → data.data.toList = D) →
  (pageL d k = D ∨ ∃ i data, DOp.wr i data ∈ ops ∧ i = k) → pageL (perfP d ops).1 k = D
 | [], d, k, D, _, _, _, _, _, h => by
  rcases h with h | ⟨i, data, h, _⟩
  ·
   exact h
  ·
   cases h
 | o :: r, d, k, D, h, g, hk, he, hn, hh => by
  have hl : d.left ≠ 0 := by
   intro hl
   rw [perf_stop h g hl (by simp)] at he
   cases he
  have hs := opP_shape h (g o (by simp))
  have he0 : (opP d o).2 = 0 := by
   cases o with
   | wr i data => rw [opP_wr h (g _ (by simp)) hl]
   | fl => rw [opP_fl h hl]
  rw [perf_on he0] at he ⊢
  refine perf_hit hs.1 (fun o' ho' => (g o' (by simp [ho'])).of hs.2.2 hs.2.1) (by rw [hs.2.2]; exact hk) he (fun i data hm => hn i data (by simp [hm])) ?_
  rw [opP_page h (g o (by simp)) hl hk]
  cases o with
  | wr i data =>
   simp only
   by_cases hi : i = k
   ·
    rw [if_pos hi]; exact .inl (hn i data (by simp) hi)
   ·
    rw [if_neg hi]
    refine hh.imp id ?_
    rintro ⟨i', data', hm, e⟩
    rcases List.mem_cons.1 hm with hm | hm
    ·
     exact absurd (by cases hm; exact e) hi
    ·
     exact ⟨i', data', hm, e⟩
  | fl =>
   refine hh.imp id ?_
   rintro ⟨i', data', hm, e⟩
   rcases List.mem_cons.1 hm with hm | hm
   ·
    cases hm
   ·
    exact ⟨i', data', hm, e⟩
/-- writes, as operations -/
abbrev wrO (x : PW) : DOp := .wr x.page x.data
/-- a list of writes on a disk, as far as the power goes -/
theorem perf_ws : ∀ (ws : List PW) {d : Dsk}, chk d = 0 → (∀ x ∈ ws, GoodOp d (wrO x)) →
  (∃ j, j ≤ ws.length ∧ (perfP d (ws.map wrO)).1.cache = d.cache ++ ws.take j ∧ (perfP d (ws.map wrO)).1.pages = d.pages ∧
   (((perfP d (ws.map wrO)).2 = 0 ∧ j = ws.length ∧ (d.left = -1 → (perfP d (ws.map wrO)).1.left = -1)) ∨ ((perfP d (ws.map wrO)).2 = 18 ∧ (perfP d (ws.map wrO)).1.left = 0 ∧ d.left ≠ -1)))
 | [], d, _, _ => ⟨0, by simp, by simp [perfP], rfl, .inl ⟨rfl, rfl, fun h => h⟩⟩
 | x :: r, d, h, g => by
  by_cases hl : d.left = 0
  ·
   rw [perf_stop h (fun o ho => by obtain ⟨y, hy, rfl⟩ := List.mem_map.1 ho; exact g y hy) hl (by simp)]
   exact ⟨0, by simp, by simp, rfl, .inr ⟨rfl, hl, by omega⟩⟩
  ·
   have hg := g x (by simp)
   have hs := opP_shape h hg
   have he := opP_wr h hg hl
   obtain ⟨j, hj, h1, h2, h3⟩ := perf_ws r hs.1 (fun y hy => (g y (by simp [hy])).of hs.2.2 hs.2.1)
   rw [List.map_cons, perf_on (by rw [he])]
   have hc : (opP d (wrO x)).1.cache = d.cache ++ [x] := by rw [he]
   have hp : (opP d (wrO x)).1.pages = d.pages := by rw [he]; rfl
   have hL : (opP d (wrO x)).1.left = (opD d).left := by rw [he]
   refine ⟨j + 1, by simpa using hj, by rw [h1, hc]; simp, h2.trans hp, ?_⟩
   rw [hL] at h3
   have hl' : d.left = -1 ↔ (opD d).left = -1 := by
    have := (chk_zero h).2.2.2
    unfold opD
    simp only
    split <;> omega
   rcases h3 with ⟨a, b, c⟩ | ⟨a, b, c⟩
   ·
    exact .inl ⟨a, by simp [b], fun e => c (hl'.1 e)⟩
   ·
    exact .inr ⟨a, b, fun e => c (hl'.1 e)⟩
end Go.Proofs.YtghikgjknhjjgaaDoor
