/- A region that draws its order, whose operations read what was there before, make memory, and call functions that make memory: ONE walk in the order of the text serves every order. What an operation hands back may hang on the order (the numbers of the blocks that it makes): an annotation says, by the operation's number, what it looks like ('f') and what is known of it ('Φ'). Digests: arrays of 32 bytes as values and in memory. No function of the program is named here. Arrays made and built, kept whole: laws that do not unroll them. No function of the program is named here. A row of bytes that a call has made itself, frozen (if at all) behind its last cell: made by '[]byte(s)', grown byte by byte, inside a fence. No function of the program is named here. Arr's and the kit's laws on arrays, inside a fence. No function of the program is named here. Two words for Lazy: 'make([]T, n)' and 'string(b)' inside a region that draws its order. No function of the program is named here. The reference's numbers of 8 bytes: quiltref41.number, Header. What the functions of layer 42 (btree) compute, as plain Lean: keys, trees, their pages, loading, changing, placing. No function of the program is named here. Plain laws of layer 42: the order of keys, ascending pairs. No function of the program is named here. -/
import Derived.Test.YtlefmmhlpgmbjaaGreatS03
import Derived.StillTail
import Derived.Deep.MidRow
import Derived.Laws.IdiomStrings
import Derived.Lib.FrozenHead
import Derived.OwnWalkIn
import Derived.Test.YtlefmmhlpgmbjaaGreatS01
namespace Go.Proofs.YtlefmmhlpgmbjaaGreat
set_option maxRecDepth 100000
open Go.RowKit
structure Rec where
 x : Nat -> Value
 lo : Nat
 hi : Nat
structure Ann where
 f : Rec -> Value
 Φ : Rec -> World -> Prop
abbrev Anns := Nat -> Option Ann
abbrev Recs := Nat -> Option Rec
def upr (ξ : Recs) (i : Nat) (ρ : Option Rec) : Recs := match ρ with | none => ξ | some r => fun j => if j = i then some r else ξ j
theorem zlq {ξ : Recs} {i j : Nat} {ρ σ : Option Rec} (h : i ≠ j) : upr (upr ξ i ρ) j σ = upr (upr ξ j σ) i ρ := by
 cases ρ <;> cases σ <;> simp only [upr]
 funext k
 by_cases h1 : k = j
 . subst h1; rw [if_pos rfl, if_neg (fun e => h e.symm), if_pos rfl]
 .
  rw [if_neg h1]
  by_cases h2 : k = i
  . rw [if_pos h2, if_pos h2]
  . rw [if_neg h2, if_neg h2, if_neg h1]
def zcQ (an : Anns) (ξ : Recs) (j : Nat) (w : World) : Prop := ∀ A r, an j = some A -> ξ j = some r -> ∀ w', Below w.heap.size w w' -> A.Φ r w'
theorem zfE {an : Anns} {ξ : Recs} {i j : Nat} {ρ : Option Rec} {w : World} (h : j ≠ i) : zcQ an (upr ξ i ρ) j w ↔ zcQ an ξ j w := by
 cases ρ with
 | none => exact Iff.rfl
 | some r => unfold zcQ upr; simp only [if_neg h]
section
variable {P : Program} {ops : Array Oper} {md : Region.Mode} {W0 : World} {an : Anns}
def pastB (md : Region.Mode) (ops : Array Oper) : Nat -> List Nat -> List Nat
 | 0, S => S
 | f + 1, S => pastB md ops f ((List.range ops.size).filter fun j => S.contains j || S.any fun k => Region.waitsFor md ops k j)
def zbf (md : Region.Mode) (ops : Array Oper) (t j : Nat) : Bool := (pastB md ops 8 [t]).contains j
theorem zdW {t : Nat} {listed : Array Bool} (ht : ∀ k ot, ops[t]? = some ot -> (∃ e ∈ ot.after, Region.binds md e = true /\ e.on = k) -> listed.getD k false = true)
  (hc : ∀ j oj, ops[j]? = some oj -> listed.getD j false = true -> ∀ e ∈ oj.after, Region.binds md e = true -> listed.getD e.on false = true) :
  ∀ (f : Nat) (S : List Nat), (∀ k ∈ S, k = t \/ listed.getD k false = true) -> ∀ k ∈ pastB md ops f S, k = t \/ listed.getD k false = true
 | 0, _, h => h
 | f + 1, S, h => by
  refine zdW ht hc f _ fun k hk => ?_;obtain ⟨_, hk⟩ := List.mem_filter.1 hk;rcases Bool.or_eq_true_iff.1 hk with hk | hk
  . exact h k (by simpa using hk)
  .
   obtain ⟨j, hj, hw⟩ := List.any_eq_true.1 hk;obtain ⟨oj, hoj, e, he, hb, hon⟩ := Region.waitsFor_spec hw;right;rcases h j hj with rfl | hl
   . exact ht k oj hoj ⟨e, he, hb, hon⟩
   . rw [<- hon]; exact hc j oj hoj hl e he hb
theorem zaJ {t j : Nat} {listed : Array Bool} (ht : t ∈ Region.ready md ops listed)
  (hc : ∀ j oj, ops[j]? = some oj -> listed.getD j false = true -> ∀ e ∈ oj.after, Region.binds md e = true -> listed.getD e.on false = true) (h : zbf md ops t j = true) : j = t \/ listed.getD j false = true := by
 obtain ⟨_, ot, hot, hall⟩ := mem_ready.1 ht;refine zdW (t := t) (fun k ot' h1 ⟨e, he, hb, hon⟩ => ?_) hc 8 [t] (fun k hk => .inl (by simpa using hk)) j (by simpa [zbf] using h);obtain rfl : ot' = ot := Option.some.inj (h1.symm.trans hot);rw [<- hon]; exact hall e he hb
def valB : Op -> Bool
 | .move _ | .assign _ | .pick .. | .load .. | .binOp .. | .unOp .. | .convert .. | .slice .. | .fieldAddr .. | .field .. | .indexAddr .. | .index .. | .extract .. => true
 | .call c => match c.callee with
  | .builtin .len | .builtin .cap => true
  | _ => false
 | _ => false
def lzAt (P : Program) (o : Oper) (a : Act) (w : World) (Post : Value -> World -> Prop) : Prop :=
 match (execOp a.eval o).run P w with
 | .ok (.value u) w' => Post u w'
 | .ok .skip w' => Post undef w'
 | .ok (.enter f args) w' => Calls P f args w' fun e w'' => ∃ v, e = .returned v /\ Post v w''
 | _ => False
theorem zig {o : Oper} {a : Act} {w : World} {Post : Value -> World -> Prop} {K : Act -> World -> Prop} {Q : Exit -> Act -> World -> Prop} (h : lzAt P o a w Post) (hK : ∀ v w', Post v w' -> K (a.put o.dst v) w') : o.wp P a w K Q := by
 unfold lzAt at h;unfold Oper.wp;generalize (execOp a.eval o).run P w = r at *;cases r with
 | ok n w' =>
  cases n <;> simp only [Oper.upon] at h |-
  case value u => exact hK _ _ h
  case skip => exact hK _ _ h
  case enter f args => exact h.mono fun e w'' ⟨v, he, hp⟩ => by subst he; exact hK _ _ hp
 | halt x w' => exact h.elim
def LatC (W0 : World) (w : World) : Prop := ∃ y : Lat W0, w = y.w
def zcL (A : Ann) (w : World) (v : Value) (w' : World) : Prop := Below w.heap.size w w' /\ ∃ x, v = A.f ⟨x, w.heap.size, w'.heap.size⟩ /\ ∀ w'', Below w'.heap.size w' w'' -> A.Φ ⟨x, w.heap.size, w'.heap.size⟩ w''
def zno (P : Program) (ops : Array Oper) (md : Region.Mode) (an : Anns) (W0 : World) (i : Nat) (o : Oper) (A : Ann) (ξ : Recs) (a : Act) : Prop :=
 ∀ w, Below W0.heap.size W0 w -> (∀ j, zbf md ops i j = true -> zcQ an ξ j w) -> lzAt P o a w (zcL A w)
inductive Outs (P : Program) (ops : Array Oper) (md : Region.Mode) (an : Anns) (W0 : World) (i : Nat) (o : Oper) (ξ : Recs) (a : Act) : (Option Rec -> Value -> Prop) -> Prop
 | skip (hw : Region.wanted o (yielded ops a.tmps) = false) : Outs P ops md an W0 i o ξ a (fun ρ v => ρ = none /\ v = undef)
 | quiet (v : Value) (hw : Region.wanted o (yielded ops a.tmps) = true) (hn : an i = none) (hr : ∀ w, LatC W0 w -> (execOp a.eval o).run P w = .ok (.value v) w) : Outs P ops md an W0 i o ξ a (fun ρ u => ρ = none /\ u = v)
 | lzy (A : Ann) (hw : Region.wanted o (yielded ops a.tmps) = true) (hn : an i = some A) (hl : zno P ops md an W0 i o A ξ a) : Outs P ops md an W0 i o ξ a (fun ρ u => ∃ r, ρ = some r /\ u = A.f r)
theorem Outs.some {i : Nat} {o : Oper} {ξ : Recs} {a : Act} {S : Option Rec -> Value -> Prop} (h : Outs P ops md an W0 i o ξ a S) : ∃ ρ v, S ρ v := by
 cases h
 . exact ⟨_, _, rfl, rfl⟩
 . exact ⟨_, _, rfl, rfl⟩
 . exact ⟨_, _, ⟨fun _ => undef, 0, 0⟩, rfl, rfl⟩
theorem zgF (W0 : World) : LatC W0 W0 := ⟨⟨W0, Below.refl _ _⟩, rfl⟩
theorem Outs.uniq {i : Nat} {o : Oper} {ξ : Recs} {a : Act} {S S' : Option Rec -> Value -> Prop} (h : Outs P ops md an W0 i o ξ a S) (h' : Outs P ops md an W0 i o ξ a S') : S = S' := by
 cases h with
 | skip hw => cases h' with
  | skip => rfl
  | quiet _ hw' => rw [hw] at hw'; cases hw'
  | lzy _ hw' => rw [hw] at hw'; cases hw'
 | quiet v hw hn hr => cases h' with
  | skip hw' => rw [hw] at hw'; cases hw'
  | quiet v' _ _ hr' =>
   have e := (hr W0 (zgF W0)).symm.trans (hr' W0 (zgF W0));injection e with e1 e2
   injection e1 with e3
   rw [e3]
  | lzy _ _ hn' => rw [hn] at hn'; cases hn'
 | lzy A hw hn hl => cases h' with
  | skip hw' => rw [hw] at hw'; cases hw'
  | quiet _ _ hn' => rw [hn] at hn'; cases hn'
  | lzy A' _ hn' => rw [hn] at hn'; cases hn'; rfl
theorem Outs.apart {i : Nat} {oi : Oper} {ξ ξ' : Recs} {a a' : Act} {S : Option Rec -> Value -> Prop} (he : execOp a'.eval oi = execOp a.eval oi) (hw' : Region.wanted oi (yielded ops a'.tmps) = Region.wanted oi (yielded ops a.tmps))
  (hf : ∀ k w, zbf md ops i k = true -> (zcQ an ξ' k w -> zcQ an ξ k w)) (h : Outs P ops md an W0 i oi ξ a S) : Outs P ops md an W0 i oi ξ' a' S := by
 cases h with
 | skip hw => exact .skip (hw' ▸ hw)
 | quiet v hw hn hr => exact .quiet v (hw' ▸ hw) hn (by rw [he]; exact hr)
 | lzy A hw hn hl => refine .lzy A (hw' ▸ hw) hn fun w hb hk => ?_;have := hl w hb fun k hr => hf k w hr (hk k hr);unfold lzAt at this |-;rw [he]; exact this
def StepK (P : Program) (ops : Array Oper) (md : Region.Mode) (an : Anns) (W0 : World) (i : Nat) (o : Oper) (ξ : Recs) (a : Act) (K : Recs -> Act -> Prop) : Prop :=
 ∃ S, Outs P ops md an W0 i o ξ a S /\ ∀ ρ v, S ρ v -> K (upr ξ i ρ) (a.put o.dst v)
theorem StepK.mono {i : Nat} {o : Oper} {ξ : Recs} {a : Act} {K K' : Recs -> Act -> Prop} (h : StepK P ops md an W0 i o ξ a K) (hK : ∀ ξ a, K ξ a -> K' ξ a) : StepK P ops md an W0 i o ξ a K' := by
 obtain ⟨S, h1, h2⟩ := h;exact ⟨S, h1, fun ρ v hs => hK _ _ (h2 ρ v hs)⟩
theorem StepK.swap {i j : Nat} {oi oj : Oper} {ξ : Recs} {a : Act} {S : Option Rec -> Value -> Prop} {K : Recs -> Act -> Prop} (hij : i ≠ j) (hap : oi.apart ops oj = true)
  (hsi : ∀ cs b, oi.op ≠ .select cs b) (hsj : ∀ cs b, oj.op ≠ .select cs b) (hri : zbf md ops i j = false) (hrj : zbf md ops j i = false)
  (hi : Outs P ops md an W0 i oi ξ a S) (h : ∀ ρ v, S ρ v -> StepK P ops md an W0 j oj (upr ξ i ρ) (a.put oi.dst v) K) :
  StepK P ops md an W0 j oj ξ a (fun ξ' a' => Outs P ops md an W0 i oi ξ' a' S /\ ∀ ρ v, S ρ v -> K (upr ξ' i ρ) (a'.put oi.dst v)) := by
 obtain ⟨h1, h2, h3⟩ := Oper.apart_spec hap;have back : ∀ ρ v T, Outs P ops md an W0 j oj (upr ξ i ρ) (a.put oi.dst v) T -> Outs P ops md an W0 j oj ξ a T := fun ρ v T hT =>
  Outs.apart (execOp_put oj hsj a oi.dst v h1).symm (wanted_put oj a oi.dst v h1).symm (fun k w hr hk => (zfE (fun e => by subst e; rw [hrj] at hr; cases hr)).2 hk) hT
 obtain ⟨ρ0, v0, hs0⟩ := hi.some;obtain ⟨T, hT, _⟩ := h ρ0 v0 hs0;refine ⟨T, back _ _ _ hT, fun σ u hu => ⟨?_, fun ρ v hs => ?_⟩⟩
 . exact Outs.apart (execOp_put oi hsi a oj.dst u h3) (wanted_put oi a oj.dst u h3) (fun k w hr hk => (zfE (fun e => by subst e; rw [hri] at hr; cases hr)).1 hk) hi
 . obtain ⟨T', hT', hK⟩ := h ρ v hs;have := (back _ _ _ hT').uniq (back _ _ _ hT);subst this;have := hK σ u hu;rw [zlq hij, Act.put_comm a v u h2] at this;exact this
def AO (P : Program) (ops : Array Oper) (md : Region.Mode) (an : Anns) (W0 : World) (n : Nat) (L : Array Bool -> Recs -> Act -> Prop) : Nat -> Array Bool -> Recs -> Act -> Prop
 | 0, listed, ξ, a => L listed ξ a
 | f + 1, listed, ξ, a => Region.ready md ops listed ≠ [] /\ ∀ i ∈ Region.ready md ops listed, i < n /\ ∀ o, ops[i]? = some o -> StepK P ops md an W0 i o ξ a (AO P ops md an W0 n L f (listed.setIfInBounds i true))
structure Closed (md : Region.Mode) (ops : Array Oper) (n : Nat) (listed : Array Bool) : Prop where
 size : listed.size = ops.size
 closed : ∀ j oj, ops[j]? = some oj -> listed.getD j false = true -> ∀ e ∈ oj.after, Region.binds md e = true -> listed.getD e.on false = true
theorem Closed.set {n i : Nat} {listed : Array Bool} (inv : Closed md ops n listed) (hi : i ∈ Region.ready md ops listed) : Closed md ops n (listed.setIfInBounds i true) := by
 obtain ⟨_, oi, hoi, hall⟩ := mem_ready.1 hi;refine ⟨by simp [inv.size], fun j oj hj hl e he hb => ?_⟩
 by_cases hij : i = j
 . subst hij;have : oj = oi := Option.some.inj (hj.symm.trans hoi);subst this;exact getD_set_true (hall e he hb)
 . rw [getD_set_ne false hij] at hl;exact getD_set_true (inv.closed j oj hj hl e he hb)
def zgl (md : Region.Mode) (ops : Array Oper) (n : Nat) : Bool := (List.range ops.size).all fun t => decide (t < n) || (List.range n).all fun i => (pastB md ops 8 [t]).contains i
theorem zlr {n i : Nat} {oi : Oper} {S : Option Rec -> Value -> Prop} {L : Array Bool -> Recs -> Act -> Prop} (hi : ops[i]? = some oi) (hsel : ∀ (j : Nat) (o : Oper) cs b, ops[j]? = some o -> o.op ≠ .select cs b)
  (hs : zgl md ops n = true) (hin : i < n) (hdone : ∀ listed ξ a, L listed ξ a -> ∀ j ∈ Region.ready md ops listed, n <= j) :
  ∀ (f : Nat) (listed : Array Bool) (ξ : Recs) (a : Act), Closed md ops n listed ->
   (∀ j oj, ops[j]? = some oj -> j ≠ i -> listed.getD j true = false -> (∀ e ∈ oj.after, Region.binds md e = true -> e.on ≠ i) -> oi.apart ops oj = true) ->
   i ∈ Region.ready md ops listed -> Outs P ops md an W0 i oi ξ a S ->
   (∀ ρ v, S ρ v -> AO P ops md an W0 n L f (listed.setIfInBounds i true) (upr ξ i ρ) (a.put oi.dst v)) -> AO P ops md an W0 n L (f + 1) listed ξ a := by
 intro f;have head : ∀ (listed : Array Bool), Closed md ops n listed -> i ∈ Region.ready md ops listed -> ∀ j ∈ Region.ready md ops listed, j < n := by
  intro listed inv hr j hj;rcases Nat.lt_or_ge j n with h | h
  . exact h
  .
   exfalso;have hlt : j < ops.size := by obtain ⟨_, oj, hoj, _⟩ := mem_ready.1 hj; exact (Array.getElem?_eq_some_iff.1 hoj).1
   have h1 := List.all_eq_true.1 hs j (List.mem_range.2 hlt);simp only [Bool.or_eq_true, decide_eq_true_eq] at h1;rcases h1 with h1 | h1
   . omega
   .
    rcases zaJ hj inv.closed (List.all_eq_true.1 h1 i (List.mem_range.2 hin)) with h2 | h2
    . omega
    . rw [getD_both (mem_ready.1 hr).1] at h2; cases h2
 induction f with
 | zero =>
  intro listed ξ a inv _ hr hy H;refine ⟨fun h => (by rw [h] at hr; cases hr), fun j hj => ⟨head listed inv hr j hj, fun oj hoj => ?_⟩⟩
  by_cases hji : j = i
  . subst hji;obtain rfl : oj = oi := Option.some.inj (hoj.symm.trans hi);exact ⟨S, hy, H⟩
  . obtain ⟨ρ, v, hs⟩ := hy.some;have := hdone _ _ _ (H ρ v hs) j (ready_mono hj hji);have := head listed inv hr j hj;omega
 | succ f ih =>
  intro listed ξ a inv hfree hr hy H;refine ⟨fun h => (by rw [h] at hr; cases hr), fun j hj => ⟨head listed inv hr j hj, fun oj hoj => ?_⟩⟩
  by_cases hji : j = i
  . subst hji;obtain rfl : oj = oi := Option.some.inj (hoj.symm.trans hi);exact ⟨S, hy, H⟩
  .
   obtain ⟨hjun, oj', hoj', hall⟩ := mem_ready.1 hj;obtain rfl : oj' = oj := Option.some.inj (hoj'.symm.trans hoj);have hun := (mem_ready.1 hr).1;have hnot : ∀ e ∈ oj'.after, Region.binds md e = true -> e.on ≠ i := fun e he hb heq => by have h1 := hall e he hb;rw [heq, getD_both hun] at h1;cases h1
   have hri : zbf md ops i j = false := by
    cases h : zbf md ops i j with
    | false => rfl
    | true =>
     rcases zaJ hr inv.closed h with h2 | h2
     . exact absurd h2 hji
     . rw [getD_both hjun] at h2; cases h2
   have hrj : zbf md ops j i = false := by
    cases h : zbf md ops j i with
    | false => rfl
    | true =>
     rcases zaJ hj inv.closed h with h2 | h2
     . exact absurd h2.symm hji
     . rw [getD_both hun] at h2; cases h2
   have hfree' : ∀ k ok, ops[k]? = some ok -> k ≠ i -> (listed.setIfInBounds j true).getD k true = false ->
     (∀ e ∈ ok.after, Region.binds md e = true -> e.on ≠ i) -> oi.apart ops ok = true := fun k ok hk hki hun hno => by
    refine hfree k ok hk hki ?_ hno
    by_cases hjk : j = k
    . subst hjk; exact hjun
    . rw [getD_set_ne true hjk] at hun; exact hun
   refine (StepK.swap (Ne.symm hji) (hfree j oj' hoj hji hjun hnot) (fun cs b => hsel i oi cs b hi) (fun cs b => hsel j oj' cs b hoj) hri hrj hy fun ρ v hs => ((H ρ v hs).2 j (ready_mono hj hji)).2 oj' hoj).mono ?_;rintro ξ' a' ⟨h1, h2⟩;refine ih (listed.setIfInBounds j true) ξ' a' (inv.set hj) hfree' (ready_mono hr (Ne.symm hji)) h1 fun ρ v hs => ?_;rw [Array.setIfInBounds_comm _ _ hji];exact h2 ρ v hs
structure Good (an : Anns) (W0 : World) (ξ : Recs) (w : World) : Prop where
 below : Below W0.heap.size W0 w
 fact : ∀ j, zcQ an ξ j w
 range : ∀ j r, ξ j = some r -> W0.heap.size <= r.lo /\ r.lo <= r.hi /\ r.hi <= w.heap.size
 apart : ∀ i j r s, i ≠ j -> ξ i = some r -> ξ j = some s -> r.hi <= s.lo \/ s.hi <= r.lo
theorem Good.start (an : Anns) {W0 w : World} (h : Below W0.heap.size W0 w) : Good an W0 (fun _ => none) w :=
 ⟨h, (fun _ _ _ _ h => by cases h), (fun _ _ h => by cases h), (fun _ _ _ _ _ h => by cases h)⟩
theorem Good.add {ξ : Recs} {w w' : World} {i : Nat} {A : Ann} {x : Nat -> Value} (h : Good an W0 ξ w) (hb : Below w.heap.size w w') (hA : an i = some A) (hΦ : ∀ w'', Below w'.heap.size w' w'' -> A.Φ ⟨x, w.heap.size, w'.heap.size⟩ w'') :
  Good an W0 (upr ξ i (some ⟨x, w.heap.size, w'.heap.size⟩)) w' := by
 have hz := hb.size;have hz0 := h.below.size;have each : ∀ j r, upr ξ i (some ⟨x, w.heap.size, w'.heap.size⟩) j = some r -> (j = i /\ r = ⟨x, w.heap.size, w'.heap.size⟩) \/ (j ≠ i /\ ξ j = some r) := by
  intro j r hj;unfold upr at hj
  by_cases e : j = i
  . left; simp only [if_pos e] at hj; exact ⟨e, (Option.some.inj hj).symm⟩
  . right; simp only [if_neg e] at hj; exact ⟨e, hj⟩
 refine ⟨h.below.trans (hb.mono hz0), ?_, ?_, ?_⟩
 .
  intro j B r hB hr w'' hb'';rcases each j r hr with ⟨rfl, rfl⟩ | ⟨_, hr⟩
  . rw [hA] at hB; cases hB; exact hΦ w'' hb''
  . exact h.fact j B r hB hr w'' (hb.trans (hb''.mono hz))
 .
  intro j r hr;rcases each j r hr with ⟨rfl, rfl⟩ | ⟨_, hr⟩
  . exact ⟨hz0, hz, Nat.le_refl _⟩
  . obtain ⟨h1, h2, h3⟩ := h.range j r hr;exact ⟨h1, h2, by omega⟩
 .
  intro j k r s hjk hr hs;rcases each j r hr with ⟨e1, e2⟩ | ⟨_, hr'⟩
  .
   rcases each k s hs with ⟨e3, _⟩ | ⟨_, hs'⟩
   . exact absurd (e1.trans e3.symm) hjk
   . right; rw [e2]; exact (h.range k s hs').2.2
  .
   rcases each k s hs with ⟨_, e4⟩ | ⟨_, hs'⟩
   . left; rw [e4]; exact (h.range j r hr').2.2
   . exact h.apart j k r s hjk hr' hs'
theorem zbB {n g : Nat} {L : Array Bool -> Recs -> Act -> Prop} {Q' : Exit -> Act -> World -> Prop} (hL : ∀ listed ξ a w, L listed ξ a -> Good an W0 ξ w -> wpAny P md ops Q' g listed a w) :
  ∀ (f : Nat) (listed : Array Bool) (ξ : Recs) (a : Act) (w : World), AO P ops md an W0 n L f listed ξ a -> Good an W0 ξ w -> wpAny P md ops Q' (f + g) listed a w
 | 0, listed, ξ, a, w, h, hg => by rw [Nat.zero_add]; exact hL _ _ _ _ h hg
 | f + 1, listed, ξ, a, w, h, hg => by
  rw [show f + 1 + g = (f + g) + 1 by omega];refine ⟨fun h0 => absurd h0 h.1, fun i hi => ?_⟩;obtain ⟨_, oi, hoi, _⟩ := mem_ready.1 hi;obtain ⟨S, hS, hK⟩ := (h.2 i hi).2 oi hoi;unfold wpOp;simp only [hoi];cases hS with
  | skip hw => rw [if_neg (by rw [hw]; exact Bool.false_ne_true)];exact zbB hL f _ _ _ _ (hK none undef ⟨rfl, rfl⟩) hg
  | quiet v hw hn hr => rw [if_pos hw];left;unfold Oper.wp;rw [hr w ⟨⟨w, hg.below⟩, rfl⟩];exact zbB hL f _ _ _ _ (hK none v ⟨rfl, rfl⟩) hg
  | lzy A hw hn hl => rw [if_pos hw];left;refine zig (hl w hg.below fun j _ => hg.fact j) ?_;rintro v w' ⟨hb, x, rfl, hΦ⟩;exact zbB hL f _ _ _ _ (hK _ _ ⟨_, rfl, rfl⟩) (hg.add hb hn hΦ)
def LW (P : Program) (ops : Array Oper) (md : Region.Mode) (an : Anns) (W0 : World) (Q : Recs -> Act -> Prop) : List Oper -> Nat -> Recs -> Act -> Prop
 | [], _, ξ, a => Q ξ a
 | o :: r, k, ξ, a => StepK P ops md an W0 k o ξ a (LW P ops md an W0 Q r (k + 1))
def setTo (listed : Array Bool) : Nat -> Nat -> Array Bool
 | 0, _ => listed
 | f + 1, k => setTo (listed.setIfInBounds k true) f (k + 1)
def za4 (md : Region.Mode) (ops : Array Oper) (n : Nat) : Nat -> Nat -> Array Bool -> Bool
 | 0, _, listed => (Region.ready md ops listed).all fun j => decide (n <= j)
 | f + 1, k, listed => (Region.ready md ops listed).contains k && Region.free md ops listed k && za4 md ops n f (k + 1) (listed.setIfInBounds k true)
def lazyB (md : Region.Mode) (ops : Array Oper) (n : Nat) : Bool := Region.noSelect ops && zgl md ops n && za4 md ops n n 0 (Array.replicate ops.size false)
theorem zmr {n : Nat} {Lq : Recs -> Act -> Prop} (hsel : Region.noSelect ops = true) (hs : zgl md ops n = true) (done : Array Bool) (hdn : (Region.ready md ops done).all (fun j => decide (n <= j)) = true) :
  ∀ (l : List Oper) (k : Nat) (listed : Array Bool) (ξ : Recs) (a : Act), (∀ j, j < l.length -> l[j]? = ops[k + j]?) -> k + l.length = n -> Closed md ops n listed -> setTo listed l.length k = done ->
  za4 md ops n l.length k listed = true -> LW P ops md an W0 Lq l k ξ a -> AO P ops md an W0 n (fun listed' ξ' a' => listed' = done /\ Lq ξ' a') l.length listed ξ a
 | [], k, listed, ξ, a, _, _, _, hd, _, h => ⟨hd, h⟩
 | o :: l, k, listed, ξ, a, hl, hk, inv, hd, hB, h => by
  have h0 : ops[k]? = some o := by simpa using (hl 0 (by simp)).symm
  simp only [zlC, za4, Bool.and_eq_true] at hB;obtain ⟨⟨hr, hf⟩, hB'⟩ := hB;have hkn : k < n := by simp only [zlC] at hk; omega
  have hr' : k ∈ Region.ready md ops listed := by simpa using hr
  obtain ⟨S, hS, hK⟩ := h;refine zlr h0 (Region.noSelect_spec hsel) hs hkn (fun listed' _ a' hL j hj => ?_) l.length listed ξ a inv (Region.free_spec h0 hf) hr' hS fun ρ v hs' => ?_
  . rw [hL.1] at hj; exact of_decide_eq_true (List.all_eq_true.1 hdn j hj)
  . exact zmr hsel hs done hdn l (k + 1) _ _ _ (fun j hj => by have := hl (j + 1) (by simp; omega); simpa [Nat.add_assoc, Nat.add_comm 1 j] using this) (by simp only [zlC] at hk; omega) (inv.set hr') (by simpa [setTo] using hd) hB' (hK ρ v hs')
theorem zbv {n : Nat} : ∀ (f k : Nat) (listed : Array Bool), za4 md ops n f k listed = true -> (Region.ready md ops (setTo listed f k)).all (fun j => decide (n <= j)) = true
 | 0, _, _, h => h
 | f + 1, k, listed, h => by simp only [za4, Bool.and_eq_true] at h;exact zbv f (k + 1) _ h.2
theorem ze6 {id : Nat} {Q : Exit -> Act -> World -> Prop} {a : Act} {w : World} {l : List Oper} (n : Nat) (an : Anns) (hm : P.follows .mixedOrders = true) (hn : n <= l.length) (hB : lazyB .any l.toArray n = true)
  (h : LW P l.toArray .any an w (fun ξ a' => ∀ w', Good an w ξ w' -> wpAny P .any l.toArray Q (l.length - n) (setTo (Array.replicate l.length false) n 0) a' w') (l.take n) 0 (fun _ => none) a) : (Code.region id l.toArray true).wp P Q a w := by
 simp only [lazyB, Bool.and_eq_true] at hB;obtain ⟨⟨hsel, hs⟩, hlex⟩ := hB;have htl : (l.take n).length = n := by simp; omega
 have inv0 : Closed .any l.toArray n (Array.replicate l.toArray.size false) := ⟨by simp, fun j oj _ hl => (by rw [getD_replicate_false] at hl; cases hl)⟩;have hdn := zbv _ _ _ hlex;have H := zmr (md := .any) hsel hs _ hdn (l.take n) 0 _ _ a (fun j hj => by
  have hj' : j < n := by rw [htl] at hj; exact hj
  simp [hj']) (by simpa using htl) inv0 (by rw [htl]) (by rw [htl]; exact hlex) h
 refine wp_region_any hm ?_;simp only [List.size_toArray] at H;have := zbB (g := l.length - n) (Q' := Q) (w := { w with drawn := w.drawn + 1 }) (fun listed ξ a' w' hL hg => ?_) _ _ _ _ H (Good.start an ((Below.refl _ w).drew))
 . rw [htl] at this;simpa [show n + (l.length - n) = l.length by omega] using this
 . rw [hL.1];simpa using hL.2 w' hg
theorem zal {id : Nat} {Q : Exit -> Act -> World -> Prop} {a : Act} {w : World} {l : List Oper} (n g : Nat) (done : Array Bool) (an : Anns) (hm : P.follows .mixedOrders = true) (hn : l.length = n + g) (hd : setTo (Array.replicate l.length false) n 0 = done) (hB : lazyB .any l.toArray n = true)
  (h : LW P l.toArray .any an w (fun ξ a' => ∀ w', Good an w ξ w' -> wpAny P .any l.toArray Q g done a' w') (l.take n) 0 (fun _ => none) a) : (Code.region id l.toArray true).wp P Q a w := by
 refine ze6 n an hm (by omega) hB ?_;rw [hd, show l.length - n = g by omega];exact h
theorem zjd {P : Program} {s : Sem Value} {w w' : World} {n : Next} (h : (do pure (Next.value (<- s)) : Sem Next).run P w = .ok n w') : ∃ u, n = .value u := by
 rw [Sem.run_bind] at h;cases hr : Sem.run P s w with
 | ok u w1 => rw [hr] at h; simp [Result.andThen] at h; exact ⟨u, h.1.symm⟩
 | halt x w1 => rw [hr] at h; simp [Result.andThen] at h
theorem zlX {o : Oper} {ρ : Operand -> Value} {w w' : World} {n : Next} (hv : valB o.op = true) (h : (execOp ρ o).run P w = .ok n w') : ∃ u, n = .value u := by
 unfold execOp at h;cases ho : o.op <;> rw [ho] at hv h <;> first | (cases hv; done) | exact zjd h | skip
 case move x => simp at h; exact ⟨_, h.1.symm⟩
 case assign x => simp at h; exact ⟨_, h.1.symm⟩
 case pick c a b =>
  dsimp only at h;rw [Sem.run_bind] at h;cases hr : Sem.run P (asBool (ρ c)) w with
  | ok u w1 => rw [hr] at h; simp [Result.andThen] at h; exact ⟨_, h.1.symm⟩
  | halt x w1 => rw [hr] at h; simp [Result.andThen] at h
 case call c =>
  unfold valB at hv;dsimp only at h hv;cases hc : c.callee with
  | builtin b =>
   rw [hc] at hv;cases b <;> first | (cases hv; done) | skip
   all_goals
    simp [resolve, hc, invoke, builtin] at h;generalize Sem.run P _ w = r at h;cases r with
    | ok u w1 => simp [Result.andThen] at h; exact ⟨_, h.1.symm⟩
    | halt x w1 => simp [Result.andThen] at h
  | value f => rw [hc] at hv; cases hv
  | invoke r m => rw [hc] at hv; cases hv
theorem zfe {W0 : World} {Q : Recs -> Act -> Prop} : ∀ (qs rest : List Oper) (k : Nat) (ξ : Recs) (a : Act), qs.all (fun o => valB o.op) = true -> (List.range qs.length).all (fun i => (an (k + i)).isNone) = true ->
  wpQuiet P ops (LatC W0) (fun a' => LW P ops md an W0 Q rest (k + qs.length) ξ a') qs a -> LW P ops md an W0 Q (qs ++ rest) k ξ a
 | [], rest, k, ξ, a, _, _, h => h
 | o :: qs, rest, k, ξ, a, hv, hn, h => by
  simp only [List.all_cons, Bool.and_eq_true] at hv;have hn0 : an k = none := by have := List.all_eq_true.1 hn 0 (List.mem_range.2 (by simp)); simpa using this
  have hn' : (List.range qs.length).all (fun i => (an (k + 1 + i)).isNone) = true := List.all_eq_true.2 fun i hi => by have := List.all_eq_true.1 hn (i + 1) (List.mem_range.2 (by have := List.mem_range.1 hi; simp; omega));rwa [show k + (i + 1) = k + 1 + i by omega] at this
  have next : ∀ a', wpQuiet P ops (LatC W0) (fun a'' => LW P ops md an W0 Q rest (k + (qs.length + 1)) ξ a'') qs a' -> LW P ops md an W0 Q (qs ++ rest) (k + 1) ξ a' := fun a' h' =>
   zfe qs rest (k + 1) ξ a' hv.2 hn' (by rwa [show k + 1 + qs.length = k + (qs.length + 1) by omega])
  unfold wpQuiet at h;show StepK P ops md an W0 k o ξ a (LW P ops md an W0 Q (qs ++ rest) (k + 1))
  by_cases hw : Region.wanted o (yielded ops a.tmps) = true
  .
   rw [if_pos hw] at h;obtain ⟨v, h1, h2⟩ := h;refine ⟨_, .quiet v hw hn0 fun w hC => ?_, ?_⟩
   .
    have := h1 w hC;unfold Oper.quietAt at this;generalize hr : (execOp a.eval o).run P w = r at this;cases r with
    | ok n w' => obtain ⟨u, rfl⟩ := zlX hv.1 hr;obtain ⟨rfl, rfl⟩ := this;rfl
    | halt x w' => exact this.elim
   . rintro ρ u ⟨rfl, rfl⟩;exact next _ h2
  . rw [if_neg hw] at h;refine ⟨_, .skip (by simpa using hw), ?_⟩;rintro ρ u ⟨rfl, rfl⟩;exact next _ h
theorem LW.block {W0 : World} {Q : Recs -> Act -> Prop} {l : List Oper} {k : Nat} {ξ : Recs} {a : Act} (m k' : Nat) (hk : k + (l.take m).length = k') (hv : (l.take m).all (fun o => valB o.op) = true) (hn : (List.range (l.take m).length).all (fun i => (an (k + i)).isNone) = true)
  (h : wpQuiet P ops (fun w => ∃ y : Lat W0, w = y.w) (fun a' => LW P ops md an W0 Q (l.drop m) k' ξ a') (l.take m) a) : LW P ops md an W0 Q l k ξ a := by
 subst hk;have := zfe (l.take m) (l.drop m) k ξ a hv hn h;rwa [List.take_append_drop] at this
theorem LW.lzy {W0 : World} {Q : Recs -> Act -> Prop} {o : Oper} {rest : List Oper} {k : Nat} {ξ : Recs} {a : Act} (A : Ann) (hw : Region.wanted o (yielded ops a.tmps) = true) (hA : an k = some A)
  (hl : ∀ y : Lat W0, (∀ j, zbf md ops k j = true -> zcQ an ξ j y.w) -> lzAt P o a y.w (zcL A y.w)) (h : ∀ r : Rec, LW P ops md an W0 Q rest (k + 1) (upr ξ k (some r)) (a.put o.dst (A.f r))) : LW P ops md an W0 Q (o :: rest) k ξ a := by
 refine ⟨_, .lzy A hw hA fun w hb hk => hl ⟨w, hb⟩ hk, ?_⟩;rintro ρ u ⟨r, rfl, rfl⟩;exact h r
theorem LW.done {W0 : World} {Q : Recs -> Act -> Prop} {k : Nat} {ξ : Recs} {a : Act} (h : Q ξ a) : LW P ops md an W0 Q [] k ξ a := h
theorem zcQ.get {ξ : Recs} {j : Nat} {w : World} {A : Ann} {r : Rec} (h : zcQ an ξ j w) (hA : an j = some A) (hr : ξ j = some r) : A.Φ r w := h A r hA hr w (Below.refl _ _)
theorem Good.get {W0 : World} {ξ : Recs} {w : World} (h : Good an W0 ξ w) (j : Nat) {A : Ann} {r : Rec} (hA : an j = some A) (hr : ξ j = some r) : A.Φ r w := (h.fact j).get hA hr
end
section
variable {P : Program} {ops : Array Oper} {rest : List Oper} {o : Oper} {a : Act} {Q : Exit -> Act -> World -> Prop} {w : World}
end
section
variable {P : Program} {ops : Array Oper} {rest : List Oper} {o : Oper} {a : Act} {Q : Exit -> Act -> World -> Prop} {w : World}
end
section
variable {P : Program} {ops : Array Oper} {rest : List Oper} {o : Oper} {a : Act} {Q : Exit -> Act -> World -> Prop} {w : World}
end
def annK (v : Value) : Ann := ⟨fun _ => v, fun _ _ => True⟩
theorem zaH {P : Program} {f : FuncId} {args : Array Value} {v : Value} {W : World} (h : Calls P f args W fun e w' => e = .returned v /\ Below W.heap.size W w') : Calls P f args W fun e w' => ∃ u, e = .returned u /\ zcL (annK v) W u w' :=
 h.mono fun _ _ ⟨he, hw⟩ => ⟨v, he, hw, fun _ => undef, rfl, fun _ _ => trivial⟩
section
variable {w w' : World} {base : Nat} {e : TypeId} {v : Value} {n : Nat} {xs : List Value}
end
section
variable {P : Program}
end
section
variable {F : Fence} {nF : Nat} {P : Program} {ops : Array Oper} {rest : List Oper} {o : Oper} {a : Act} {Q : Exit -> Act -> World -> Prop} {w : World}
end
section
variable {F : Fence} {nF : Nat} {P : Program} {ops : Array Oper} {rest : List Oper} {o : Oper} {a : Act} {Q : Exit -> Act -> World -> Prop} {w w' : World}
end
section
variable {P : Program} {o : Oper} {a : Act} {w : World}
theorem zne (src dst e : TypeId) (hs : P.underlying src = some (.slice e)) (he : P.underlying e = some (.int .u8)) (hd : P.underlying dst = some .string)
  (ad : Addr) (n c : Nat) (l : List UInt8) (hn : l.length = n) {S : Nat -> Prop} (hrow : RowAt S w (some ad) (zam l)) : (convert src dst (.slice (some ad) n c)).run P w = .ok (.string ⟨l.toArray⟩) w := by
 cases l with
 | nil => subst hn;rw [run_convert_bytes_string w src dst e _ _ _ hs he hd];simp [Conv.bytesToString];rfl
 | cons y l =>
  obtain ⟨b, off, h, _⟩ := hrow 0 (by simp [zam]);obtain rfl := Option.some.inj h;rw [run_convert_bytes_arg w src e hs he b off n c ((y :: l).map fun u => (u.toNat : Int)) (by simpa using hn) (fun i hi => ?_) dst hd, zex];obtain ⟨b', off', h', hc, _⟩ := hrow i (by simp [zam] at hn |-; omega);obtain ⟨rfl, rfl⟩ : b = b' /\ off = off' := by simpa using h'
  have hi' : i < (y :: l).length := by omega
  rw [hc];simp only [zam, List.getElem_map];rw [List.getD, List.getElem?_map, List.getElem?_eq_getElem hi'];rfl
theorem zkK (x : Operand) (src dst e : TypeId) (hop : o.op = .convert src dst x) (hs : P.underlying src = some (.slice e)) (he : P.underlying e = some (.int .u8)) (hd : P.underlying dst = some .string)
  (ad : Addr) (n c : Nat) (l : List UInt8) (hx : a.eval x = .slice (some ad) n c) (hn : l.length = n) {S : Nat -> Prop} (hrow : RowAt S w (some ad) (zam l)) : lzAt P o a w (zcL (annK (.string ⟨l.toArray⟩)) w) := by
 unfold lzAt;simp [execOp, hop, hx, zne src dst e hs he hd ad n c l hn hrow, Result.andThen];exact ⟨Below.refl _ _, fun _ => undef, rfl, fun _ _ => trivial⟩
end
theorem zj1 (n k : Nat) (hk : k < 8) : zam ((num8 n).take (k + 1)) = zam ((num8 n).take k) ++ [.int .u8 ((n : Int) / 2 ^ (56 - 8 * k) % 256)] := by
 have e : ((n : Int) / 2 ^ (56 - 8 * k) % 256) = ((n / 2 ^ (56 - 8 * k) % 256 : Nat) : Int) := by rw [Int.natCast_emod, Int.natCast_ediv, Int.natCast_pow]; rfl
 rw [e];rcases k with _ | _ | _ | _ | _ | _ | _ | _ | k
 case succ => omega
 all_goals simp [zam, num8]
abbrev Kv := ByteArray × ByteArray
def kLt (a b : ByteArray) : Bool := Go.Op.bytesLess a.toList b.toList
inductive Nd where
 | mk (ps : List Kv) (kids : List Nd) (page : Int)
def Nd.ps : Nd -> List Kv | .mk a _ _ => a
def Nd.kids : Nd -> List Nd | .mk _ b _ => b
def Nd.page : Nd -> Int | .mk _ _ c => c
theorem Nd.ind {P : Nd -> Prop} (h : ∀ ps kids page, (∀ k ∈ kids, P k) -> P (.mk ps kids page)) (n : Nd) : P n :=
 Nd.rec (motive_1 := P) (motive_2 := fun l => ∀ k ∈ l, P k) (fun ps kids page ih => h ps kids page ih) (fun k hk => by cases hk)
  (fun x l hx hl k hk => (zmC.1 hk).elim (fun e => e ▸ hx) (hl k)) n
theorem Nd.eta (n : Nd) : Nd.mk n.ps n.kids n.page = n := by cases n; rfl
def Nd.least : Nd -> ByteArray
 | .mk ps [] _ => (ps.head?.map (·.1)).getD ByteArray.empty
 | .mk _ (k :: _) _ => k.least
mutual
def Nd.prs : Nd -> List Kv
 | .mk ps [] _ => ps
 | .mk _ (k :: ks) _ => k.prs ++ Nd.prsL ks
def Nd.prsL : List Nd -> List Kv
 | [] => []
 | k :: ks => k.prs ++ Nd.prsL ks
end
theorem Nd.prsL_eq (l : List Nd) : Nd.prsL l = (l.map Nd.prs).flatten := by
 induction l with
 | nil => rfl
 | cons x l ih => rw [Nd.prsL, ih]; rfl
theorem Nd.prs_leaf {n : Nd} (h : n.kids = []) : n.prs = n.ps := by
 cases n with | mk ps kids pg => obtain rfl : kids = [] := h; rw [Nd.prs]; rfl
theorem Nd.prs_inner {n : Nd} (h : n.kids ≠ []) : n.prs = (n.kids.map Nd.prs).flatten := by
 cases n with | mk ps kids pg =>
  cases kids with
  | nil => exact absurd rfl h
  | cons k ks => rw [Nd.prs, Nd.prsL_eq]; rfl
def depL : List Nat -> Nat
 | [] => 1
 | d :: r => if r.any (· != d) then 0 else if d = 0 then 0 else d + 1
mutual
def Nd.dep : Nd -> Nat
 | .mk _ [] _ => 1
 | .mk _ (k :: ks) _ => depL (k.dep :: Nd.depK ks)
def Nd.depK : List Nd -> List Nat
 | [] => []
 | k :: ks => k.dep :: Nd.depK ks
end
theorem Nd.depK_eq (l : List Nd) : Nd.depK l = l.map Nd.dep := by
 induction l with
 | nil => rfl
 | cons x l ih => rw [Nd.depK, ih]; rfl
theorem Nd.dep_eq (n : Nd) : n.dep = depL (n.kids.map Nd.dep) := by
 cases n with | mk ps kids pg =>
  cases kids with
  | nil => rw [Nd.dep]; rfl
  | cons k ks => rw [Nd.dep, Nd.depK_eq]; rfl
def Nd.size (n : Nd) : Nat := n.ps.length + n.kids.length
def Nd.small (n : Nd) : Bool := if n.kids = [] then decide (n.ps.length < 2) else decide (n.kids.length < 4)
mutual
def Nd.smallB : Nd -> Bool
 | .mk _ ks _ => Nd.smallK ks
def Nd.smallK : List Nd -> Bool
 | [] => false
 | k :: ks => (k.small || k.smallB) || Nd.smallK ks
end
theorem Nd.smallK_eq (l : List Nd) : Nd.smallK l = l.any fun k => k.small || k.smallB := by
 induction l with
 | nil => rfl
 | cons x l ih => rw [Nd.smallK, ih]; rfl
theorem Nd.smallB_eq (n : Nd) : n.smallB = n.kids.any fun k => k.small || k.smallB := by
 cases n with | mk ps kids pg => rw [Nd.smallB, Nd.smallK_eq]; rfl
def ascK : List Kv -> Bool
 | a :: b :: r => kLt a.1 b.1 && ascK (b :: r)
 | _ => true
def zcl (n : Nd) : Bool := ascK n.prs && decide (0 < n.dep) && !n.smallB
def textL (s : ByteArray) : List UInt8 := UInt8.ofNat s.size :: s.data.toList
def padZ (l : List UInt8) : List UInt8 := l ++ List.replicate (512 - l.length) 0
def pageB (p : Int) : List UInt8 := [UInt8.ofNat (p / 256).toNat, UInt8.ofNat p.toNat]
def encLf (ps : List Kv) : List UInt8 := 76 :: UInt8.ofNat ps.length :: (ps.map fun p => textL p.1 ++ textL p.2).flatten
def encIn (kids : List Nd) : List UInt8 := 78 :: UInt8.ofNat kids.length :: ((kids.map fun k => pageB k.page).flatten ++ (kids.tail.map fun k => textL k.least).flatten)
def encL (n : Nd) : List UInt8 := if n.kids = [] then encLf n.ps else encIn n.kids
def encD (n : Nd) : List UInt8 := padZ (encL n)
def textP : List UInt8 -> Option (List UInt8 × List UInt8)
 | [] => none
 | c :: r => if r.length < c.toNat then none else some (r.take c.toNat, r.drop c.toNat)
def pairP (s : List UInt8) : Option (Kv × List UInt8) :=
 match textP s with
 | none => none
 | some (k, r) =>
  match textP r with
  | none => none
  | some (v, r2) => if 48 < k.length \/ 80 < v.length then none else some ((bs k, bs v), r2)
def leafP : Nat -> List UInt8 -> Option (List Kv)
 | 0, _ => some []
 | n + 1, s =>
  match pairP s with
  | none => none
  | some (x, r) => (leafP n r).map (x :: ·)
def kidPg (s : List UInt8) (i : Nat) : Int := ((s.getD (2 * i) 0).toNat * 256 + (s.getD (2 * i + 1) 0).toNat : Nat)
def zar (s : List UInt8) (n : Nat) : List Int := (List.range n).map (kidPg s)
def kidsW (g : Int -> List Int -> Option (Nd × List Int)) : List Int -> List Int -> Option (List Nd × List Int)
 | [], u => some ([], u)
 | p :: r, u =>
  match g p u with
  | none => none
  | some (n, u1) => (kidsW g r u1).map fun x => (n :: x.1, x.2)
def loadR (d : Dsk) (frm til : Int) : Nat -> Int -> List Int -> Option (Nd × List Int)
 | 0, _, _ => none
 | f + 1, page, used =>
  if page < frm + 2 \/ til <= page \/ page ∈ used then none
  else if (pageL d page).getD 0 0 = 76 then
   if ((pageL d page).getD 1 0).toNat < 1 \/ 3 < ((pageL d page).getD 1 0).toNat then none
   else match leafP ((pageL d page).getD 1 0).toNat ((pageL d page).drop 2) with
    | none => none
    | some ps => if padZ (encLf ps) = pageL d page then some (.mk ps [] page, used ++ [page]) else none
  else if (pageL d page).getD 0 0 ≠ 78 \/ ((pageL d page).getD 1 0).toNat < 2 \/ 8 < ((pageL d page).getD 1 0).toNat then none
  else match kidsW (loadR d frm til f) (zar ((pageL d page).drop 2) ((pageL d page).getD 1 0).toNat) (used ++ [page]) with
   | none => none
   | some (kids, u) => if padZ (encIn kids) = pageL d page then some (.mk [] kids page, u) else none
def kidsV (g : Int -> List Int -> Option (Nd × Nat × List Int)) : List Int -> Option Nat -> List Int -> Option (List Nd × Nat × List Int)
 | [], o, u => some ([], o.getD 0, u)
 | p :: r, o, u =>
  match g p u with
  | none => none
  | some (n, k, u1) => if o ≠ none /\ o ≠ some k then none else (kidsV g r (some k) u1).map fun x => (n :: x.1, x.2)
def loadP (d : Dsk) (frm til : Int) : Nat -> Bool -> Int -> List Int -> Option (Nd × Nat × List Int)
 | 0, _, _, _ => none
 | f + 1, root, page, used =>
  if page < frm + 2 \/ til <= page \/ page ∈ used then none
  else if (pageL d page).getD 0 0 = 76 then
   if ((pageL d page).getD 1 0).toNat < 1 \/ 3 < ((pageL d page).getD 1 0).toNat \/ (root = false /\ ((pageL d page).getD 1 0).toNat < 2) then none
   else match leafP ((pageL d page).getD 1 0).toNat ((pageL d page).drop 2) with
    | none => none
    | some ps => if padZ (encLf ps) = pageL d page then some (.mk ps [] page, 1, used ++ [page]) else none
  else if (pageL d page).getD 0 0 ≠ 78 \/ ((pageL d page).getD 1 0).toNat < 2 \/ 8 < ((pageL d page).getD 1 0).toNat \/ (root = false /\ ((pageL d page).getD 1 0).toNat < 4) then none
  else match kidsV (loadP d frm til f false) (zar ((pageL d page).drop 2) ((pageL d page).getD 1 0).toNat) none (used ++ [page]) with
   | none => none
   | some (kids, k, u) => if padZ (encIn kids) = pageL d page then some (.mk [] kids page, k + 1, u) else none
structure Ix where
 disk : Dsk
 frm : Int
 til : Int
 ver : Int
 root : Int
 free : List Int
def zeroX : Ix := ⟨zeroD, 0, 0, 0, 0, []⟩
def fits5 (d : Dsk) (frm til : Int) : Bool := decide (d.size = 512) && decide (0 <= frm) && decide (til <= d.pages.length) && decide (3 <= til) && decide (frm <= til - 3)
def fitX (d : Dsk) (frm til : Int) : Int := if chk d ≠ 0 then 1 else if fits5 d frm til = false then 2 else 0
def hdrX (s : List UInt8) (frm til : Int) (k : Nat) : Option (Nat × Nat) :=
 if 1 <= be (s.take 8) /\ be (s.take 8) <= 1099511627776 /\ be ((s.drop 8).take 8) <= 1099511627776 /\ (be ((s.drop 8).take 8) = 0 \/ (frm + 2 <= (be ((s.drop 8).take 8) : Int) /\ (be ((s.drop 8).take 8) : Int) < til)) /\ be (s.take 8) % 2 = k /\ s = hdrL 512 (be (s.take 8)) (be ((s.drop 8).take 8))
 then some (be (s.take 8), be ((s.drop 8).take 8)) else none
def headX (d : Dsk) (frm til : Int) : Nat × Nat := pickH (hdrX (pageL d frm) frm til 0) (hdrX (pageL d (frm + 1)) frm til 1)
def pgsX (frm til : Int) : List Int := (List.range (til - frm - 2).toNat).map fun i : Nat => frm + 2 + (i : Int)
def zap (frm til : Int) (used : List Int) : List Int := (pgsX frm til).filter fun p => !used.contains p
def fuelX (frm til : Int) : Nat := (til - frm).toNat
def treeX (d : Dsk) (frm til : Int) (r : Nat) : Option (Option Nd × List Int) :=
 if r = 0 then some (none, [])
 else match loadR d frm til (fuelX frm til) r [] with
  | none => none
  | some (n, u) => if zcl n then some (some n, u) else none
def readX (d : Dsk) (frm til : Int) : Option (Ix × Option Nd) :=
 if (headX d frm til).1 = 0 then none
 else match treeX d frm til (headX d frm til).2 with
  | none => none
  | some (t, u) => some (⟨d, frm, til, (headX d frm til).1, (headX d frm til).2, zap frm til u⟩, t)
def openX (d : Dsk) (frm til : Int) : Ix × Int :=
 if fitX d frm til ≠ 0 then (zeroX, fitX d frm til)
 else match readX d frm til with
  | none => (zeroX, 25)
  | some (x, _) => (x, 0)
def za7 (x : Ix) : Option (Option Nd) :=
 if fitX x.disk x.frm x.til ≠ 0 then none
 else match readX x.disk x.frm x.til with
  | none => none
  | some (y, t) => if y.ver = x.ver /\ y.root = x.root /\ y.free = x.free then some t else none
def zaf : Option Nd -> List Kv
 | none => []
 | some n => n.prs
def getP (l : List Kv) (key : ByteArray) : ByteArray × Int :=
 match l.find? fun p => decide (p.1 = key) with
 | none => (ByteArray.empty, 7)
 | some p => (p.2, 0)
def getX (x : Ix) (key : ByteArray) : ByteArray × Int :=
 match za7 x with
 | none => (ByteArray.empty, 1)
 | some t => getP (zaf t) key
def scanP (l : List Kv) (low high : ByteArray) : List Kv := l.filter fun p => !kLt p.1 low && (decide (high = ByteArray.empty) || kLt p.1 high)
def scanX (x : Ix) (low high : ByteArray) : List Kv × Int :=
 match za7 x with
 | none => ([], 1)
 | some t => (scanP (zaf t) low high, 0)
def zav (kids : List Nd) (key : ByteArray) : Nat := ((kids.tail.takeWhile fun k => !kLt key k.least).length)
def withP (l : List Kv) (x : Kv) : List Kv := l.takeWhile (fun p => kLt p.1 x.1) ++ x :: (l.dropWhile fun p => kLt p.1 x.1).dropWhile fun p => decide (p.1 = x.1)
def zao (l : List Kv) (key : ByteArray) : List Kv := l.filter fun p => decide (p.1 ≠ key)
def lfN (ps : List Kv) : Nd := .mk ps [] 0
def inN (kids : List Nd) : Nd := .mk [] kids 0
def splitN (n : Nd) : Nd × Option Nd :=
 if n.kids = [] then (if 3 < n.ps.length then (lfN (n.ps.take 2), some (lfN (n.ps.drop 2))) else (n, none))
 else if 8 < n.kids.length then (inN (n.kids.take 5), some (inN (n.kids.drop 5))) else (n, none)
theorem Nd.kid_lt {n k : Nd} (h : k ∈ n.kids) : SizeOf.sizeOf k < SizeOf.sizeOf n := by
 cases n with | mk ps kids pg =>
  have := List.sizeOf_lt_of_mem (show k ∈ kids from h);simp;omega
def insN (x : Kv) (n : Nd) : Nd × Option Nd :=
 if n.kids = [] then splitN (lfN (withP n.ps x))
 else match _hk : n.kids[zav n.kids x.1]? with
  | none => (n, none)
  | some c => splitN (inN (n.kids.take (zav n.kids x.1) ++ (insN x c).1 :: (insN x c).2.toList ++ n.kids.drop (zav n.kids x.1 + 1)))
termination_by SizeOf.sizeOf n
decreasing_by all_goals exact Nd.kid_lt (List.mem_of_getElem? _hk)
def putN (o : Option Nd) (x : Kv) : Nd :=
 match o with
 | none => lfN [x]
 | some n => match insN x n with
  | (a, none) => a
  | (a, some b) => inN [a, b]
def joinN (a b : Nd) : Nd := .mk (a.ps ++ b.ps) (a.kids ++ b.kids) 0
def cutN (n : Nd) (k : Nat) : Nd × Nd := if n.kids = [] then (lfN (n.ps.take k), lfN (n.ps.drop k)) else (inN (n.kids.take k), inN (n.kids.drop k))
def Nd.rich (n : Nd) : Bool := if n.kids = [] then decide (2 < n.ps.length) else decide (4 < n.kids.length)
def twoN (a b : Nd) (left : Bool) : List Nd :=
 if left then (if a.rich then [(cutN (joinN a b) (a.size - 1)).1, (cutN (joinN a b) (a.size - 1)).2] else [joinN a b])
 else (if b.rich then [(cutN (joinN a b) (a.size + 1)).1, (cutN (joinN a b) (a.size + 1)).2] else [joinN a b])
def mendN (l : List Nd) (k : Nat) : List Nd :=
 match l[k]? with
 | none => l
 | some c => if c.small = false then l
  else match l[k - 1]?, l[k - 1 + 1]? with
   | some a, some b => l.take (k - 1) ++ twoN a b (decide (0 < k)) ++ l.drop (k - 1 + 2)
   | _, _ => l
def remN (key : ByteArray) (n : Nd) : Nd :=
 if n.kids = [] then lfN (zao n.ps key)
 else match _hk : n.kids[zav n.kids key]? with
  | none => n
  | some c => inN (mendN (n.kids.set (zav n.kids key) (remN key c)) (zav n.kids key))
termination_by SizeOf.sizeOf n
decreasing_by all_goals exact Nd.kid_lt (List.mem_of_getElem? _hk)
def dropN (o : Option Nd) (key : ByteArray) : Option Nd :=
 match o with
 | none => none
 | some n => match (remN key n).kids with
  | [c] => some c
  | _ => if (remN key n).size = 0 then none else some (remN key n)
structure Chg where
 key : ByteArray
 hasOld : Bool
 old : ByteArray
 hasNew : Bool
 new : ByteArray
def chgE (prev : Option Chg) (c : Chg) : Int :=
 if 48 < c.key.size \/ 80 < c.old.size \/ 80 < c.new.size then 4
 else if (match prev with | none => false | some p => !kLt p.key c.key) = true then 9
 else if (c.hasOld = false /\ c.hasNew = false) \/ (c.hasOld = false /\ c.old ≠ ByteArray.empty) \/ (c.hasNew = false /\ c.new ≠ ByteArray.empty) then 1
 else 0
def chgsE : Option Chg -> List Chg -> Int
 | _, [] => 0
 | p, c :: r => if chgE p c ≠ 0 then chgE p c else chgsE (some c) r
def chg1 (o : Option Nd) (c : Chg) : Option Nd := if c.hasNew then some (putN o (c.key, c.new)) else dropN o c.key
structure Plc where
 free : List Int
 ws : List PW
mutual
def za0 (look : List UInt8 -> Option Int) : Nd -> Plc -> Option (Nd × Plc)
 | .mk ps ks _, p =>
  match zaT look ks p with
  | none => none
  | some (kids, q) =>
   match look (encD (.mk ps kids 0)) with
   | some g => some (.mk ps kids g, q)
   | none => match q.free with
    | [] => none
    | g :: r => some (.mk ps kids g, ⟨r, q.ws ++ [⟨g, bs (encD (.mk ps kids 0))⟩]⟩)
def zaT (look : List UInt8 -> Option Int) : List Nd -> Plc -> Option (List Nd × Plc)
 | [], p => some ([], p)
 | k :: ks, p =>
  match za0 look k p with
  | none => none
  | some (n, q) => (zaT look ks q).map fun x => (n :: x.1, x.2)
end
mutual
def Nd.nodes : Nd -> List Nd
 | .mk ps ks g => Nd.nodesK ks ++ [.mk ps ks g]
def Nd.nodesK : List Nd -> List Nd
 | [] => []
 | k :: ks => k.nodes ++ Nd.nodesK ks
end
def zaz (x : Ix) (ws : List PW) (root : Int) : List DOp :=
 (if ws = [] then [] else ws.map (fun w => DOp.wr w.page w.data) ++ [.fl]) ++ [.wr (x.frm + (x.ver + 1).tmod 2) (bs (hdrL 512 (x.ver + 1).toNat root.toNat)), .fl]
def usedN : Option Nd -> List Int
 | none => []
 | some n => n.nodes.map Nd.page
def rootN : Option Nd -> Int
 | none => 0
 | some n => n.page
def fmtX (d : Dsk) (frm til : Int) : Dsk × Int :=
 if fitX d frm til ≠ 0 then (zeroD, fitX d frm til)
 else perfP d [.wr frm (bs (padZ [])), .wr (frm + 1) (bs (hdrL 512 1 0)), .fl]
theorem zbF : ∀ l : List UInt8, Go.Op.bytesLess l l = false
 | [] => rfl
 | x :: l => by rw [Go.Op.bytesLess]; simp [zbF l]
theorem zge : ∀ {a b c : List UInt8}, Go.Op.bytesLess a b = true -> Go.Op.bytesLess b c = true -> Go.Op.bytesLess a c = true
 | _, [], _, h, _ => by simp [Go.Op.bytesLess] at h
 | _, _ :: _, [], _, h => by simp [Go.Op.bytesLess] at h
 | [], _ :: _, _ :: _, _, _ => by simp [Go.Op.bytesLess]
 | x :: a, y :: b, z :: c, h1, h2 => by
  rw [Go.Op.bytesLess] at h1 h2 |-;simp only [Bool.or_eq_true, decide_eq_true_eq, Bool.and_eq_true, beq_iff_eq] at h1 h2 |-;rcases h1 with h1 | ⟨rfl, h1⟩
  .
   rcases h2 with h2 | ⟨rfl, h2⟩
   . exact .inl (UInt8.lt_trans h1 h2)
   . exact .inl h1
  .
   rcases h2 with h2 | ⟨rfl, h2⟩
   . exact .inl h2
   . exact .inr ⟨rfl, zge h1 h2⟩
theorem ziT : ∀ {a b : List UInt8}, Go.Op.bytesLess a b = false -> Go.Op.bytesLess b a = false -> a = b
 | [], [], _, _ => rfl
 | [], _ :: _, h, _ => by simp [Go.Op.bytesLess] at h
 | _ :: _, [], _, h => by simp [Go.Op.bytesLess] at h
 | x :: a, y :: b, h1, h2 => by rw [Go.Op.bytesLess] at h1 h2;simp only [Bool.or_eq_false_iff, decide_eq_false_iff_not, Bool.and_eq_false_iff] at h1 h2;obtain ⟨h1, h1'⟩ := h1;obtain ⟨h2, h2'⟩ := h2;obtain rfl : x = y := UInt8.le_antisymm (UInt8.not_lt.1 h2) (UInt8.not_lt.1 h1);simp at h1' h2';rw [ziT h1' h2']
theorem zaw {a b : ByteArray} (h : a.toList = b.toList) : a = b := by
 have h' : a.data.toList = b.data.toList := by simpa [ByteArray.toList_eq] using h
 exact ByteArray.ext (Array.ext' h')
theorem zcy (a : ByteArray) : kLt a a = false := zbF _
theorem zaX {a b c : ByteArray} (h : kLt a b = true) (k : kLt b c = true) : kLt a c = true := zge h k
theorem zbU {a b : ByteArray} (h : kLt a b = false) (k : kLt b a = false) : a = b := zaw (ziT h k)
theorem zgE {a b : ByteArray} (h : kLt a b = true) : kLt b a = false := by
 cases g : kLt b a
 . rfl
 . have := zaX h g; rw [zcy] at this; cases this
theorem zcd {a b : ByteArray} (h : kLt a b = true) : a ≠ b := by rintro rfl; rw [zcy] at h; cases h
theorem zns {a b c : ByteArray} (h : kLt b a = false) (k : kLt b c = true) : kLt a c = true := by
 cases g : kLt a b
 . obtain rfl := zbU g h; exact k
 . exact zaX g k
theorem znp {a b c : ByteArray} (h : kLt a b = true) (k : kLt c b = false) : kLt a c = true := by
 cases g : kLt b c
 . obtain rfl := zbU g k; exact h
 . exact zaX h g
def Asc (l : List Kv) : Prop := l.Pairwise fun a b => kLt a.1 b.1 = true
theorem zc5 : ∀ l : List Kv, ascK l = true ↔ Asc l
 | [] => by simp [ascK, Asc]
 | [a] => by simp [ascK, Asc]
 | a :: b :: r => by
  rw [ascK, Bool.and_eq_true, zc5 (b :: r)];constructor
  .
   rintro ⟨h1, h2⟩;refine List.pairwise_cons.2 ⟨fun x hx => ?_, h2⟩;rcases zmC.1 hx with rfl | hx
   . exact h1
   . exact zaX h1 ((List.pairwise_cons.1 h2).1 x hx)
  . intro h;obtain ⟨h1, h2⟩ := List.pairwise_cons.1 h;exact ⟨h1 b (by simp), h2⟩
theorem Asc.app {l m : List Kv} : Asc (l ++ m) ↔ Asc l /\ Asc m /\ ∀ a ∈ l, ∀ b ∈ m, kLt a.1 b.1 = true := List.pairwise_append
theorem Asc.sub {l m : List Kv} (h : Asc m) (s : l.Sublist m) : Asc l := List.Pairwise.sublist s h
end Go.Proofs.YtlefmmhlpgmbjaaGreat
