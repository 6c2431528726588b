/- Lazy's law where one operation of the head (a pure one, q) may also stand behind the first operation behind the head. The reference's finish. The reference's Cut = cutL. -/
import Derived.Test.YtghikgjknhjjgaaDoorQ06
import Derived.Test.YtghikgjknhjjgaaDoorQ11
import Derived.Test.YtghikgjknhjjgaaDoorQ05
namespace Go.Proofs.YtghikgjknhjjgaaDoor
set_option maxRecDepth 100000
open Go.RowKit
section
variable {P : Program} {ops : Array Oper} {md : Region.Mode} {W0 : World} {an : Anns}
/-- the head's operations in whatever order; when all but q are done, q is taken -/
def AOd (P : Program) (ops : Array Oper) (md : Region.Mode) (an : Anns) (W0 : World) (n q : Nat) (dl : Array Bool) (L : Array Bool → Recs → Act → Prop) : Nat → Array Bool → Recs → Act → Prop
 | 0, listed, ξ, a => L listed ξ a
 | f + 1, listed, ξ, a => Region.ready md ops listed ≠ [] ∧ (listed ≠ dl → ∀ i ∈ Region.ready md ops listed, i < n) ∧ (listed = dl → q ∈ Region.ready md ops listed) ∧
  ∀ i ∈ Region.ready md ops listed, i < n → ∀ o, ops[i]? = some o → StepK P ops md an W0 i o ξ a (AOd P ops md an W0 n q dl L f (listed.setIfInBounds i true))
def lateB (md : Region.Mode) (ops : Array Oper) (n q : Nat) : Bool := (List.range ops.size).all fun t => decide (t < n) || (List.range n).all fun i => decide (i = q) || (pastB md ops 8 [t]).contains i
structure ClosedD (md : Region.Mode) (ops : Array Oper) (n : Nat) (listed : Array Bool) : Prop extends Closed md ops n listed where
 head : ∀ j, n ≤ j → listed.getD j false = false
theorem ClosedD.set {n i : Nat} {listed : Array Bool} (inv : ClosedD md ops n listed) (hi : i ∈ Region.ready md ops listed) (hn : i < n) : ClosedD md ops n (listed.setIfInBounds i true) :=
 ⟨inv.toClosed.set hi, fun j hj => by rw [getD_set_ne false (by omega)]; exact inv.head j hj⟩
theorem AO_firstD {n i q : Nat} {dl : Array Bool} {oi : Oper} {S : Option Rec → Value → Prop} {L : Array Bool → Recs → Act → Prop} (hi : ops[i]? = some oi) (hsel : ∀ (j : Nat) (o : Oper) cs b, ops[j]? = some o → o.op ≠ .select cs b)
  (hs : lateB md ops n q = true) (hin : i < n) (hdl : dl.size = ops.size) (hdq : ∀ j, dl.getD j false = (decide (j < n) && decide (j ≠ q))) (hqn : q < n) (hdone : ∀ listed ξ a, L listed ξ a → ∀ j ∈ Region.ready md ops listed, n ≤ j) :
  ∀ (f : Nat) (listed : Array Bool) (ξ : Recs) (a : Act), ClosedD md ops n listed →
   (∀ j oj, ops[j]? = some oj → j ≠ i → listed.getD j true = false → (∀ e ∈ oj.after, Region.binds md e = true → e.on ≠ i) → oi.apart ops oj = true) →
   i ∈ Region.ready md ops listed → Outs P ops md an W0 i oi ξ a S →
   (∀ ρ v, S ρ v → AOd P ops md an W0 n q dl L f (listed.setIfInBounds i true) (upr ξ i ρ) (a.put oi.dst v)) → AOd P ops md an W0 n q dl L (f + 1) listed ξ a := by
 intro f
 -- a ready operation behind the head: then q alone is left
 have late : ∀ (listed : Array Bool), ClosedD md ops n listed → i ∈ Region.ready md ops listed → ∀ j ∈ Region.ready md ops listed, n ≤ j → i = q ∧ listed = dl := by
  intro listed inv hr j hj hn
  have hlt : j < ops.size := by obtain ⟨_, oj, hoj, _⟩ := mem_ready.1 hj; exact (Array.getElem?_eq_some_iff.1 hoj).1
  have h1 := List.all_eq_true.1 hs j (List.mem_range.2 hlt)
  simp only [Bool.or_eq_true, decide_eq_true_eq] at h1
  have hall : ∀ k, k < n → k ≠ q → listed.getD k false = true := by
   intro k hk hkq
   rcases h1 with h1 | h1
   ·
    omega
   ·
    have h2 := List.all_eq_true.1 h1 k (List.mem_range.2 hk)
    simp only [Bool.or_eq_true, decide_eq_true_eq] at h2
    rcases h2 with h2 | h2
    ·
     exact absurd h2 hkq
    ·
     rcases reach_listed hj inv.closed h2 with h3 | h3
     ·
      omega
     ·
      exact h3
  have hiq : i = q := by
   rcases Nat.decEq i q with h | h
   ·
    have := hall i hin h
    rw [getD_both (mem_ready.1 hr).1] at this
    cases this
   ·
    exact h
  refine ⟨hiq, ?_⟩
  have key : ∀ k, listed.getD k false = dl.getD k false := by
   intro k
   rw [hdq]
   by_cases hk : k < n
   ·
    by_cases hkq : k = q
    ·
     subst hkq; subst hiq
     rw [getD_both (mem_ready.1 hr).1]
     simp
    ·
     rw [hall k hk hkq]; simp [hk, hkq]
   ·
    rw [inv.head k (by omega)]; simp [hk]
  apply Array.ext
  ·
   rw [inv.size, hdl]
  ·
   intro k h1 h2
   have := key k
   simpa [Array.getD, h1, h2] using this
 -- when listed = dl, what is ready of the head is q
 have only : ∀ (listed : Array Bool), listed = dl → ∀ j ∈ Region.ready md ops listed, j < n → j = q := by
  intro listed e j hj hn
  subst e
  rcases Nat.decEq j q with h | h
  ·
   have h0 := (mem_ready.1 hj).1
   have := hdq j
   rw [getD_both h0] at this
   simp [hn, h] at this
  ·
   exact h
 have lt_of : ∀ (listed : Array Bool), ClosedD md ops n listed → i ∈ Region.ready md ops listed → listed ≠ dl → ∀ j ∈ Region.ready md ops listed, j < n := by
  intro listed inv hr hne j hj
  rcases Nat.lt_or_ge j n with h | h
  ·
   exact h
  ·
   exact absurd (late listed inv hr j hj h).2 hne
 induction f with
 | zero =>
  intro listed ξ a inv _ hr hy H
  refine ⟨fun h => (by rw [h] at hr; cases hr), lt_of listed inv hr, fun e => by rw [← only listed e i hr hin]; exact hr, fun j hj hjn oj hoj => ?_⟩
  by_cases hji : j = i
  ·
   subst hji
   obtain rfl : oj = oi := Option.some.inj (hoj.symm.trans hi)
   exact ⟨S, hy, H⟩
  ·
   obtain ⟨ρ, v, hs⟩ := hy.some
   have := hdone _ _ _ (H ρ v hs) j (ready_mono hj hji)
   omega
 | succ f ih =>
  intro listed ξ a inv hfree hr hy H
  refine ⟨fun h => (by rw [h] at hr; cases hr), lt_of listed inv hr, fun e => by rw [← only listed e i hr hin]; exact hr, fun j hj hjn oj hoj => ?_⟩
  by_cases hji : j = i
  ·
   subst hji
   obtain rfl : oj = oi := Option.some.inj (hoj.symm.trans hi)
   exact ⟨S, hy, H⟩
  ·
   obtain ⟨hjun, oj', hoj', hall⟩ := mem_ready.1 hj
   obtain rfl : oj' = oj := Option.some.inj (hoj'.symm.trans hoj)
   have hun := (mem_ready.1 hr).1
   have hnot : ∀ e ∈ oj'.after, Region.binds md e = true → e.on ≠ i := fun e he hb heq => by
    have h1 := hall e he hb
    rw [heq, getD_both hun] at h1
    cases h1
   have hri : reachB md ops i j = false := by
    cases h : reachB md ops i j with
    | false => rfl
    | true =>
     rcases reach_listed hr inv.closed h with h2 | h2
     ·
      exact absurd h2 hji
     ·
      rw [getD_both hjun] at h2; cases h2
   have hrj : reachB md ops j i = false := by
    cases h : reachB md ops j i with
    | false => rfl
    | true =>
     rcases reach_listed hj inv.closed h with h2 | h2
     ·
      exact absurd h2.symm hji
     ·
      rw [getD_both hun] at h2; cases h2
   have hfree' : ∀ k ok, ops[k]? = some ok → k ≠ i → (listed.setIfInBounds j true).getD k true = false →
     (∀ e ∈ ok.after, Region.binds md e = true → e.on ≠ i) → oi.apart ops ok = true := fun k ok hk hki hun hno => by
    refine hfree k ok hk hki ?_ hno
    by_cases hjk : j = k
    ·
     subst hjk; exact hjun
    ·
     rw [getD_set_ne true hjk] at hun; exact hun
   refine (StepK.swap (Ne.symm hji) (hfree j oj' hoj hji hjun hnot) (fun cs b => hsel i oi cs b hi) (fun cs b => hsel j oj' cs b hoj) hri hrj hy fun ρ v hs => (H ρ v hs).2.2.2 j (ready_mono hj hji) hjn oj' hoj).mono ?_
   rintro ξ' a' ⟨h1, h2⟩
   refine ih (listed.setIfInBounds j true) ξ' a' (inv.set hj hjn) hfree' (ready_mono hr (Ne.symm hji)) h1 fun ρ v hs => ?_
   rw [Array.setIfInBounds_comm _ _ hji]
   exact h2 ρ v hs
theorem AO_lexD {n q : Nat} {dl : Array Bool} {Lq : Recs → Act → Prop} (hsel : Region.noSelect ops = true) (hs : lateB md ops n q = true) (hdl : dl.size = ops.size) (hdq : ∀ j, dl.getD j false = (decide (j < n) && decide (j ≠ q))) (hqn : q < n) (hno : n ≤ ops.size) (done : Array Bool) (hdn : (Region.ready md ops done).all (fun j => decide (n ≤ j)) = true) :
  ∀ (l : List Oper) (k : Nat) (listed : Array Bool) (ξ : Recs) (a : Act), (∀ j, j < l.length → l[j]? = ops[k + j]?) → k + l.length = n → ClosedD md ops n listed → setTo listed l.length k = done →
  lazyHead md ops n l.length k listed = true → LW P ops md an W0 Lq l k ξ a → AOd P ops md an W0 n q dl (fun listed' ξ' a' => listed' = done ∧ Lq ξ' a') l.length listed ξ a
 | [], k, listed, ξ, a, _, _, _, hd, _, h => ⟨hd, h⟩
 | o :: l, k, listed, ξ, a, hl, hk, inv, hd, hB, h => by
  have h0 : ops[k]? = some o := by simpa using (hl 0 (by simp)).symm
  simp only [List.length_cons, lazyHead, Bool.and_eq_true] at hB
  obtain ⟨⟨hr, hf⟩, hB'⟩ := hB
  have hkn : k < n := by simp only [List.length_cons] at hk; omega
  have hr' : k ∈ Region.ready md ops listed := by simpa using hr
  obtain ⟨S, hS, hK⟩ := h
  refine AO_firstD h0 (Region.noSelect_spec hsel) hs hkn hdl hdq hqn (fun listed' _ a' hL j hj => ?_) l.length listed ξ a inv (Region.free_spec h0 hf) hr' hS fun ρ v hs' => ?_
  ·
   rw [hL.1] at hj; exact of_decide_eq_true (List.all_eq_true.1 hdn j hj)
  ·
   exact AO_lexD hsel hs hdl hdq hqn hno done hdn l (k + 1) _ _ _ (fun j hj => by have := hl (j + 1) (by simp; omega); simpa [Nat.add_assoc, Nat.add_comm 1 j] using this) (by simp only [List.length_cons] at hk; omega) (inv.set hr' hkn) (by simpa [setTo] using hd) hB' (hK ρ v hs')
theorem wpAny_of_AOd {n q g : Nat} {dl : Array Bool} {oq : Oper} {L : Array Bool → Recs → Act → Prop} {Q' : Exit → Act → World → Prop} (hoq : ops[q]? = some oq) (hqn : q < n) (hsel : Region.noSelect ops = true) (hfr : Region.free md ops dl q = true) (hnq : an q = none) (hgq : oq.guard = none)
  (hQ : ∀ c a w v, Q' (.panic c) (a.put oq.dst v) w → Q' (.panic c) a w) (hp : ∀ (ρ : Operand → Value) w w' v, (execOp ρ oq).run P w = .ok (.value v) w → (execOp ρ oq).run P w' = .ok (.value v) w')
  (hL : ∀ listed ξ a w, L listed ξ a → Good an W0 ξ w → wpAny P md ops Q' g listed a w) :
  ∀ (f : Nat) (listed : Array Bool) (ξ : Recs) (a : Act) (w : World), AOd P ops md an W0 n q dl L f listed ξ a → Good an W0 ξ w → wpAny P md ops Q' (f + g) listed a w
 | 0, listed, ξ, a, w, h, hg => by rw [Nat.zero_add]; exact hL _ _ _ _ h hg
 | f + 1, listed, ξ, a, w, h, hg => by
  rw [show f + 1 + g = (f + g) + 1 by omega]
  obtain ⟨h0, h1, h2, h3⟩ := h
  by_cases he : listed = dl
  ·
   have hq := h2 he
   obtain ⟨S, hS, hK⟩ := h3 q hq hqn oq hoq
   cases hS with
   | skip hw => unfold Region.wanted at hw; rw [hgq] at hw; cases hw
   | quiet v hw hn hr =>
    refine wpAny_take (i := q) (v := v) hoq hsel (by rw [he]; exact hfr) (by simpa using hq) (fun c a w => hQ c a w v) (.inl ⟨hw, fun w' => hp _ w w' v (hr w ⟨⟨w, hg.below⟩, rfl⟩)⟩) ?_
    exact wpAny_of_AOd hoq hqn hsel hfr hnq hgq hQ hp hL f _ _ _ _ (hK none v ⟨rfl, rfl⟩) hg
   | lzy A hw hn hl => rw [hnq] at hn; cases hn
  ·
   refine ⟨fun h => absurd h h0, fun i hi => ?_⟩
   obtain ⟨_, oi, hoi, _⟩ := mem_ready.1 hi
   obtain ⟨S, hS, hK⟩ := h3 i hi (h1 he i hi) oi hoi
   unfold wpOp
   simp only [hoi]
   cases hS with
   | skip hw =>
    rw [if_neg (by rw [hw]; exact Bool.false_ne_true)]
    exact wpAny_of_AOd hoq hqn hsel hfr hnq hgq hQ hp hL f _ _ _ _ (hK none undef ⟨rfl, rfl⟩) hg
   | quiet v hw hn hr =>
    rw [if_pos hw]
    left
    unfold Oper.wp
    rw [hr w ⟨⟨w, hg.below⟩, rfl⟩]
    exact wpAny_of_AOd hoq hqn hsel hfr hnq hgq hQ hp hL f _ _ _ _ (hK none v ⟨rfl, rfl⟩) hg
   | lzy A hw hn hl =>
    rw [if_pos hw]
    left
    refine wp_of_lz (hl w hg.below fun j _ => hg.fact j) ?_
    rintro v w' ⟨hb, x, rfl, hΦ⟩
    exact wpAny_of_AOd hoq hqn hsel hfr hnq hgq hQ hp hL f _ _ _ _ (hK _ _ ⟨_, rfl, rfl⟩) (hg.add hb hn hΦ)
def lazyLateB (md : Region.Mode) (ops : Array Oper) (n q : Nat) (dl : Array Bool) : Bool := Region.noSelect ops && lateB md ops n q && lazyHead md ops n n 0 (Array.replicate ops.size false) && Region.free md ops dl q && decide (dl.size = ops.size) && decide (q < n) && decide (n ≤ ops.size) && ((List.range ops.size).all fun j => dl.getD j false == (decide (j < n) && decide (j ≠ q)))
/-- Lazy's law with a late operation q -/
theorem wp_region_late {id : Nat} {Q : Exit → Act → World → Prop} {a : Act} {w : World} {l : List Oper} (n q g : Nat) (dl done : Array Bool) (an : Anns) (oq : Oper) (hm : P.follows .mixedOrders = true) (hoq : l.toArray[q]? = some oq) (hn : l.length = n + g) (hd : setTo (Array.replicate l.length false) n 0 = done) (hB : lazyLateB .any l.toArray n q dl = true)
  (hnq : an q = none) (hgq : oq.guard = none) (hQ : ∀ c a w v, Q (.panic c) (a.put oq.dst v) w → Q (.panic c) a w) (hp : ∀ (ρ : Operand → Value) w w' v, (execOp ρ oq).run P w = .ok (.value v) w → (execOp ρ oq).run P w' = .ok (.value v) w')
  (h : LW P l.toArray .any an w (fun ξ a' => ∀ w', Good an w ξ w' → wpAny P .any l.toArray Q g done a' w') (l.take n) 0 (fun _ => none) a) : (Code.region id l.toArray true).wp P Q a w := by
 simp only [lazyLateB, Bool.and_eq_true, decide_eq_true_eq] at hB
 obtain ⟨⟨⟨⟨⟨⟨⟨hsel, hs⟩, hlex⟩, hfr⟩, hdl⟩, hqn⟩, hno⟩, hall⟩ := hB
 have hdq : ∀ j, dl.getD j false = (decide (j < n) && decide (j ≠ q)) := by
  intro j
  by_cases hj : j < l.toArray.size
  ·
   have := List.all_eq_true.1 hall j (List.mem_range.2 hj)
   simpa using this
  ·
   have : dl.getD j false = false := by simp [Array.getD, show ¬ j < dl.size by omega]
   rw [this]
   simp; omega
 have htl : (l.take n).length = n := by simp; omega
 have inv0 : ClosedD .any l.toArray n (Array.replicate l.toArray.size false) := ⟨⟨by simp, fun j oj _ hl => (by rw [getD_replicate_false] at hl; cases hl)⟩, fun j _ => getD_replicate_false _ _⟩
 have hdn := lazyHead_done _ _ _ hlex
 have H := AO_lexD (md := .any) hsel hs hdl hdq hqn hno _ hdn (l.take n) 0 _ _ a (fun j hj => by
  have hj' : j < n := by rw [htl] at hj; exact hj
  simp [hj']) (by simpa using htl) inv0 (by rw [htl]) (by rw [htl]; exact hlex) h
 refine wp_region_any hm ?_
 simp only [List.size_toArray] at H
 have := wpAny_of_AOd (g := g) (Q' := Q) (w := { w with drawn := w.drawn + 1 }) hoq hqn hsel hfr hnq hgq hQ hp (fun listed ξ a' w' hL hg => ?_) _ _ _ _ H (Good.start an ((Below.refl _ w).drew))
 ·
  rw [htl] at this
  rw [List.size_toArray, hn]
  simpa [hn] using this
 ·
  rw [hL.1, hd]
  exact hL.2 w' hg
theorem extract_pure {o : Oper} (x : Operand) (k : Nat) (h : o.op = .extract x k) (ρ : Operand → Value) (w w' : World) (v : Value) (hr : (execOp ρ o).run P w = .ok (.value v) w) : (execOp ρ o).run P w' = .ok (.value v) w' := by
 unfold execOp at hr ⊢
 rw [h] at hr ⊢
 dsimp only at hr ⊢
 rw [Sem.run_bind] at hr ⊢
 cases hx : ρ x with
 | tuple vs =>
  rw [hx] at hr
  unfold Instr.extract at hr ⊢
  cases hv : vs[k]? with
  | none => simp [hv, Result.andThen] at hr
  | some u =>
   simp only [hv, Sem.run_pure, Result.andThen_ok] at hr ⊢
   injection hr with h1 _
   rw [h1]
 | _ =>
  rw [hx] at hr
  unfold Instr.extract at hr
  simp [Result.andThen] at hr
end
end Go.Proofs.YtghikgjknhjjgaaDoor
namespace Go.Proofs.YtghikgjknhjjgaaDoor
set_option maxRecDepth 100000
open Go.RowKit Go.Shelf
def annDE (d : Dsk) (er : Int) : Ann := ⟨fun r => .tuple #[r.x 0, .int .i64 er], fun r W => DskV W (r.x 0) d⟩
theorem lz_de {f : FuncId} {args : Array Value} {d : Dsk} {er : Int} {W : World} (h : Calls Tryd.prog f args W (RetVE W d er)) : Calls Tryd.prog f args W fun e w' => ∃ u, e = .returned u ∧ lzPost (annDE d er) W u w' :=
 h.mono fun _ _ ⟨v, he, ho, hb⟩ => ⟨_, he, hb, fun _ => v, rfl, fun _ hb' => ho.below hb'⟩
end Go.Proofs.YtghikgjknhjjgaaDoor
namespace Go.Proofs.YtghikgjknhjjgaaDoor
set_option maxRecDepth 100000
open Go.RowKit Go.Shelf
end Go.Proofs.YtghikgjknhjjgaaDoor
