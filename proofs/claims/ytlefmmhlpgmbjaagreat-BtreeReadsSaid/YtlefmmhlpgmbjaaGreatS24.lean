/- Lazy's law where one operation of the head (a pure one, q) may also stand behind the first operation behind the head. What btree.Commit returns, plain. What a valid index's tree and free pages are; contents at an optional tree. The state of btree.Commit while changes are made. The end of btree.Commit: what is kept; plain laws of its operations. -/
import Derived.Test.YtlefmmhlpgmbjaaGreatS15
import Derived.Test.YtlefmmhlpgmbjaaGreatS21
import Derived.Test.YtlefmmhlpgmbjaaGreatS23
import Derived.Test.YtlefmmhlpgmbjaaGreatS01
namespace Go.Proofs.YtlefmmhlpgmbjaaGreat
set_option maxRecDepth 100000
open Go.RowKit
section
variable {P : Program} {ops : Array Oper} {md : Region.Mode} {W0 : World} {an : Anns}
def AOd (P : Program) (ops : Array Oper) (md : Region.Mode) (an : Anns) (W0 : World) (n q : Nat) (dl : Array Bool) (L : Array Bool -> Recs -> Act -> Prop) : Nat -> Array Bool -> Recs -> Act -> Prop
 | 0, listed, ξ, a => L listed ξ a
 | f + 1, listed, ξ, a => Region.ready md ops listed ≠ [] /\ (listed ≠ dl -> ∀ i ∈ Region.ready md ops listed, i < n) /\ (listed = dl -> q ∈ Region.ready md ops listed) /\
  ∀ i ∈ Region.ready md ops listed, i < n -> ∀ o, ops[i]? = some o -> StepK P ops md an W0 i o ξ a (AOd P ops md an W0 n q dl L f (listed.setIfInBounds i true))
def lateB (md : Region.Mode) (ops : Array Oper) (n q : Nat) : Bool := (List.range ops.size).all fun t => decide (t < n) || (List.range n).all fun i => decide (i = q) || (pastB md ops 8 [t]).contains i
structure zcf (md : Region.Mode) (ops : Array Oper) (n : Nat) (listed : Array Bool) : Prop extends Closed md ops n listed where
 head : ∀ j, n <= j -> listed.getD j false = false
theorem zcf.set {n i : Nat} {listed : Array Bool} (inv : zcf md ops n listed) (hi : i ∈ Region.ready md ops listed) (hn : i < n) : zcf md ops n (listed.setIfInBounds i true) :=
 ⟨inv.toClosed.set hi, fun j hj => by rw [getD_set_ne false (by omega)]; exact inv.head j hj⟩
theorem zjY {n i q : Nat} {dl : Array Bool} {oi : Oper} {S : Option Rec -> Value -> Prop} {L : Array Bool -> Recs -> Act -> Prop} (hi : ops[i]? = some oi) (hsel : ∀ (j : Nat) (o : Oper) cs b, ops[j]? = some o -> o.op ≠ .select cs b)
  (hs : lateB md ops n q = true) (hin : i < n) (hdl : dl.size = ops.size) (hdq : ∀ j, dl.getD j false = (decide (j < n) && decide (j ≠ q))) (hqn : q < n) (hdone : ∀ listed ξ a, L listed ξ a -> ∀ j ∈ Region.ready md ops listed, n <= j) :
  ∀ (f : Nat) (listed : Array Bool) (ξ : Recs) (a : Act), zcf md ops n listed ->
   (∀ j oj, ops[j]? = some oj -> j ≠ i -> listed.getD j true = false -> (∀ e ∈ oj.after, Region.binds md e = true -> e.on ≠ i) -> oi.apart ops oj = true) ->
   i ∈ Region.ready md ops listed -> Outs P ops md an W0 i oi ξ a S ->
   (∀ ρ v, S ρ v -> AOd P ops md an W0 n q dl L f (listed.setIfInBounds i true) (upr ξ i ρ) (a.put oi.dst v)) -> AOd P ops md an W0 n q dl L (f + 1) listed ξ a := by
 intro f;have late : ∀ (listed : Array Bool), zcf md ops n listed -> i ∈ Region.ready md ops listed -> ∀ j ∈ Region.ready md ops listed, n <= j -> i = q /\ listed = dl := by
  intro listed inv hr j hj hn;have hlt : j < ops.size := by obtain ⟨_, oj, hoj, _⟩ := mem_ready.1 hj; exact (Array.getElem?_eq_some_iff.1 hoj).1
  have h1 := List.all_eq_true.1 hs j (List.mem_range.2 hlt);simp only [Bool.or_eq_true, decide_eq_true_eq] at h1;have hall : ∀ k, k < n -> k ≠ q -> listed.getD k false = true := by
   intro k hk hkq;rcases h1 with h1 | h1
   . omega
   .
    have h2 := List.all_eq_true.1 h1 k (List.mem_range.2 hk);simp only [Bool.or_eq_true, decide_eq_true_eq] at h2;rcases h2 with h2 | h2
    . exact absurd h2 hkq
    .
     rcases zaJ hj inv.closed h2 with h3 | h3
     . omega
     . exact h3
  have hiq : i = q := by
   rcases Nat.decEq i q with h | h
   . have := hall i hin h;rw [getD_both (mem_ready.1 hr).1] at this;cases this
   . exact h
  refine ⟨hiq, ?_⟩;have key : ∀ k, listed.getD k false = dl.getD k false := by
   intro k;rw [hdq]
   by_cases hk : k < n
   .
    by_cases hkq : k = q
    . subst hkq; subst hiq;rw [getD_both (mem_ready.1 hr).1];simp
    . rw [hall k hk hkq]; simp [hk, hkq]
   . rw [inv.head k (by omega)]; simp [hk]
  apply Array.ext
  . rw [inv.size, hdl]
  . intro k h1 h2;have := key k;simpa [Array.getD, h1, h2] using this
 have only : ∀ (listed : Array Bool), listed = dl -> ∀ j ∈ Region.ready md ops listed, j < n -> j = q := by
  intro listed e j hj hn;subst e;rcases Nat.decEq j q with h | h
  . have h0 := (mem_ready.1 hj).1;have := hdq j;rw [getD_both h0] at this;simp [hn, h] at this
  . exact h
 have lt_of : ∀ (listed : Array Bool), zcf md ops n listed -> i ∈ Region.ready md ops listed -> listed ≠ dl -> ∀ j ∈ Region.ready md ops listed, j < n := by
  intro listed inv hr hne j hj;rcases Nat.lt_or_ge j n with h | h
  . exact h
  . exact absurd (late listed inv hr j hj h).2 hne
 induction f with
 | zero =>
  intro listed ξ a inv _ hr hy H;refine ⟨fun h => (by rw [h] at hr; cases hr), lt_of listed inv hr, fun e => by rw [<- only listed e i hr hin]; exact hr, fun j hj hjn oj hoj => ?_⟩
  by_cases hji : j = i
  . subst hji;obtain rfl : oj = oi := Option.some.inj (hoj.symm.trans hi);exact ⟨S, hy, H⟩
  . obtain ⟨ρ, v, hs⟩ := hy.some;have := hdone _ _ _ (H ρ v hs) j (ready_mono hj hji);omega
 | succ f ih =>
  intro listed ξ a inv hfree hr hy H;refine ⟨fun h => (by rw [h] at hr; cases hr), lt_of listed inv hr, fun e => by rw [<- only listed e i hr hin]; exact hr, fun j hj hjn oj hoj => ?_⟩
  by_cases hji : j = i
  . subst hji;obtain rfl : oj = oi := Option.some.inj (hoj.symm.trans hi);exact ⟨S, hy, H⟩
  .
   obtain ⟨hjun, oj', hoj', hall⟩ := mem_ready.1 hj;obtain rfl : oj' = oj := Option.some.inj (hoj'.symm.trans hoj);have hun := (mem_ready.1 hr).1;have hnot : ∀ e ∈ oj'.after, Region.binds md e = true -> e.on ≠ i := fun e he hb heq => by have h1 := hall e he hb;rw [heq, getD_both hun] at h1;cases h1
   have hri : zbf md ops i j = false := by
    cases h : zbf md ops i j with
    | false => rfl
    | true =>
     rcases zaJ hr inv.closed h with h2 | h2
     . exact absurd h2 hji
     . rw [getD_both hjun] at h2; cases h2
   have hrj : zbf md ops j i = false := by
    cases h : zbf md ops j i with
    | false => rfl
    | true =>
     rcases zaJ hj inv.closed h with h2 | h2
     . exact absurd h2.symm hji
     . rw [getD_both hun] at h2; cases h2
   have hfree' : ∀ k ok, ops[k]? = some ok -> k ≠ i -> (listed.setIfInBounds j true).getD k true = false ->
     (∀ e ∈ ok.after, Region.binds md e = true -> e.on ≠ i) -> oi.apart ops ok = true := fun k ok hk hki hun hno => by
    refine hfree k ok hk hki ?_ hno
    by_cases hjk : j = k
    . subst hjk; exact hjun
    . rw [getD_set_ne true hjk] at hun; exact hun
   refine (StepK.swap (Ne.symm hji) (hfree j oj' hoj hji hjun hnot) (fun cs b => hsel i oi cs b hi) (fun cs b => hsel j oj' cs b hoj) hri hrj hy fun ρ v hs => (H ρ v hs).2.2.2 j (ready_mono hj hji) hjn oj' hoj).mono ?_;rintro ξ' a' ⟨h1, h2⟩;refine ih (listed.setIfInBounds j true) ξ' a' (inv.set hj hjn) hfree' (ready_mono hr (Ne.symm hji)) h1 fun ρ v hs => ?_;rw [Array.setIfInBounds_comm _ _ hji];exact h2 ρ v hs
theorem zko {n q : Nat} {dl : Array Bool} {Lq : Recs -> Act -> Prop} (hsel : Region.noSelect ops = true) (hs : lateB md ops n q = true) (hdl : dl.size = ops.size) (hdq : ∀ j, dl.getD j false = (decide (j < n) && decide (j ≠ q))) (hqn : q < n) (hno : n <= ops.size) (done : Array Bool) (hdn : (Region.ready md ops done).all (fun j => decide (n <= j)) = true) :
  ∀ (l : List Oper) (k : Nat) (listed : Array Bool) (ξ : Recs) (a : Act), (∀ j, j < l.length -> l[j]? = ops[k + j]?) -> k + l.length = n -> zcf md ops n listed -> setTo listed l.length k = done ->
  za4 md ops n l.length k listed = true -> LW P ops md an W0 Lq l k ξ a -> AOd P ops md an W0 n q dl (fun listed' ξ' a' => listed' = done /\ Lq ξ' a') l.length listed ξ a
 | [], k, listed, ξ, a, _, _, _, hd, _, h => ⟨hd, h⟩
 | o :: l, k, listed, ξ, a, hl, hk, inv, hd, hB, h => by
  have h0 : ops[k]? = some o := by simpa using (hl 0 (by simp)).symm
  simp only [zlC, za4, Bool.and_eq_true] at hB;obtain ⟨⟨hr, hf⟩, hB'⟩ := hB;have hkn : k < n := by simp only [zlC] at hk; omega
  have hr' : k ∈ Region.ready md ops listed := by simpa using hr
  obtain ⟨S, hS, hK⟩ := h;refine zjY h0 (Region.noSelect_spec hsel) hs hkn hdl hdq hqn (fun listed' _ a' hL j hj => ?_) l.length listed ξ a inv (Region.free_spec h0 hf) hr' hS fun ρ v hs' => ?_
  . rw [hL.1] at hj; exact of_decide_eq_true (List.all_eq_true.1 hdn j hj)
  . exact zko hsel hs hdl hdq hqn hno done hdn l (k + 1) _ _ _ (fun j hj => by have := hl (j + 1) (by simp; omega); simpa [Nat.add_assoc, Nat.add_comm 1 j] using this) (by simp only [zlC] at hk; omega) (inv.set hr' hkn) (by simpa [setTo] using hd) hB' (hK ρ v hs')
theorem zbq {n q g : Nat} {dl : Array Bool} {oq : Oper} {L : Array Bool -> Recs -> Act -> Prop} {Q' : Exit -> Act -> World -> Prop} (hoq : ops[q]? = some oq) (hqn : q < n) (hsel : Region.noSelect ops = true) (hfr : Region.free md ops dl q = true) (hnq : an q = none) (hgq : oq.guard = none)
  (hQ : ∀ c a w v, Q' (.panic c) (a.put oq.dst v) w -> Q' (.panic c) a w) (hp : ∀ (ρ : Operand -> Value) w w' v, (execOp ρ oq).run P w = .ok (.value v) w -> (execOp ρ oq).run P w' = .ok (.value v) w')
  (hL : ∀ listed ξ a w, L listed ξ a -> Good an W0 ξ w -> wpAny P md ops Q' g listed a w) :
  ∀ (f : Nat) (listed : Array Bool) (ξ : Recs) (a : Act) (w : World), AOd P ops md an W0 n q dl L f listed ξ a -> Good an W0 ξ w -> wpAny P md ops Q' (f + g) listed a w
 | 0, listed, ξ, a, w, h, hg => by rw [Nat.zero_add]; exact hL _ _ _ _ h hg
 | f + 1, listed, ξ, a, w, h, hg => by
  rw [show f + 1 + g = (f + g) + 1 by omega];obtain ⟨h0, h1, h2, h3⟩ := h
  by_cases he : listed = dl
  .
   have hq := h2 he;obtain ⟨S, hS, hK⟩ := h3 q hq hqn oq hoq;cases hS with
   | skip hw => unfold Region.wanted at hw; rw [hgq] at hw; cases hw
   | quiet v hw hn hr => refine wpAny_take (i := q) (v := v) hoq hsel (by rw [he]; exact hfr) (by simpa using hq) (fun c a w => hQ c a w v) (.inl ⟨hw, fun w' => hp _ w w' v (hr w ⟨⟨w, hg.below⟩, rfl⟩)⟩) ?_;exact zbq hoq hqn hsel hfr hnq hgq hQ hp hL f _ _ _ _ (hK none v ⟨rfl, rfl⟩) hg
   | lzy A hw hn hl => rw [hnq] at hn; cases hn
  .
   refine ⟨fun h => absurd h h0, fun i hi => ?_⟩;obtain ⟨_, oi, hoi, _⟩ := mem_ready.1 hi;obtain ⟨S, hS, hK⟩ := h3 i hi (h1 he i hi) oi hoi;unfold wpOp;simp only [hoi];cases hS with
   | skip hw => rw [if_neg (by rw [hw]; exact Bool.false_ne_true)];exact zbq hoq hqn hsel hfr hnq hgq hQ hp hL f _ _ _ _ (hK none undef ⟨rfl, rfl⟩) hg
   | quiet v hw hn hr => rw [if_pos hw];left;unfold Oper.wp;rw [hr w ⟨⟨w, hg.below⟩, rfl⟩];exact zbq hoq hqn hsel hfr hnq hgq hQ hp hL f _ _ _ _ (hK none v ⟨rfl, rfl⟩) hg
   | lzy A hw hn hl => rw [if_pos hw];left;refine zig (hl w hg.below fun j _ => hg.fact j) ?_;rintro v w' ⟨hb, x, rfl, hΦ⟩;exact zbq hoq hqn hsel hfr hnq hgq hQ hp hL f _ _ _ _ (hK _ _ ⟨_, rfl, rfl⟩) (hg.add hb hn hΦ)
def zgU (md : Region.Mode) (ops : Array Oper) (n q : Nat) (dl : Array Bool) : Bool := Region.noSelect ops && lateB md ops n q && za4 md ops n n 0 (Array.replicate ops.size false) && Region.free md ops dl q && decide (dl.size = ops.size) && decide (q < n) && decide (n <= ops.size) && ((List.range ops.size).all fun j => dl.getD j false == (decide (j < n) && decide (j ≠ q)))
theorem zbS {id : Nat} {Q : Exit -> Act -> World -> Prop} {a : Act} {w : World} {l : List Oper} (n q g : Nat) (dl done : Array Bool) (an : Anns) (oq : Oper) (hm : P.follows .mixedOrders = true) (hoq : l.toArray[q]? = some oq) (hn : l.length = n + g) (hd : setTo (Array.replicate l.length false) n 0 = done) (hB : zgU .any l.toArray n q dl = true)
  (hnq : an q = none) (hgq : oq.guard = none) (hQ : ∀ c a w v, Q (.panic c) (a.put oq.dst v) w -> Q (.panic c) a w) (hp : ∀ (ρ : Operand -> Value) w w' v, (execOp ρ oq).run P w = .ok (.value v) w -> (execOp ρ oq).run P w' = .ok (.value v) w')
  (h : LW P l.toArray .any an w (fun ξ a' => ∀ w', Good an w ξ w' -> wpAny P .any l.toArray Q g done a' w') (l.take n) 0 (fun _ => none) a) : (Code.region id l.toArray true).wp P Q a w := by
 simp only [zgU, Bool.and_eq_true, decide_eq_true_eq] at hB;obtain ⟨⟨⟨⟨⟨⟨⟨hsel, hs⟩, hlex⟩, hfr⟩, hdl⟩, hqn⟩, hno⟩, hall⟩ := hB;have hdq : ∀ j, dl.getD j false = (decide (j < n) && decide (j ≠ q)) := by
  intro j
  by_cases hj : j < l.toArray.size
  . have := List.all_eq_true.1 hall j (List.mem_range.2 hj);simpa using this
  .
   have : dl.getD j false = false := by simp [Array.getD, show ¬ j < dl.size by omega]
   rw [this]
   simp; omega
 have htl : (l.take n).length = n := by simp; omega
 have inv0 : zcf .any l.toArray n (Array.replicate l.toArray.size false) := ⟨⟨by simp, fun j oj _ hl => (by rw [getD_replicate_false] at hl; cases hl)⟩, fun j _ => getD_replicate_false _ _⟩;have hdn := zbv _ _ _ hlex;have H := zko (md := .any) hsel hs hdl hdq hqn hno _ hdn (l.take n) 0 _ _ a (fun j hj => by
  have hj' : j < n := by rw [htl] at hj; exact hj
  simp [hj']) (by simpa using htl) inv0 (by rw [htl]) (by rw [htl]; exact hlex) h
 refine wp_region_any hm ?_;simp only [List.size_toArray] at H;have := zbq (g := g) (Q' := Q) (w := { w with drawn := w.drawn + 1 }) hoq hqn hsel hfr hnq hgq hQ hp (fun listed ξ a' w' hL hg => ?_) _ _ _ _ H (Good.start an ((Below.refl _ w).drew))
 . rw [htl] at this;rw [List.size_toArray, hn];simpa [hn] using this
 . rw [hL.1, hd];exact hL.2 w' hg
theorem zcr {o : Oper} (x : Operand) (k : Nat) (h : o.op = .extract x k) (ρ : Operand -> Value) (w w' : World) (v : Value) (hr : (execOp ρ o).run P w = .ok (.value v) w) : (execOp ρ o).run P w' = .ok (.value v) w' := by
 unfold execOp at hr |-;rw [h] at hr |-;dsimp only at hr |-;rw [Sem.run_bind] at hr |-;cases hx : ρ x with
 | tuple vs =>
  rw [hx] at hr;unfold Instr.extract at hr |-;cases hv : vs[k]? with
  | none => simp [hv, Result.andThen] at hr
  | some u =>
   simp only [hv, Sem.run_pure, Result.andThen_ok] at hr |-;injection hr with h1 _
   rw [h1]
 | _ => rw [hx] at hr;unfold Instr.extract at hr;simp [Result.andThen] at hr
end
def zaW (t : Option Nd) (c : Chg) : Bool := ((getO t c.key).2 != c.hasOld) || decide ((getO t c.key).1 ≠ c.old)
def zcM : Option Nd -> ByteArray -> Option Int
 | none => fun _ => none
 | some n => contL (fun _ => none) n.pre
def planP (x : Ix) (t : Option Nd) (l : List Chg) : Option (Option Nd × Plc) :=
 match l.foldl chg1 (t.map Nd.er) with
 | none => some (none, ⟨x.free, []⟩)
 | some n => (za0 (fun s => zcM t (bs s)) n ⟨x.free, []⟩).map fun y => (some y.1, y.2)
def zan (x : Ix) (l : List Chg) : Ix × Int :=
 match zat x with
 | none => (zeroX, 1)
 | some t =>
  if chgsE none l ≠ 0 then (zeroX, chgsE none l)
  else if l.any (zaW t) then (zeroX, 15)
  else if l = [] then (x, 0)
  else match planP x t l with
   | none => (zeroX, 17)
   | some (n, p) =>
    if x.ver = 1099511627776 then (zeroX, 17)
    else if (perfP x.disk (zaz x p.ws (rootN n))).2 ≠ 0 then ({ x with disk := (perfP x.disk (zaz x p.ws (rootN n))).1 }, (perfP x.disk (zaz x p.ws (rootN n))).2)
    else (⟨(perfP x.disk (zaz x p.ws (rootN n))).1, x.frm, x.til, x.ver + 1, rootN n, zap x.frm x.til (usedN n)⟩, 0)
theorem zg1 (d : Dsk) : ∀ (a b : List DOp), perfP d (a ++ b) = if (perfP d a).2 ≠ 0 then perfP d a else perfP (perfP d a).1 b := by
 intro a
 induction a generalizing d with
 | nil => intro b; simp [perfP]
 | cons o a ih =>
  intro b;rw [List.cons_append, perfP, perfP]
  by_cases h : (opP d o).2 ≠ 0
  . rw [if_pos h, if_pos h, if_pos h]
  . rw [if_neg h, if_neg h, ih]
theorem zhm (look : List UInt8 -> Option Int) : ∀ (n : Nd) (p : Plc), za0 look n.er p = za0 look n p := by
 intro n
 induction n using Nd.ind with
 | h ps kids page ih =>
  intro p;have hK : ∀ (l : List Nd) (p : Plc), (∀ k ∈ l, ∀ p, za0 look k.er p = za0 look k p) -> zaT look (l.map Nd.er) p = zaT look l p := by
   intro l
   induction l with
   | nil => intro p _; rfl
   | cons k l ihl =>
    intro p h;rw [List.map_cons, zaT, zaT, h k (by simp)];split
    . rfl
    . rw [ihl _ fun x hx => h x (by simp [hx])]
  rw [zbh, zbh, Nd.er_kids, Nd.er_ps];simp only [Nd.kids, Nd.ps];rw [hK kids p ih]
def RetXV (w : World) (r : Ix × Int) (e : Ending) (w' : World) : Prop := ∃ v, e = .returned (.tuple #[v, .int .i64 r.2]) /\ IxT w' v r.1 /\ Below w.heap.size w w'
theorem zhL {x : Ix} {l : List Chg} (h : zat x = none) : zan x l = (zeroX, 1) := by unfold zan; rw [h]
theorem zel {x : Ix} {l : List Chg} {t : Option Nd} (h : zat x = some t) (hc : chgsE none l ≠ 0) : zan x l = (zeroX, chgsE none l) := by unfold zan; rw [h]; simp only; rw [if_pos hc]
theorem zbd {x : Ix} {l : List Chg} {t : Option Nd} (h : zat x = some t) (hc : chgsE none l = 0) (hl : l.any (zaW t) = true) : zan x l = (zeroX, 15) := by unfold zan; rw [h]; simp only; rw [if_neg (by simpa using hc), if_pos hl]
theorem zeO {x : Ix} {t : Option Nd} (h : zat x = some t) : zan x [] = (x, 0) := by unfold zan; rw [h]; simp [chgsE]
theorem zbM {x : Ix} {l : List Chg} {t : Option Nd} (h : zat x = some t) (hc : chgsE none l = 0) (hl : l.any (zaW t) = false) (h0 : l ≠ []) (hp : planP x t l = none \/ x.ver = 1099511627776) : zan x l = (zeroX, 17) := by
 unfold zan; rw [h]; simp only; rw [if_neg (by simpa using hc), if_neg (by rw [hl]; decide), if_neg h0];split
 . rfl
 .
  rename_i n p hpl
  rcases hp with hp | hp
  . rw [hp] at hpl; cases hpl
  . rw [if_pos hp]
theorem zbN {x : Ix} {l : List Chg} {t : Option Nd} {n : Option Nd} {p : Plc} (h : zat x = some t) (hc : chgsE none l = 0) (hl : l.any (zaW t) = false) (h0 : l ≠ []) (hp : planP x t l = some (n, p)) (hv : x.ver ≠ 1099511627776) {D : Dsk} {er : Int} (hD : perfP x.disk (zaz x p.ws (rootN n)) = (D, er)) :
  zan x l = if er ≠ 0 then ({ x with disk := D }, er) else (⟨D, x.frm, x.til, x.ver + 1, rootN n, zap x.frm x.til (usedN n)⟩, 0) := by
 unfold zan; rw [h]; simp only; rw [if_neg (by simpa using hc), if_neg (by rw [hl]; decide), if_neg h0, hp];simp only;rw [if_neg hv, hD]
theorem zgJ {d : Dsk} {frm til : Int} (h0 : 0 <= frm) (h1 : til <= 1000000) : ∀ (f : Nat) {root : Bool} {page : Int} {used u : List Int} {n : Nd} {k : Nat}, loadP d frm til f root page used = some (n, k, u) -> ∀ m ∈ n.pre, GoodN frm til m
 | 0, _, _, _, _, _, _, h => by cases h
 | f + 1, root, page, used, u, n, k, h => by
  have hself := (zf8 h0 h1 _ h).1;rw [loadP] at h;split at h
  . cases h
  .
   split at h
   .
    split at h
    . cases h
    .
     split at h
     . cases h
     .
      split at h
      . simp only [Option.some.injEq, Prod.mk.injEq] at h;obtain ⟨rfl, -, -⟩ := h;intro m hm;rw [Nd.pre_eq] at hm;simp only [Nd.kids, List.map_nil, List.flatten_nil, zmS] at hm;rw [hm]; exact hself
      . cases h
   .
    split at h
    . cases h
    .
     split at h
     . cases h
     .
      rename_i kids k1 u1 hk
      split at h
      .
       simp only [Option.some.injEq, Prod.mk.injEq] at h;obtain ⟨rfl, -, -⟩ := h;intro m hm;rw [Nd.pre_eq] at hm;rcases zmC.1 hm with hm | hm
       . rw [hm]; exact hself
       . obtain ⟨q, hq, hmq⟩ := List.mem_flatten.1 hm;obtain ⟨c, hc, rfl⟩ := List.mem_map.1 hq;obtain ⟨p, u2, k2, u3, hg⟩ := (zcb hk).2 c hc;exact zgJ h0 h1 f hg m hmq
      . cases h
structure zks (x : Ix) (t : Option Nd) : Prop where
 chk0 : chk x.disk = 0
 fit : fits5 x.disk x.frm x.til = true
 read : readP x.disk x.frm x.til = some (x, t)
 ex : ∃ u, treeP x.disk x.frm x.til x.root.toNat = some (t, u) /\ x.free = zap x.frm x.til u /\ 0 <= x.root
 ver : 1 <= x.ver /\ x.ver <= 1099511627776
theorem zjU (d : Dsk) (frm til : Int) : (headX d frm til).1 <= 1099511627776 := by
 unfold headX;cases h1 : hdrX (pageL d frm) frm til 0 with
 | none => cases h2 : hdrX (pageL d (frm + 1)) frm til 1 with
  | none => simp [pickH]
  | some b => obtain ⟨v, n⟩ := b; have := zcp h2; simp [pickH]; omega
 | some a => obtain ⟨v, n⟩ := a; have := zcp h1; cases h2 : hdrX (pageL d (frm + 1)) frm til 1 with
  | none => simp [pickH]; omega
  | some b => obtain ⟨v2, n2⟩ := b; have := zcp h2; simp only [pickH]; split <;> omega
theorem zd8 {x : Ix} {t : Option Nd} (h : zat x = some t) : zks x t := by
 obtain ⟨d, frm, til, ver, root, free⟩ := x;unfold zat at h;split at h
 . cases h
 .
  rename_i hf
  obtain ⟨hc, hf5⟩ := zez (by simpa using hf);split at h
  . cases h
  .
   rename_i y t' hr
   split at h
   .
    rename_i he
    cases h;have hr0 := hr;unfold readP at hr;split at hr
    . cases hr
    .
     rename_i hv0
     split at hr
     . cases hr
     .
      rename_i t'' u ht
      simp only [Option.some.injEq, Prod.mk.injEq] at hr;obtain ⟨rfl, rfl⟩ := hr;simp only at he hv0 ht hr0;obtain ⟨e1, e2, e3⟩ := he;subst e1 e2 e3;refine ⟨hc, hf5, hr0, ⟨u, by simpa using ht, rfl, Int.natCast_nonneg _⟩, ?_⟩;have := zjU d frm til;simp only;omega
   . cases h
theorem zfy {frm til : Int} {u : List Int} {g : Int} (h : g ∈ zap frm til u) : frm + 2 <= g /\ g < til /\ g ∉ u := by
 unfold zap pgsX at h;obtain ⟨h1, h2⟩ := List.mem_filter.1 h;obtain ⟨i, hi, rfl⟩ := List.mem_map.1 h1;rw [List.mem_range] at hi;simp at h2;exact ⟨by omega, by omega, h2⟩
theorem zks.good {x : Ix} {t : Option Nd} (h : zks x t) : 0 <= x.frm /\ x.til <= 1000000 /\ x.frm + 3 <= x.til /\ (∀ n, t = some n -> ∀ m ∈ n.pre, GoodN x.frm x.til m) /\ ∀ g ∈ x.free, x.frm + 2 <= g /\ g < x.til := by
 obtain ⟨f1, f2, f3, f4, f5⟩ := zax h.fit;have hr := zag (zaq h.chk0).1;obtain ⟨u, hu, hfr, hr0⟩ := h.ex;refine ⟨f2, by omega, by omega, fun n hn => ?_, fun g hg => ?_⟩
 .
  subst hn;unfold treeP at hu;split at hu
  . cases hu
  .
   split at hu
   . cases hu
   .
    rename_i n' k u' hl
    split at hu
    . simp only [Option.some.injEq, Prod.mk.injEq] at hu;obtain ⟨rfl, -⟩ := hu;exact zgJ f2 (by omega) _ hl
    . cases hu
 . rw [hfr] at hg;have := zfy hg;omega
theorem GoodN.enc {frm til : Int} {m : Nd} (h : GoodN frm til m) (h0 : 0 <= frm) (h1 : til <= 1000000) : EncOk m /\ PgOk m.page := by
 obtain ⟨g1, g2, g3, g4, g5⟩ := h;exact ⟨g5, by unfold PgOk; omega⟩
theorem zgW {l : List Nd} : ∀ {f : ByteArray -> Option Int} {s : ByteArray} {g : Int}, contL f l s = some g -> f s = some g \/ ∃ m ∈ l, bs (encD m) = s /\ m.page = g := by
 induction l with
 | nil => intro f s g h; exact .inl h
 | cons x l ih =>
  intro f s g h;rcases ih (f := putF f (bs (encD x)) x.page) h with h | ⟨m, hm, h1, h2⟩
  .
   unfold putF at h;split at h
   .
    rename_i e
    exact .inr ⟨x, by simp, e.symm, by simpa using h⟩
   . exact .inl h
  . exact .inr ⟨m, by simp [hm], h1, h2⟩
theorem Tm.cnt {n : Nd} : ∀ {h : Nat}, Tm 2 4 h n -> n.pre.length + 1 <= n.prs.length := by
 induction n using Nd.ind with
 | h ps kids page ih =>
  intro h t;cases t with
  | lf _ _ _ _ g1 g3 hk => rw [Nd.pre_eq, Nd.prs_leaf rfl]; simpa [Nd.kids, Nd.ps] using g1
  | inn _ _ h _ _ g2 g0 g8 hk =>
   have hne : kids ≠ [] := fun e => by rw [e] at g0; simp at g0
   rw [Nd.pre_eq, Nd.prs_inner (n := .mk [] kids page) hne];simp only [Nd.kids, zlC];have key : ∀ l : List Nd, (∀ k ∈ l, k.pre.length + 1 <= k.prs.length) -> (l.map Nd.pre).flatten.length + l.length <= (l.map Nd.prs).flatten.length := by
    intro l
    induction l with
    | nil => intro _; simp
    | cons k l ihl => intro hl;have h1 := hl k (by simp);have h2 := ihl fun x hx => hl x (by simp [hx]);simp only [List.map_cons, List.flatten_cons, zlA, zlC];omega
   have := key kids fun k hk' => ih k hk' (hk k hk');omega
theorem Tm.cnt1 {n : Nd} {h : Nat} (t : Tm 1 2 h n) : n.pre.length <= n.prs.length := by
 cases h with
 | zero => obtain ⟨hk, h1, h3, ho⟩ := t.lf';rw [Nd.pre_eq, Nd.prs_leaf hk, hk];simpa using h1
 | succ h =>
  obtain ⟨hp, h0, h1, h3, ho⟩ := t.inn';rw [Nd.pre_eq, Nd.prs_inner h0, zlC];have key : ∀ l : List Nd, (∀ k ∈ l, k.pre.length + 1 <= k.prs.length) -> (l.map Nd.pre).flatten.length + l.length <= (l.map Nd.prs).flatten.length := by
   intro l
   induction l with
   | nil => intro _; simp
   | cons k l ihl => intro hl;have h1 := hl k (by simp);have h2 := ihl fun x hx => hl x (by simp [hx]);simp only [List.map_cons, List.flatten_cons, zlA, zlC];omega
  have := key n.kids fun k hk' => (ho k hk').cnt;omega
theorem zcG : ∀ {l : List Chg} {p : Option Chg}, chgsE p l = 0 -> ∀ c ∈ l, KvOk (c.key, c.new) /\ c.old.size <= 80
 | [], _, _, c, hc => by cases hc
 | x :: l, p, h, c, hc => by
  rw [chgsE] at h;split at h
  . rename_i hx; exact absurd h hx
  .
   rename_i hx
   rcases zmC.1 hc with rfl | hc
   .
    have hx0 : chgE p c = 0 := by simpa using hx
    unfold chgE at hx0;split at hx0
    . cases hx0
    .
     rename_i h1
     exact ⟨⟨by simp only; omega, by simp only; omega⟩, by omega⟩
   . exact zcG h c hc
theorem OTm.er {o : Option Nd} (h : OTm o) : OTm (o.map Nd.er) := by
 intro n hn;cases o with
 | none => cases hn
 | some m => cases hn;obtain ⟨⟨k, h1⟩, h2⟩ := h m rfl;exact ⟨⟨k, Tm.er_iff.2 h1⟩, by rw [Nd.er_prs]; exact h2⟩
theorem zfa {o : Option Nd} (h : OTm o) : Asc (zaf o) := by
 cases o with
 | none => exact List.Pairwise.nil
 | some n => exact (h n rfl).2
theorem zd9 : ∀ {l : List Chg} {o : Option Nd}, OTm o -> (∀ c ∈ l, KvOk (c.key, c.new)) -> OTm (l.foldl chg1 o) /\ (zaf (l.foldl chg1 o)).length <= (zaf o).length + l.length
 | [], o, h, _ => ⟨h, by simp⟩
 | c :: l, o, h, hk => by
  obtain ⟨h1, h2⟩ := ziu h (fun _ => hk c (by simp));obtain ⟨h3, h4⟩ := zd9 (l := l) h1 fun x hx => hk x (by simp [hx]);refine ⟨h3, ?_⟩;have h5 : (zaf (chg1 o c)).length <= (zaf o).length + 1 := by
   rw [h2];split
   . exact (zgT (zfa h) _).2.1
   . have := (zd3 (zfa h) c.key).2; omega
  rw [List.foldl_cons, zlC];omega
theorem zd7 (kb : Nat) (w : World) : Calls Tryz.prog 73 #[.pointer none, .map (some kb)] w fun e w' => e = .returned (.tuple #[]) /\ w' = w := by
 go_enter Tryz.func73, Tryz.ntmps73;go_wp2;refine bodyPost_ret (v := .tuple #[]) (by simp [results, Tryz.results73, go_sem]) rfl ?_;exact ⟨rfl, rfl⟩
theorem zhk (base kb : Nat) (o : Option AT) (w : World) (h : ∀ t, o = some t -> Lies base w t /\ zeo t.nd /\ t.nd.pre.length <= 900000) (hM : MapS w kb 0 (fun _ => none)) :
  Calls Tryz.prog 73 #[rootV o, .map (some kb)] w fun e w' => e = .returned (.tuple #[]) /\ (∃ m, MapS w' kb m (zcM (ndO o))) /\ w.grownBy w' (some kb) := by
 cases o with
 | none => refine (zd7 kb w).mono ?_;rintro e w' ⟨rfl, rfl⟩;exact ⟨rfl, ⟨0, hM⟩, zbT (Below.refl _ _) _⟩
 | some t => obtain ⟨h1, h2, h3⟩ := h t rfl;refine (zhH base kb t w 0 _ h1 h2 hM (by omega)).mono ?_;rintro e w' ⟨rfl, a1, a2⟩;exact ⟨rfl, ⟨_, a1⟩, a2⟩
structure ComS (w W : World) (C : Array Value) (N B1 Z km : Nat) (f : ByteArray -> Option Int) (fo : Option Addr) (fc : Nat) (tv : Value) (un : Nat) (p : Plc) (used : List Int) (o : Option AT) : Prop where
 xN : Bx W N C 33
 xR : Bx W (N + 1) ixZ 33
 below : Below w.heap.size w W
 pl : PlS W B1 (Z + 1 + 1) Z (Z + 1) km f fo fc tv un p used
 tr : ∀ t, o = some t -> Lies B1 W t /\ t.fp.Nodup
 b1 : B1 <= W.heap.size
 hN : N + 1 < B1
 hw : w.heap.size = N
 hZ : B1 <= Z
theorem zey {o : Option AT} {y : Nat} : y ∈ fpO o ↔ ∃ t, o = some t /\ y ∈ t.fp := by
 cases o with
 | none => simp [fpO]
 | some t => simp [fpO]
section
variable {w W W' : World} {C : Array Value} {N B1 Z km : Nat} {f : ByteArray -> Option Int} {fo : Option Addr} {fc : Nat} {tv : Value} {un : Nat} {p : Plc} {used : List Int} {o o' : Option AT}
theorem ComS.next (h : ComS w W C N B1 Z km f fo fc tv un p used o) (hb : Below W.heap.size W W') : ComS w W' C N B1 Z km f fo fc tv un p used o :=
 ⟨h.xN.belowAll hb, h.xR.belowAll hb, btr h.below hb, h.pl.keep ((KeepB.refl [] W).of_below hb) (by simp) h.b1 (by simp) (by simp) (by simp) (by simp), fun t ht => ⟨(h.tr t ht).1.staysAll hb, (h.tr t ht).2⟩, znT h.b1 hb.size, h.hN, h.hw, h.hZ⟩
theorem ComS.fpO_ge (h : ComS w W C N B1 Z km f fo fc tv un p used o) : ∀ y ∈ fpO o, B1 <= y := fun y hy => by
 obtain ⟨t, ht, hy⟩ := zey.1 hy;exact ((h.tr t ht).1.lt y hy).1
theorem ComS.root (h : ComS w W C N B1 Z km f fo fc tv un p used o) {r : Option Nd} {e : Ending} (hr : RootR B1 W o r e W') : ∃ o', e = .returned (rootV o') /\ o'.map (fun t => t.nd.er) = r /\ ComS w W' C N B1 Z km f fo fc tv un p used o' := by
 obtain ⟨o', he, ht, her, -, hK⟩ := hr;have hge := h.fpO_ge;have hN := h.hN;have hnot : ∀ b, b < B1 -> b ∉ fpO o := fun b hb hm => by have := hge b hm; omega
 have hap : ∀ t, o = some t -> Z + 1 + 1 ∉ t.fp /\ Z ∉ t.fp /\ Z + 1 ∉ t.fp /\ (∀ g, tv.ownBlock = some g -> g ∉ t.fp) := fun t ht => by obtain ⟨a1, a2, a3, a4, -⟩ := h.pl.apart (h.tr t ht).1;exact ⟨a1, a2, a3, a4⟩
 refine ⟨o', he, her, hK.bx h.xN (hnot N (by omega)), hK.bx h.xR (hnot _ (by omega)), hK.below h.below h.below.size (fun b hb => ?_), ?_, ht, znT h.b1 hK.2.2.2.1, h.hN, h.hw, h.hZ⟩
 . have := hge b hb; have := h.hw; omega
 .
  refine h.pl.keep hK hge h.b1 (fun hm => ?_) (fun hm => ?_) (fun hm => ?_) (fun g hg hm => ?_)
  . obtain ⟨t, ht, hy⟩ := zey.1 hm; exact (hap t ht).1 hy
  . obtain ⟨t, ht, hy⟩ := zey.1 hm; exact (hap t ht).2.1 hy
  . obtain ⟨t, ht, hy⟩ := zey.1 hm; exact (hap t ht).2.2.1 hy
  . obtain ⟨t, ht, hy⟩ := zey.1 hm; exact (hap t ht).2.2.2 g hg hy
end
theorem zcV : ∀ (ops : List DOp) (d : Dsk), (perfP d ops).1.cache.length <= d.cache.length + ops.length
 | [], d => by rw [perfP]; simp
 | o :: ops, d => by
  rw [perfP];have h := zgv (d := d) (o := o);split
  . rw [zlC]; omega
  . have := zcV ops (opP d o).1;rw [zlC]; omega
def hdW (x : Ix) (root : Int) : PW := ⟨x.frm + (x.ver + 1).tmod 2, bs (hdrL 512 (x.ver + 1).toNat root.toNat)⟩
theorem zgc (x : Ix) (root : Int) : zaz x [] root = wrOps [hdW x root] := rfl
theorem zcR {x : Ix} {ws : List PW} (root : Int) (h : ws ≠ []) : zaz x ws root = wrOps ws ++ wrOps [hdW x root] := by
 unfold zaz;rw [if_neg h];rfl
theorem zev {x : Ix} {ws : List PW} (root : Int) (h : ws ≠ []) {D : Dsk} {e : Int} (hp : perfP x.disk (wrOps ws) = (D, e)) (he : e ≠ 0) : perfP x.disk (zaz x ws root) = (D, e) := by
 rw [zcR root h, zg1, hp, if_pos he]
theorem ze0 {x : Ix} {ws : List PW} (root : Int) (h : ws ≠ []) {D : Dsk} (hp : perfP x.disk (wrOps ws) = (D, 0)) : perfP x.disk (zaz x ws root) = perfP D (wrOps [hdW x root]) := by
 rw [zcR root h, zg1, hp, if_neg (by simp)]
def slO : Value -> Option Addr | .slice o _ _ => o | _ => none
def slC : Value -> Nat | .slice _ _ c => c | _ => 0
def annFr (L : List Int) : Ann := ⟨fun r => .slice (slO (r.x 0)) L.length (slC (r.x 0)), fun r W => SlW (slO (r.x 0)) L.length (slC (r.x 0)) /\ IntsT W (slO (r.x 0)) L⟩
theorem lz_fr {f : FuncId} {args : Array Value} {L : List Int} {W : World} (h : Calls Tryz.prog f args W fun e w' => ∃ o c, e = .returned (.slice o L.length c) /\ w'.ownsRow W.heap.size 3 1 (.slice o L.length c) L.length (intsV L) /\ Below W.heap.size W w') :
  Calls Tryz.prog f args W fun e w' => ∃ u, e = .returned u /\ zcL (annFr L) W u w' :=
 h.mono fun _ w' ⟨o, c, he, ho, hb⟩ => ⟨_, he, hb, fun _ => .slice o L.length c, rfl, fun w'' hb' => ⟨by
  obtain ⟨o', c', e, hs, -, -⟩ := zai ho;obtain ⟨rfl, rfl⟩ : o = o' /\ c = c' := by simpa using e
  exact hs, (IntsT.own ho).below hb'⟩⟩
def annNx (frm til ver : Int) (L : List Int) : Ann := ⟨fun r => .agg #[.int .i64 0, .slice none 0 0, .slice none 0 0, .int .i64 0, .int .i64 frm, .int .i64 til, .int .i64 ver, .int .i64 0, .slice (slO (r.x 0)) L.length (slC (r.x 0))], fun r W => SlW (slO (r.x 0)) L.length (slC (r.x 0)) /\ IntsT W (slO (r.x 0)) L⟩
def zhv (t : TypeId) (cs : Array Value) : Ann := ⟨fun r => .pointer (some ⟨r.lo, 0, none⟩), fun r W => Bx W r.lo cs t⟩
theorem zmm {cs : Array Value} {t : TypeId} (w : World) : zcL (zhv t cs) w (.pointer (some ⟨w.heap.size, 0, none⟩)) (w.alloc (.cells cs t)) :=
 ⟨Below.one _ _, fun _ => undef, rfl, fun _ hb => (Bx.new w cs t).belowAll hb⟩
structure TailS (w W : World) (C CP : Array Value) (N pb : Nat) (o : Option Addr) (c : Nat) (ws : List PW) : Prop where
 xN : Bx W N C 33
 xR : Bx W (N + 1) ixZ 33
 xP : Bx W pb CP 121
 below : Below w.heap.size w W
 pw : PWsAt (· < W.heap.size) W o ws
 hw : w.heap.size = N
theorem PWsAt.only {w w' : World} {o : Option Addr} {l : List PW} {r : Nat} {cs : Array Value} {t : TypeId} (h : PWsAt (· < w.heap.size) w o l) (hx : Bx w r cs t) (hn : NoS cs) (ho : Only r w w') : PWsAt (· < w'.heap.size) w' o l := by
 have h2 := h.apart hx hn;refine PWsAt.mono (S := fun b => b < w.heap.size /\ b ≠ r) ?_ (fun b hb => znL hb.1 ho.1);intro i hi;obtain ⟨b, off, e, hc, hd, hs⟩ := h2 i hi;have e1 := ho.2 b hs.2;exact ⟨b, off, e, by rw [<- hc]; simp [World.cell?, e1], by rw [<- hd]; simp [World.cell?, e1], hs⟩
section
variable {w W W' : World} {C CP : Array Value} {N pb : Nat} {o : Option Addr} {c : Nat} {ws : List PW}
theorem TailS.next (h : TailS w W C CP N pb o c ws) (hb : Below W.heap.size W W') : TailS w W' C CP N pb o c ws :=
 ⟨h.xN.belowAll hb, h.xR.belowAll hb, h.xP.belowAll hb, btr h.below hb, (h.pw.below hb).mono fun _ hy => znL hy hb.size, h.hw⟩
theorem TailS.only (h : TailS w W C CP N pb o c ws) {r : Nat} {cs : Array Value} {t : TypeId} (hx : Bx W r cs t) (hn : NoS cs) (ho : Only r W W') (hb : Below w.heap.size w W') (h1 : r ≠ N) (h2 : r ≠ N + 1) (h3 : r ≠ pb) : TailS w W' C CP N pb o c ws :=
 ⟨h.xN.only ho (fun e => h1 e.symm), h.xR.only ho (fun e => h2 e.symm), h.xP.only ho (fun e => h3 e.symm), hb, h.pw.only hx hn ho, h.hw⟩
end
end Go.Proofs.YtlefmmhlpgmbjaaGreat
