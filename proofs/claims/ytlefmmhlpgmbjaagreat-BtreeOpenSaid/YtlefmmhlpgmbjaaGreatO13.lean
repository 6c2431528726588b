/- Lazy's law where one operation of the head (a pure one, q) may also stand behind the first operation behind the head. quiltref42.perform, Format, Great. -/
import Derived.Test.YtlefmmhlpgmbjaaGreatO12
import Derived.Test.YtlefmmhlpgmbjaaGreatO06
import Derived.Test.YtlefmmhlpgmbjaaGreatO01
namespace Go.Proofs.YtlefmmhlpgmbjaaGreat
set_option maxRecDepth 100000
open Go.RowKit
section
variable {P : Program} {ops : Array Oper} {md : Region.Mode} {W0 : World} {an : Anns}
def AOd (P : Program) (ops : Array Oper) (md : Region.Mode) (an : Anns) (W0 : World) (n q : Nat) (dl : Array Bool) (L : Array Bool -> Recs -> Act -> Prop) : Nat -> Array Bool -> Recs -> Act -> Prop
 | 0, listed, ξ, a => L listed ξ a
 | f + 1, listed, ξ, a => Region.ready md ops listed ≠ [] /\ (listed ≠ dl -> ∀ i ∈ Region.ready md ops listed, i < n) /\ (listed = dl -> q ∈ Region.ready md ops listed) /\
  ∀ i ∈ Region.ready md ops listed, i < n -> ∀ o, ops[i]? = some o -> StepK P ops md an W0 i o ξ a (AOd P ops md an W0 n q dl L f (listed.setIfInBounds i true))
def lateB (md : Region.Mode) (ops : Array Oper) (n q : Nat) : Bool := (List.range ops.size).all fun t => decide (t < n) || (List.range n).all fun i => decide (i = q) || (pastB md ops 8 [t]).contains i
structure zcc (md : Region.Mode) (ops : Array Oper) (n : Nat) (listed : Array Bool) : Prop extends Closed md ops n listed where
 head : ∀ j, n <= j -> listed.getD j false = false
theorem zcc.set {n i : Nat} {listed : Array Bool} (inv : zcc md ops n listed) (hi : i ∈ Region.ready md ops listed) (hn : i < n) : zcc md ops n (listed.setIfInBounds i true) :=
 ⟨inv.toClosed.set hi, fun j hj => by rw [getD_set_ne false (by omega)]; exact inv.head j hj⟩
theorem zkf {n i q : Nat} {dl : Array Bool} {oi : Oper} {S : Option Rec -> Value -> Prop} {L : Array Bool -> Recs -> Act -> Prop} (hi : ops[i]? = some oi) (hsel : ∀ (j : Nat) (o : Oper) cs b, ops[j]? = some o -> o.op ≠ .select cs b)
  (hs : lateB md ops n q = true) (hin : i < n) (hdl : dl.size = ops.size) (hdq : ∀ j, dl.getD j false = (decide (j < n) && decide (j ≠ q))) (hqn : q < n) (hdone : ∀ listed ξ a, L listed ξ a -> ∀ j ∈ Region.ready md ops listed, n <= j) :
  ∀ (f : Nat) (listed : Array Bool) (ξ : Recs) (a : Act), zcc md ops n listed ->
   (∀ j oj, ops[j]? = some oj -> j ≠ i -> listed.getD j true = false -> (∀ e ∈ oj.after, Region.binds md e = true -> e.on ≠ i) -> oi.apart ops oj = true) ->
   i ∈ Region.ready md ops listed -> Outs P ops md an W0 i oi ξ a S ->
   (∀ ρ v, S ρ v -> AOd P ops md an W0 n q dl L f (listed.setIfInBounds i true) (upr ξ i ρ) (a.put oi.dst v)) -> AOd P ops md an W0 n q dl L (f + 1) listed ξ a := by
 intro f;have late : ∀ (listed : Array Bool), zcc md ops n listed -> i ∈ Region.ready md ops listed -> ∀ j ∈ Region.ready md ops listed, n <= j -> i = q /\ listed = dl := by
  intro listed inv hr j hj hn;have hlt : j < ops.size := by obtain ⟨_, oj, hoj, _⟩ := mem_ready.1 hj; exact (Array.getElem?_eq_some_iff.1 hoj).1
  have h1 := List.all_eq_true.1 hs j (List.mem_range.2 hlt);simp only [Bool.or_eq_true, decide_eq_true_eq] at h1;have hall : ∀ k, k < n -> k ≠ q -> listed.getD k false = true := by
   intro k hk hkq;rcases h1 with h1 | h1
   . omega
   .
    have h2 := List.all_eq_true.1 h1 k (List.mem_range.2 hk);simp only [Bool.or_eq_true, decide_eq_true_eq] at h2;rcases h2 with h2 | h2
    . exact absurd h2 hkq
    .
     rcases zaN hj inv.closed h2 with h3 | h3
     . omega
     . exact h3
  have hiq : i = q := by
   rcases Nat.decEq i q with h | h
   . have := hall i hin h;rw [getD_both (mem_ready.1 hr).1] at this;cases this
   . exact h
  refine ⟨hiq, ?_⟩;have key : ∀ k, listed.getD k false = dl.getD k false := by
   intro k;rw [hdq]
   by_cases hk : k < n
   .
    by_cases hkq : k = q
    . subst hkq; subst hiq;rw [getD_both (mem_ready.1 hr).1];simp
    . rw [hall k hk hkq]; simp [hk, hkq]
   . rw [inv.head k (by omega)]; simp [hk]
  apply Array.ext
  . rw [inv.size, hdl]
  . intro k h1 h2;have := key k;simpa [Array.getD, h1, h2] using this
 have only : ∀ (listed : Array Bool), listed = dl -> ∀ j ∈ Region.ready md ops listed, j < n -> j = q := by
  intro listed e j hj hn;subst e;rcases Nat.decEq j q with h | h
  . have h0 := (mem_ready.1 hj).1;have := hdq j;rw [getD_both h0] at this;simp [hn, h] at this
  . exact h
 have lt_of : ∀ (listed : Array Bool), zcc md ops n listed -> i ∈ Region.ready md ops listed -> listed ≠ dl -> ∀ j ∈ Region.ready md ops listed, j < n := by
  intro listed inv hr hne j hj;rcases Nat.lt_or_ge j n with h | h
  . exact h
  . exact absurd (late listed inv hr j hj h).2 hne
 induction f with
 | zero =>
  intro listed ξ a inv _ hr hy H;refine ⟨fun h => (by rw [h] at hr; cases hr), lt_of listed inv hr, fun e => by rw [<- only listed e i hr hin]; exact hr, fun j hj hjn oj hoj => ?_⟩
  by_cases hji : j = i
  . subst hji;obtain rfl : oj = oi := Option.some.inj (hoj.symm.trans hi);exact ⟨S, hy, H⟩
  . obtain ⟨ρ, v, hs⟩ := hy.some;have := hdone _ _ _ (H ρ v hs) j (ready_mono hj hji);omega
 | succ f ih =>
  intro listed ξ a inv hfree hr hy H;refine ⟨fun h => (by rw [h] at hr; cases hr), lt_of listed inv hr, fun e => by rw [<- only listed e i hr hin]; exact hr, fun j hj hjn oj hoj => ?_⟩
  by_cases hji : j = i
  . subst hji;obtain rfl : oj = oi := Option.some.inj (hoj.symm.trans hi);exact ⟨S, hy, H⟩
  .
   obtain ⟨hjun, oj', hoj', hall⟩ := mem_ready.1 hj;obtain rfl : oj' = oj := Option.some.inj (hoj'.symm.trans hoj);have hun := (mem_ready.1 hr).1;have hnot : ∀ e ∈ oj'.after, Region.binds md e = true -> e.on ≠ i := fun e he hb heq => by have h1 := hall e he hb;rw [heq, getD_both hun] at h1;cases h1
   have hri : zbl md ops i j = false := by
    cases h : zbl md ops i j with
    | false => rfl
    | true =>
     rcases zaN hr inv.closed h with h2 | h2
     . exact absurd h2 hji
     . rw [getD_both hjun] at h2; cases h2
   have hrj : zbl md ops j i = false := by
    cases h : zbl md ops j i with
    | false => rfl
    | true =>
     rcases zaN hj inv.closed h with h2 | h2
     . exact absurd h2.symm hji
     . rw [getD_both hun] at h2; cases h2
   have hfree' : ∀ k ok, ops[k]? = some ok -> k ≠ i -> (listed.setIfInBounds j true).getD k true = false ->
     (∀ e ∈ ok.after, Region.binds md e = true -> e.on ≠ i) -> oi.apart ops ok = true := fun k ok hk hki hun hno => by
    refine hfree k ok hk hki ?_ hno
    by_cases hjk : j = k
    . subst hjk; exact hjun
    . rw [getD_set_ne true hjk] at hun; exact hun
   refine (StepK.swap (Ne.symm hji) (hfree j oj' hoj hji hjun hnot) (fun cs b => hsel i oi cs b hi) (fun cs b => hsel j oj' cs b hoj) hri hrj hy fun ρ v hs => (H ρ v hs).2.2.2 j (ready_mono hj hji) hjn oj' hoj).mono ?_;rintro ξ' a' ⟨h1, h2⟩;refine ih (listed.setIfInBounds j true) ξ' a' (inv.set hj hjn) hfree' (ready_mono hr (Ne.symm hji)) h1 fun ρ v hs => ?_;rw [Array.setIfInBounds_comm _ _ hji];exact h2 ρ v hs
theorem zjV {n q : Nat} {dl : Array Bool} {Lq : Recs -> Act -> Prop} (hsel : Region.noSelect ops = true) (hs : lateB md ops n q = true) (hdl : dl.size = ops.size) (hdq : ∀ j, dl.getD j false = (decide (j < n) && decide (j ≠ q))) (hqn : q < n) (hno : n <= ops.size) (done : Array Bool) (hdn : (Region.ready md ops done).all (fun j => decide (n <= j)) = true) :
  ∀ (l : List Oper) (k : Nat) (listed : Array Bool) (ξ : Recs) (a : Act), (∀ j, j < l.length -> l[j]? = ops[k + j]?) -> k + l.length = n -> zcc md ops n listed -> setTo listed l.length k = done ->
  zbb md ops n l.length k listed = true -> LW P ops md an W0 Lq l k ξ a -> AOd P ops md an W0 n q dl (fun listed' ξ' a' => listed' = done /\ Lq ξ' a') l.length listed ξ a
 | [], k, listed, ξ, a, _, _, _, hd, _, h => ⟨hd, h⟩
 | o :: l, k, listed, ξ, a, hl, hk, inv, hd, hB, h => by
  have h0 : ops[k]? = some o := by simpa using (hl 0 (by simp)).symm
  simp only [zlC, zbb, Bool.and_eq_true] at hB;obtain ⟨⟨hr, hf⟩, hB'⟩ := hB;have hkn : k < n := by simp only [zlC] at hk; omega
  have hr' : k ∈ Region.ready md ops listed := by simpa using hr
  obtain ⟨S, hS, hK⟩ := h;refine zkf h0 (Region.noSelect_spec hsel) hs hkn hdl hdq hqn (fun listed' _ a' hL j hj => ?_) l.length listed ξ a inv (Region.free_spec h0 hf) hr' hS fun ρ v hs' => ?_
  . rw [hL.1] at hj; exact of_decide_eq_true (List.all_eq_true.1 hdn j hj)
  . exact zjV hsel hs hdl hdq hqn hno done hdn l (k + 1) _ _ _ (fun j hj => by have := hl (j + 1) (by simp; omega); simpa [Nat.add_assoc, Nat.add_comm 1 j] using this) (by simp only [zlC] at hk; omega) (inv.set hr' hkn) (by simpa [setTo] using hd) hB' (hK ρ v hs')
theorem zbq {n q g : Nat} {dl : Array Bool} {oq : Oper} {L : Array Bool -> Recs -> Act -> Prop} {Q' : Exit -> Act -> World -> Prop} (hoq : ops[q]? = some oq) (hqn : q < n) (hsel : Region.noSelect ops = true) (hfr : Region.free md ops dl q = true) (hnq : an q = none) (hgq : oq.guard = none)
  (hQ : ∀ c a w v, Q' (.panic c) (a.put oq.dst v) w -> Q' (.panic c) a w) (hp : ∀ (ρ : Operand -> Value) w w' v, (execOp ρ oq).run P w = .ok (.value v) w -> (execOp ρ oq).run P w' = .ok (.value v) w')
  (hL : ∀ listed ξ a w, L listed ξ a -> Good an W0 ξ w -> wpAny P md ops Q' g listed a w) :
  ∀ (f : Nat) (listed : Array Bool) (ξ : Recs) (a : Act) (w : World), AOd P ops md an W0 n q dl L f listed ξ a -> Good an W0 ξ w -> wpAny P md ops Q' (f + g) listed a w
 | 0, listed, ξ, a, w, h, hg => by rw [Nat.zero_add]; exact hL _ _ _ _ h hg
 | f + 1, listed, ξ, a, w, h, hg => by
  rw [show f + 1 + g = (f + g) + 1 by omega];obtain ⟨h0, h1, h2, h3⟩ := h
  by_cases he : listed = dl
  .
   have hq := h2 he;obtain ⟨S, hS, hK⟩ := h3 q hq hqn oq hoq;cases hS with
   | skip hw => unfold Region.wanted at hw; rw [hgq] at hw; cases hw
   | quiet v hw hn hr => refine wpAny_take (i := q) (v := v) hoq hsel (by rw [he]; exact hfr) (by simpa using hq) (fun c a w => hQ c a w v) (.inl ⟨hw, fun w' => hp _ w w' v (hr w ⟨⟨w, hg.below⟩, rfl⟩)⟩) ?_;exact zbq hoq hqn hsel hfr hnq hgq hQ hp hL f _ _ _ _ (hK none v ⟨rfl, rfl⟩) hg
   | lzy A hw hn hl => rw [hnq] at hn; cases hn
  .
   refine ⟨fun h => absurd h h0, fun i hi => ?_⟩;obtain ⟨_, oi, hoi, _⟩ := mem_ready.1 hi;obtain ⟨S, hS, hK⟩ := h3 i hi (h1 he i hi) oi hoi;unfold wpOp;simp only [hoi];cases hS with
   | skip hw => rw [if_neg (by rw [hw]; exact Bool.false_ne_true)];exact zbq hoq hqn hsel hfr hnq hgq hQ hp hL f _ _ _ _ (hK none undef ⟨rfl, rfl⟩) hg
   | quiet v hw hn hr => rw [if_pos hw];left;unfold Oper.wp;rw [hr w ⟨⟨w, hg.below⟩, rfl⟩];exact zbq hoq hqn hsel hfr hnq hgq hQ hp hL f _ _ _ _ (hK none v ⟨rfl, rfl⟩) hg
   | lzy A hw hn hl => rw [if_pos hw];left;refine ziX (hl w hg.below fun j _ => hg.fact j) ?_;rintro v w' ⟨hb, x, rfl, hΦ⟩;exact zbq hoq hqn hsel hfr hnq hgq hQ hp hL f _ _ _ _ (hK _ _ ⟨_, rfl, rfl⟩) (hg.add hb hn hΦ)
def zg1 (md : Region.Mode) (ops : Array Oper) (n q : Nat) (dl : Array Bool) : Bool := Region.noSelect ops && lateB md ops n q && zbb md ops n n 0 (Array.replicate ops.size false) && Region.free md ops dl q && decide (dl.size = ops.size) && decide (q < n) && decide (n <= ops.size) && ((List.range ops.size).all fun j => dl.getD j false == (decide (j < n) && decide (j ≠ q)))
theorem zaZ {id : Nat} {Q : Exit -> Act -> World -> Prop} {a : Act} {w : World} {l : List Oper} (n q g : Nat) (dl done : Array Bool) (an : Anns) (oq : Oper) (hm : P.follows .mixedOrders = true) (hoq : l.toArray[q]? = some oq) (hn : l.length = n + g) (hd : setTo (Array.replicate l.length false) n 0 = done) (hB : zg1 .any l.toArray n q dl = true)
  (hnq : an q = none) (hgq : oq.guard = none) (hQ : ∀ c a w v, Q (.panic c) (a.put oq.dst v) w -> Q (.panic c) a w) (hp : ∀ (ρ : Operand -> Value) w w' v, (execOp ρ oq).run P w = .ok (.value v) w -> (execOp ρ oq).run P w' = .ok (.value v) w')
  (h : LW P l.toArray .any an w (fun ξ a' => ∀ w', Good an w ξ w' -> wpAny P .any l.toArray Q g done a' w') (l.take n) 0 (fun _ => none) a) : (Code.region id l.toArray true).wp P Q a w := by
 simp only [zg1, Bool.and_eq_true, decide_eq_true_eq] at hB;obtain ⟨⟨⟨⟨⟨⟨⟨hsel, hs⟩, hlex⟩, hfr⟩, hdl⟩, hqn⟩, hno⟩, hall⟩ := hB;have hdq : ∀ j, dl.getD j false = (decide (j < n) && decide (j ≠ q)) := by
  intro j
  by_cases hj : j < l.toArray.size
  . have := List.all_eq_true.1 hall j (List.mem_range.2 hj);simpa using this
  .
   have : dl.getD j false = false := by simp [Array.getD, show ¬ j < dl.size by omega]
   rw [this]
   simp; omega
 have htl : (l.take n).length = n := by simp; omega
 have inv0 : zcc .any l.toArray n (Array.replicate l.toArray.size false) := ⟨⟨by simp, fun j oj _ hl => (by rw [getD_replicate_false] at hl; cases hl)⟩, fun j _ => getD_replicate_false _ _⟩;have hdn := zbs _ _ _ hlex;have H := zjV (md := .any) hsel hs hdl hdq hqn hno _ hdn (l.take n) 0 _ _ a (fun j hj => by
  have hj' : j < n := by rw [htl] at hj; exact hj
  simp [hj']) (by simpa using htl) inv0 (by rw [htl]) (by rw [htl]; exact hlex) h
 refine wp_region_any hm ?_;simp only [List.size_toArray] at H;have := zbq (g := g) (Q' := Q) (w := { w with drawn := w.drawn + 1 }) hoq hqn hsel hfr hnq hgq hQ hp (fun listed ξ a' w' hL hg => ?_) _ _ _ _ H (Good.start an ((Below.refl _ w).drew))
 . rw [htl] at this;rw [List.size_toArray, hn];simpa [hn] using this
 . rw [hL.1, hd];exact hL.2 w' hg
theorem zbe {o : Oper} (x : Operand) (k : Nat) (h : o.op = .extract x k) (ρ : Operand -> Value) (w w' : World) (v : Value) (hr : (execOp ρ o).run P w = .ok (.value v) w) : (execOp ρ o).run P w' = .ok (.value v) w' := by
 unfold execOp at hr |-;rw [h] at hr |-;dsimp only at hr |-;rw [Sem.run_bind] at hr |-;cases hx : ρ x with
 | tuple vs =>
  rw [hx] at hr;unfold Instr.extract at hr |-;cases hv : vs[k]? with
  | none => simp [hv, Result.andThen] at hr
  | some u =>
   simp only [hv, Sem.run_pure, Result.andThen_ok] at hr |-;injection hr with h1 _
   rw [h1]
 | _ => rw [hx] at hr;unfold Instr.extract at hr;simp [Result.andThen] at hr
end
end Go.Proofs.YtlefmmhlpgmbjaaGreat
namespace Go.Proofs.YtlefmmhlpgmbjaaGreat
set_option maxRecDepth 100000
open Go.RowKit Go.Shelf
theorem zf4 (d : Dsk) (v : Value) (i : Int) (data : ByteArray) (w : World) (hD : DskV w v d) (hd : data.size <= 140737488351232) (hn : d.cache.length <= 1000000) {A : Dsk} {er : Int} (he : zaK d i data = (A, er)) :
  Calls Tryz.prog 88 #[v, .int .i64 i, .string data] w (RetVE w A er) := by
 refine (zia d v i data w (zdt w) hD hd hn).mono ?_;rintro e w' ⟨v', rfl, h, hb⟩;rw [he] at h |-;exact ⟨v', rfl, .of h (zgQ hb), hb⟩
theorem zif (d : Dsk) (v : Value) (w : World) (hD : DskV w v d) {A : Dsk} {er : Int} (he : zaR d = (A, er)) :
  Calls Tryz.prog 87 #[v] w (RetVE w A er) := by
 refine (zh1 d v w (zdt w) hD).mono ?_;rintro e w' ⟨v', rfl, h, hb⟩;rw [he] at h |-;exact ⟨v', rfl, .of h (zgQ hb), hb⟩
def pfOps (n : Nat) : Nat -> List PW -> List DOp
 | _, [] => [.fl]
 | k, x :: r => (if k = n /\ 0 < n then [.fl] else []) ++ .wr x.page x.data :: pfOps n (k + 1) r
theorem zgt {n : Nat} : ∀ {l : List PW} {k : Nat}, n < k \/ n = 0 -> pfOps n k l = wrOps l
 | [], _, _ => rfl
 | x :: r, k, h => by rw [pfOps, if_neg (by omega), zgt (l := r) (k := k + 1) (by omega)];rfl
theorem zmr (d : Dsk) (r : List DOp) : perfP d (.fl :: r) = if (zaR d).2 ≠ 0 then zaR d else perfP (zaR d).1 r := rfl
theorem zhR (d : Dsk) (i : Int) (s : ByteArray) (r : List DOp) : perfP d (.wr i s :: r) = if (zaK d i s).2 ≠ 0 then zaK d i s else perfP (zaK d i s).1 r := rfl
theorem zlH (d : Dsk) : (zaR d).1.cache.length <= d.cache.length + 1 := zda (o := .fl)
theorem zf6 (d : Dsk) (i : Int) (s : ByteArray) : (zaK d i s).1.cache.length <= d.cache.length + 1 := zda (o := .wr i s)
set_option maxRecDepth 100000 in
set_option maxHeartbeats 4000000 in
theorem zi7 (d : Dsk) (v : Value) (ws : List PW) (o : Option Addr) (c n : Nat) (w : World) (hD : DskV w v d) (ho : PWsAt (· < w.heap.size) w o ws) (hs : SlW o ws.length c) (hz : ∀ x ∈ ws, x.data.size <= 140737488351232) (hn : d.cache.length + 2 * ws.length <= 1000000) :
  Calls Tryz.prog 50 #[v, .slice o ws.length c, .int .i64 n] w (RetVE w (perfP d (pfOps n 0 ws)).1 (perfP d (pfOps n 0 ws)).2) := by
 have hD0 := hD;obtain ⟨po, pc, co, cc, rfl⟩ := hD.agg;obtain ⟨N, hN⟩ : ∃ N, w.heap.size = N := ⟨_, rfl⟩;obtain ⟨p, hp⟩ : ∃ p, perfP d (pfOps n 0 ws) = p := ⟨_, rfl⟩;rw [hp];obtain ⟨m, hm⟩ : ∃ m, ws.length = m := ⟨_, rfl⟩;have hcap : m <= c := by rcases hs with ⟨_, h, _⟩ | ⟨_, _, h, _⟩ <;> omega
 rw [hm] at hn |-;have Hm := zhI hm;clear hm;go_enter Tryz.func50, Tryz.ntmps50;go_wp2;have x0 : Bx ((w.alloc (.cells (dC d po co pc cc) 25)).alloc (.cells dZ 25)) N (dC d po co pc cc) 25 := by subst hN; exact (Bx.new w _ _).alloc _
 have x1 : Bx ((w.alloc (.cells (dC d po co pc cc) 25)).alloc (.cells dZ 25)) (N + 1) dZ 25 := by subst hN; exact Bx.newAt _ _ _ _ (by simp)
 have hB0 : Below w.heap.size w ((w.alloc (.cells (dC d po co pc cc) 25)).alloc (.cells dZ 25)) := (Below.one w _).alloc (by simp) _;have hV0 := hD0.below hB0;generalize ((w.alloc (.cells (dC d po co pc cc) 25)).alloc (.cells dZ 25)) = W0 at *
 go_loopw [8, 9] (fun ev t wr => ∃ (k : Nat) (dk : Dsk) (er : Int) (po pc co cc : _), k <= m /\ t = .int .i64 k /\ ev = .int .i64 er /\ Below w.heap.size w wr /\
  Bx wr N (dC dk po co pc cc) 25 /\ Bx wr (N + 1) dZ 25 /\ DskV wr (.agg (dC dk po co pc cc)) dk /\ dk.cache.length <= d.cache.length + 2 * k /\ Hid ((er = 0 /\ perfP dk (pfOps n k (ws.drop k)) = p) \/ (er ≠ 0 /\ (dk, er) = p))) (fun _ t _ => m - (intOf t).toNat)
 case atStart => exact ⟨0, d, 0, po, pc, co, cc, Nat.zero_le _, rfl, rfl, hB0, x0, x1, hV0, by omega, zhI (.inl ⟨rfl, hp⟩)⟩
 case round =>
  clear x0 x1 hV0 hB0 hD0;obtain ⟨k, dk, er, po, pc, co, cc, hk, rfl, rfl, hb, xX, xR, hV, hc, hpk⟩ := hrel;have hzb := hb.size
  by_cases he0 : er = 0
  rotate_left
  .
   have gp : (dk, er) = p := by rcases hpk.out with h | h; exact absurd h.1 he0; exact h.2
   subst gp;have hne : (er == 0) = false := by simpa using he0
   have hne2 : (er != 0) = true := by simpa using he0
   have cX := xX.cell;unfold dC at cX;have lX := xX.lt;have cR := xR.cell;have lR := xR.lt;have fR := xR.free;have HB := zhI (zai (b := N + 1) (v0 := .int .i64 dk.size) (v1 := .slice po dk.pages.length pc) (v2 := .slice co dk.cache.length cc) (v3 := .int .i64 dk.left) hb (by omega));have HX := zhI (xR.set4 (v0 := .int .i64 dk.size) (v1 := .slice po dk.pages.length pc) (v2 := .slice co dk.cache.length cc) (v3 := .int .i64 dk.left));have HM := zhI (hV.only xR zff (Only.four (v0 := .int .i64 dk.size) (v1 := .slice po dk.pages.length pc) (v2 := .slice co dk.cache.length cc) (v3 := .int .i64 dk.left)));clear xR hV hb xX he0 hpk hc
   by_cases hkm : k < m
   . go_wp2;have cZ := HX.out.cell;refine bodyPost_ret (v := .tuple #[.agg (dC dk po co pc cc), .int .i64 er]) (by simp [results, Tryz.results50, go_sem, cZ]) rfl ?_;exact ⟨_, rfl, HM.out, HB.out⟩
   . go_wp2;have cZ := HX.out.cell;refine bodyPost_ret (v := .tuple #[.agg (dC dk po co pc cc), .int .i64 er]) (by simp [results, Tryz.results50, go_sem, cZ]) rfl ?_;exact ⟨_, rfl, HM.out, HB.out⟩
  subst he0;have hpk1 : perfP dk (pfOps n k (ws.drop k)) = p := by rcases hpk.out with h | h; exact h.2; exact absurd rfl h.1
  by_cases hlt : k < m
  .
   have hlk : k < ws.length := by rw [Hm.out]; exact hlt
   have hdz := hz _ (List.getElem_mem hlk);rw [List.drop_eq_getElem_cons hlk, pfOps] at hpk1;obtain ⟨⟨pg, dt⟩, hx⟩ : ∃ x : PW, ws[k] = x := ⟨_, rfl⟩;rw [hx] at hdz hpk1;simp only at hdz hpk1;have Hx := zhI hx;clear hpk hx
   by_cases hkn : k = n
   .
    subst hkn
    by_cases hk0 : 0 < k
    .
     rw [if_pos ⟨rfl, hk0⟩, List.singleton_append, zmr] at hpk1;obtain ⟨A0, e0, he0⟩ : ∃ A e, zaR dk = (A, e) := ⟨_, _, rfl⟩;have hAc0 : A0.cache.length <= dk.cache.length + 1 := by have := zlH dk; rw [he0] at this; exact this
     rw [he0] at hpk1;have cX := xX.cell;unfold dC at cX;have lX := xX.lt;have hcall := zif dk _ wr hV he0;have Hcall := zhI hcall;have Hpk := zhI hpk1;clear hcall he0 hpk1 hV;go_wp2_with fail;refine Hcall.out.mono ?_;rintro e wf ⟨v1, rfl, hM1, hbf⟩;have hM2 := hM1;obtain ⟨po1, pc1, co1, cc1, rfl⟩ := hM1.agg;have y0 := xX.belowAll hbf;have y1 := xR.belowAll hbf;have hBf := btr hb hbf;have hzf := hBf.size;clear cX lX Hcall hM1 hbf;obtain ⟨w1, hw1⟩ : ∃ w1, (((wf.setCell ⟨N, 0, none⟩ (.int .i64 A0.size)).setCell ⟨N, 1, none⟩ (.slice po1 A0.pages.length pc1)).setCell ⟨N, 2, none⟩ (.slice co1 A0.cache.length cc1)).setCell ⟨N, 3, none⟩ (.int .i64 A0.left) = w1 := ⟨_, rfl⟩;have hB1 := hw1 ▸ (zai (b := N) (v0 := .int .i64 A0.size) (v1 := .slice po1 A0.pages.length pc1) (v2 := .slice co1 A0.cache.length cc1) (v3 := .int .i64 A0.left) hBf (by omega));have x1 := hw1 ▸ (y0.set4 (v0 := .int .i64 A0.size) (v1 := .slice po1 A0.pages.length pc1) (v2 := .slice co1 A0.cache.length cc1) (v3 := .int .i64 A0.left));have xR1 := hw1 ▸ (y1.setO4 (b' := N) (v0 := .int .i64 A0.size) (v1 := .slice po1 A0.pages.length pc1) (v2 := .slice co1 A0.cache.length cc1) (v3 := .int .i64 A0.left) (by omega));have hV1 := hw1 ▸ (hM2.only y0 (zcF _ _ _ _ _) (Only.four (v0 := .int .i64 A0.size) (v1 := .slice po1 A0.pages.length pc1) (v2 := .slice co1 A0.cache.length cc1) (v3 := .int .i64 A0.left)));have cX := y0.cell;unfold dC at cX;have lX := y0.lt;have fX := y0.free;have Hw1 := zhI hw1;clear hw1 y0 y1 hM2 hBf xX xR hb;go_upto_region 7 with fail
     rw [Hw1.out];clear cX lX fX
     by_cases h0 : e0 = 0
     .
      subst h0;have hpw : perfP A0 (.wr pg dt :: pfOps k (k + 1) (ws.drop (k + 1))) = p := by have := Hpk.out; simpa using this
      clear Hpk Hw1;obtain ⟨b, off, rfl, c0, c1, hbs⟩ := (ho.below hB1) k hlk;rw [Hx.out] at c0 c1;simp only at c0 c1;have lb : b < w1.heap.size := znL hbs hB1.size;clear hbs;obtain ⟨A, er, he⟩ : ∃ A er, zaK A0 pg dt = (A, er) := ⟨_, _, rfl⟩;have hAc : A.cache.length <= A0.cache.length + 1 := by have := zf6 A0 pg dt; rw [he] at this; exact this
      have hnext : (er = 0 /\ perfP A (pfOps k (k + 1) (ws.drop (k + 1))) = p) \/ (er ≠ 0 /\ (A, er) = p) := by
       rw [zhR, he] at hpw
       by_cases h : er = 0
       . left; refine ⟨h, ?_⟩; rw [if_neg (by simp [h])] at hpw; exact hpw
       . right; refine ⟨h, ?_⟩; rw [if_pos h] at hpw; exact hpw
      have Hnext := zhI hnext;have hwr := fun W (hb : Below w1.heap.size w1 W) => zf4 A0 _ pg dt W (hV1.below hb) hdz (by omega) he;have Hwr := zhI hwr;have hz1 := hB1.size;clear hnext hpw hwr he;have cX := x1.cell;unfold dC at cX;have lX := x1.lt;have cQ := Lat.cells w1;have HBr : Hid (∀ x : Lat w1, Below w1.heap.size w1 x.w) := zhI (fun x => x.h);go_upto_region 8 with fail
      refine zaZ 15 14 2 #[true, true, true, true, true, true, true, true, true, true, true, true, true, true, false, false, false] #[true, true, true, true, true, true, true, true, true, true, true, true, true, true, true, false, false] (fun i => if i = 11 then some (annDE A er) else none) _ (by kernel_rfl) rfl (by rfl) (by rfl) (by kernel_rfl) (by rfl) rfl (fun _ _ _ _ h => h) (zbe _ _ rfl) ?_;simp only [List.take_succ_cons, List.take_zero];refine LW.block 11 11 (by rfl) (by kernel_rfl) (by kernel_rfl) ?_;simp only [ztP]
      repeat (first | go_big_quiet_skip | (go_big_quiet_want; go_big_quiet_op; go_big_quiet_on))
      refine wpQuiet_nil ?_;refine LW.lzy _ (by rfl) (by rfl) ?_ ?_
      . intro yL _;unfold lzAt;go_simp;exact lz_de (Hwr.out _ (HBr.out _))
      intro r11;simp only [Act.put, zsP, annDE];refine LW.block 3 15 (by rfl) (by kernel_rfl) (by kernel_rfl) ?_;simp only [ztP]
      repeat (first | go_big_quiet_skip | (go_big_quiet_want; go_big_quiet_op; go_big_quiet_on))
      refine wpQuiet_nil ?_;refine LW.done ?_;intro w3 hG;have hR11 : DskV w3 (r11.x 0) A := hG.get 11 rfl rfl;have hG2 := hG.below;have hM1 := hR11;obtain ⟨po1, pc1, co1, cc1, e11⟩ := hR11.agg;rw [e11] at hM1 |-;have y0 := x1.belowAll hG2;have y1 := xR1.belowAll hG2;have hB3 := btr hB1 hG2;clear hG cQ HBr Hwr hG2 cX lX c0 c1 xR1 x1;have cX := y0.cell;unfold dC at cX;have lX := y0.lt;have fX := y0.free;have hz3 := hB3.size;have hSB := zhI (zai (b := N) (v0 := .int .i64 A.size) (v1 := .slice po1 A.pages.length pc1) (v2 := .slice co1 A.cache.length cc1) (v3 := .int .i64 A.left) hB3 (by omega));have hSX := zhI (y0.set4 (v0 := .int .i64 A.size) (v1 := .slice po1 A.pages.length pc1) (v2 := .slice co1 A.cache.length cc1) (v3 := .int .i64 A.left));have hSR := zhI (y1.setO4 (b' := N) (v0 := .int .i64 A.size) (v1 := .slice po1 A.pages.length pc1) (v2 := .slice co1 A.cache.length cc1) (v3 := .int .i64 A.left) (by omega));have hSM := zhI (hM1.only y0 (zcF _ _ _ _ _) (Only.four (v0 := .int .i64 A.size) (v1 := .slice po1 A.pages.length pc1) (v2 := .slice co1 A.cache.length cc1) (v3 := .int .i64 A.left)));clear y0 y1 hM1 hB3;refine wpAny_ready (rs := [15]) (by kernel_rfl) (by simp) ?_;refine AllReady.cons rfl (fun K hK => ?_) AllReady.nil;go_simp;refine hK _ _ ?_;clear hK K;refine wpAny_ready (rs := [16]) (by kernel_rfl) (by simp) ?_;refine AllReady.cons rfl (fun K hK => ?_) AllReady.nil;go_simp;refine hK _ _ ?_;clear hK K;refine wpAny_done (by kernel_rfl) ?_ _;go_wp2;go_roundw
      case rel => exact ⟨k + 1, A, er, po1, pc1, co1, cc1, by omega, by go_num, rfl, hSB.out, hSX.out, hSR.out, hSM.out, by omega, Hnext⟩
      case measure => simp [intOf]; omega
     .
      have hne : (e0 == 0) = false := by simpa using h0
      have HP : Hid ((e0 = 0 /\ perfP A0 (pfOps k (k + 1) (ws.drop (k + 1))) = p) \/ (e0 ≠ 0 /\ (A0, e0) = p)) := zhI (.inr ⟨h0, by have := Hpk.out; rw [if_pos h0] at this; exact this⟩);have HR1 := zhI (zaI hB1 (zaI x1 (zaI xR1 hV1)));clear hB1 x1 xR1 hV1 h0;go_wp2;go_roundw
      case rel => exact ⟨k + 1, A0, e0, po1, pc1, co1, cc1, by omega, by go_num, rfl, HR1.out.1, HR1.out.2.1, HR1.out.2.2.1, HR1.out.2.2.2, by omega, HP⟩
      case measure => simp [intOf]; omega
    .
     rw [if_neg (by omega), List.nil_append] at hpk1;have hpw := hpk1;have hB1 := hb;have x1 := xX;have xR1 := xR;have hV1 := hV;have hAc0 : dk.cache.length <= dk.cache.length + 1 := by omega
     clear hpk1 hb xX xR hV;obtain ⟨w1, rfl⟩ : ∃ w1, w1 = wr := ⟨_, rfl⟩;obtain ⟨A0, rfl⟩ : ∃ A0, A0 = dk := ⟨_, rfl⟩;obtain ⟨b, off, rfl, c0, c1, hbs⟩ := (ho.below hB1) k hlk;rw [Hx.out] at c0 c1;simp only at c0 c1;have lb : b < w1.heap.size := znL hbs hB1.size;clear hbs;obtain ⟨A, er, he⟩ : ∃ A er, zaK A0 pg dt = (A, er) := ⟨_, _, rfl⟩;have hAc : A.cache.length <= A0.cache.length + 1 := by have := zf6 A0 pg dt; rw [he] at this; exact this
     have hnext : (er = 0 /\ perfP A (pfOps k (k + 1) (ws.drop (k + 1))) = p) \/ (er ≠ 0 /\ (A, er) = p) := by
      rw [zhR, he] at hpw
      by_cases h : er = 0
      . left; refine ⟨h, ?_⟩; rw [if_neg (by simp [h])] at hpw; exact hpw
      . right; refine ⟨h, ?_⟩; rw [if_pos h] at hpw; exact hpw
     have Hnext := zhI hnext;have hwr := fun W (hb : Below w1.heap.size w1 W) => zf4 A0 _ pg dt W (hV1.below hb) hdz (by omega) he;have Hwr := zhI hwr;have hz1 := hB1.size;clear hnext hpw hwr he;have cX := x1.cell;unfold dC at cX;have lX := x1.lt;have cQ := Lat.cells w1;have HBr : Hid (∀ x : Lat w1, Below w1.heap.size w1 x.w) := zhI (fun x => x.h);go_upto_region 8 with fail
     refine zaZ 15 14 2 #[true, true, true, true, true, true, true, true, true, true, true, true, true, true, false, false, false] #[true, true, true, true, true, true, true, true, true, true, true, true, true, true, true, false, false] (fun i => if i = 11 then some (annDE A er) else none) _ (by kernel_rfl) rfl (by rfl) (by rfl) (by kernel_rfl) (by rfl) rfl (fun _ _ _ _ h => h) (zbe _ _ rfl) ?_;simp only [List.take_succ_cons, List.take_zero];refine LW.block 11 11 (by rfl) (by kernel_rfl) (by kernel_rfl) ?_;simp only [ztP]
     repeat (first | go_big_quiet_skip | (go_big_quiet_want; go_big_quiet_op; go_big_quiet_on))
     refine wpQuiet_nil ?_;refine LW.lzy _ (by rfl) (by rfl) ?_ ?_
     . intro yL _;unfold lzAt;go_simp;exact lz_de (Hwr.out _ (HBr.out _))
     intro r11;simp only [Act.put, zsP, annDE];refine LW.block 3 15 (by rfl) (by kernel_rfl) (by kernel_rfl) ?_;simp only [ztP]
     repeat (first | go_big_quiet_skip | (go_big_quiet_want; go_big_quiet_op; go_big_quiet_on))
     refine wpQuiet_nil ?_;refine LW.done ?_;intro w3 hG;have hR11 : DskV w3 (r11.x 0) A := hG.get 11 rfl rfl;have hG2 := hG.below;have hM1 := hR11;obtain ⟨po1, pc1, co1, cc1, e11⟩ := hR11.agg;rw [e11] at hM1 |-;have y0 := x1.belowAll hG2;have y1 := xR1.belowAll hG2;have hB3 := btr hB1 hG2;clear hG cQ HBr Hwr hG2 cX lX c0 c1 xR1 x1;have cX := y0.cell;unfold dC at cX;have lX := y0.lt;have fX := y0.free;have hz3 := hB3.size;have hSB := zhI (zai (b := N) (v0 := .int .i64 A.size) (v1 := .slice po1 A.pages.length pc1) (v2 := .slice co1 A.cache.length cc1) (v3 := .int .i64 A.left) hB3 (by omega));have hSX := zhI (y0.set4 (v0 := .int .i64 A.size) (v1 := .slice po1 A.pages.length pc1) (v2 := .slice co1 A.cache.length cc1) (v3 := .int .i64 A.left));have hSR := zhI (y1.setO4 (b' := N) (v0 := .int .i64 A.size) (v1 := .slice po1 A.pages.length pc1) (v2 := .slice co1 A.cache.length cc1) (v3 := .int .i64 A.left) (by omega));have hSM := zhI (hM1.only y0 (zcF _ _ _ _ _) (Only.four (v0 := .int .i64 A.size) (v1 := .slice po1 A.pages.length pc1) (v2 := .slice co1 A.cache.length cc1) (v3 := .int .i64 A.left)));clear y0 y1 hM1 hB3;refine wpAny_ready (rs := [15]) (by kernel_rfl) (by simp) ?_;refine AllReady.cons rfl (fun K hK => ?_) AllReady.nil;go_simp;refine hK _ _ ?_;clear hK K;refine wpAny_ready (rs := [16]) (by kernel_rfl) (by simp) ?_;refine AllReady.cons rfl (fun K hK => ?_) AllReady.nil;go_simp;refine hK _ _ ?_;clear hK K;refine wpAny_done (by kernel_rfl) ?_ _;go_wp2;go_roundw
     case rel => exact ⟨k + 1, A, er, po1, pc1, co1, cc1, by omega, by go_num, rfl, hSB.out, hSX.out, hSR.out, hSM.out, by omega, Hnext⟩
     case measure => simp [intOf]; omega
   .
    rw [if_neg (fun h => hkn h.1), List.nil_append] at hpk1;have hkf : ((k : Int) == (n : Int)) = false := by simp; omega
    have hpw := hpk1;have hB1 := hb;have x1 := xX;have xR1 := xR;have hV1 := hV;have hAc0 : dk.cache.length <= dk.cache.length + 1 := by omega
    clear hpk1 hb xX xR hV;obtain ⟨w1, rfl⟩ : ∃ w1, w1 = wr := ⟨_, rfl⟩;obtain ⟨A0, rfl⟩ : ∃ A0, A0 = dk := ⟨_, rfl⟩;obtain ⟨b, off, rfl, c0, c1, hbs⟩ := (ho.below hB1) k hlk;rw [Hx.out] at c0 c1;simp only at c0 c1;have lb : b < w1.heap.size := znL hbs hB1.size;clear hbs;obtain ⟨A, er, he⟩ : ∃ A er, zaK A0 pg dt = (A, er) := ⟨_, _, rfl⟩;have hAc : A.cache.length <= A0.cache.length + 1 := by have := zf6 A0 pg dt; rw [he] at this; exact this
    have hnext : (er = 0 /\ perfP A (pfOps n (k + 1) (ws.drop (k + 1))) = p) \/ (er ≠ 0 /\ (A, er) = p) := by
     rw [zhR, he] at hpw
     by_cases h : er = 0
     . left; refine ⟨h, ?_⟩; rw [if_neg (by simp [h])] at hpw; exact hpw
     . right; refine ⟨h, ?_⟩; rw [if_pos h] at hpw; exact hpw
    have Hnext := zhI hnext;have hwr := fun W (hb : Below w1.heap.size w1 W) => zf4 A0 _ pg dt W (hV1.below hb) hdz (by omega) he;have Hwr := zhI hwr;have hz1 := hB1.size;clear hnext hpw hwr he;have cX := x1.cell;unfold dC at cX;have lX := x1.lt;have cQ := Lat.cells w1;have HBr : Hid (∀ x : Lat w1, Below w1.heap.size w1 x.w) := zhI (fun x => x.h);go_upto_region 8 with fail
    refine zaZ 15 14 2 #[true, true, true, true, true, true, true, true, true, true, true, true, true, true, false, false, false] #[true, true, true, true, true, true, true, true, true, true, true, true, true, true, true, false, false] (fun i => if i = 11 then some (annDE A er) else none) _ (by kernel_rfl) rfl (by rfl) (by rfl) (by kernel_rfl) (by rfl) rfl (fun _ _ _ _ h => h) (zbe _ _ rfl) ?_;simp only [List.take_succ_cons, List.take_zero];refine LW.block 11 11 (by rfl) (by kernel_rfl) (by kernel_rfl) ?_;simp only [ztP]
    repeat (first | go_big_quiet_skip | (go_big_quiet_want; go_big_quiet_op; go_big_quiet_on))
    refine wpQuiet_nil ?_;refine LW.lzy _ (by rfl) (by rfl) ?_ ?_
    . intro yL _;unfold lzAt;go_simp;exact lz_de (Hwr.out _ (HBr.out _))
    intro r11;simp only [Act.put, zsP, annDE];refine LW.block 3 15 (by rfl) (by kernel_rfl) (by kernel_rfl) ?_;simp only [ztP]
    repeat (first | go_big_quiet_skip | (go_big_quiet_want; go_big_quiet_op; go_big_quiet_on))
    refine wpQuiet_nil ?_;refine LW.done ?_;intro w3 hG;have hR11 : DskV w3 (r11.x 0) A := hG.get 11 rfl rfl;have hG2 := hG.below;have hM1 := hR11;obtain ⟨po1, pc1, co1, cc1, e11⟩ := hR11.agg;rw [e11] at hM1 |-;have y0 := x1.belowAll hG2;have y1 := xR1.belowAll hG2;have hB3 := btr hB1 hG2;clear hG cQ HBr Hwr hG2 cX lX c0 c1 xR1 x1;have cX := y0.cell;unfold dC at cX;have lX := y0.lt;have fX := y0.free;have hz3 := hB3.size;have hSB := zhI (zai (b := N) (v0 := .int .i64 A.size) (v1 := .slice po1 A.pages.length pc1) (v2 := .slice co1 A.cache.length cc1) (v3 := .int .i64 A.left) hB3 (by omega));have hSX := zhI (y0.set4 (v0 := .int .i64 A.size) (v1 := .slice po1 A.pages.length pc1) (v2 := .slice co1 A.cache.length cc1) (v3 := .int .i64 A.left));have hSR := zhI (y1.setO4 (b' := N) (v0 := .int .i64 A.size) (v1 := .slice po1 A.pages.length pc1) (v2 := .slice co1 A.cache.length cc1) (v3 := .int .i64 A.left) (by omega));have hSM := zhI (hM1.only y0 (zcF _ _ _ _ _) (Only.four (v0 := .int .i64 A.size) (v1 := .slice po1 A.pages.length pc1) (v2 := .slice co1 A.cache.length cc1) (v3 := .int .i64 A.left)));clear y0 y1 hM1 hB3;refine wpAny_ready (rs := [15]) (by kernel_rfl) (by simp) ?_;refine AllReady.cons rfl (fun K hK => ?_) AllReady.nil;go_simp;refine hK _ _ ?_;clear hK K;refine wpAny_ready (rs := [16]) (by kernel_rfl) (by simp) ?_;refine AllReady.cons rfl (fun K hK => ?_) AllReady.nil;go_simp;refine hK _ _ ?_;clear hK K;refine wpAny_done (by kernel_rfl) ?_ _;go_wp2;go_roundw
    case rel => exact ⟨k + 1, A, er, po1, pc1, co1, cc1, by omega, by go_num, rfl, hSB.out, hSX.out, hSR.out, hSM.out, by omega, Hnext⟩
    case measure => simp [intOf]; omega
  .
   obtain rfl : k = m := by omega
   have hd0 : ws.drop k = [] := List.drop_of_length_le (by rw [Hm.out]; exact Nat.le_refl _);rw [hd0, pfOps] at hpk1;have hpk2 : zaR dk = p := (zgv dk).symm.trans hpk1;have cX := xX.cell;unfold dC at cX;have lX := xX.lt;obtain ⟨A, er⟩ := p;have hcall := zif dk _ wr hV hpk2;have Hcall := zhI hcall;clear hcall hpk hpk1 hpk2 hd0 hV xX;go_wp2_with fail;refine Hcall.out.mono ?_;rintro e w1 ⟨v1, rfl, hM1, hb1⟩;have hM2 := hM1;obtain ⟨po1, pc1, co1, cc1, rfl⟩ := hM1.agg;have y1 := xR.belowAll hb1;have hB1 := btr hb hb1;have cR := y1.cell;have lR := y1.lt;have fR := y1.free;have hz1 := hB1.size;have HB := zhI (zai (b := N + 1) (v0 := .int .i64 A.size) (v1 := .slice po1 A.pages.length pc1) (v2 := .slice co1 A.cache.length cc1) (v3 := .int .i64 A.left) hB1 (by omega));have HX := zhI (y1.set4 (v0 := .int .i64 A.size) (v1 := .slice po1 A.pages.length pc1) (v2 := .slice co1 A.cache.length cc1) (v3 := .int .i64 A.left));have HM := zhI (hM2.only y1 zff (Only.four (v0 := .int .i64 A.size) (v1 := .slice po1 A.pages.length pc1) (v2 := .slice co1 A.cache.length cc1) (v3 := .int .i64 A.left)));clear y1 hM1 hM2 hB1 xR hb hb1 Hcall cX lX;go_wp2;have cZ := HX.out.cell;refine bodyPost_ret (v := .tuple #[.agg (dC A po1 co1 pc1 cc1), .int .i64 er]) (by simp [results, Tryz.results50, go_sem, cZ]) rfl ?_;exact ⟨_, rfl, HM.out, HB.out⟩
set_option maxRecDepth 100000 in
set_option maxHeartbeats 2000000 in
theorem zjK (d : Dsk) (v : Value) (frm til : Int) (w : World) (hD : DskV w v d) (hc : d.cache.length <= 999990) :
  Calls Tryz.prog 15 #[v, .int .i64 frm, .int .i64 til] w (RetVE w (fmtX d frm til).1 (fmtX d frm til).2) := by
 obtain ⟨R, hR⟩ : ∃ R, fmtX d frm til = R := ⟨_, rfl⟩;rw [hR];have hD0 := hD;obtain ⟨po, pc, co, cc, rfl⟩ := hD.agg;obtain ⟨N, hN⟩ : ∃ N, w.heap.size = N := ⟨_, rfl⟩;obtain ⟨W0, hW0⟩ : ∃ W0, (w.alloc (.cells (dC d po co pc cc) 25)).alloc (.cells dZ 25) = W0 := ⟨_, rfl⟩;have x0 : Bx W0 N (dC d po co pc cc) 25 := by subst hW0 hN; exact (Bx.new w _ _).alloc _
 have x1 : Bx W0 (N + 1) dZ 25 := by subst hW0 hN; exact Bx.newAt _ _ _ _ (by simp)
 have hB0 : Below w.heap.size w W0 := by subst hW0; exact (Below.one w _).alloc (by simp) _
 have hV0 := hD0.below hB0;have hch := zik d _ W0 hV0 rfl;obtain ⟨ce, hce⟩ : ∃ c, chk d = c := ⟨_, rfl⟩;rw [hce] at hch;have Hch := zhI hch;have Hce := zhI hce;have HD := zhI hD0;have HR0 := zhI hR;have cX := x0.cell;have lX := x0.lt;clear hch hce hD hD0 hR;go_enter Tryz.func15, Tryz.ntmps15;go_wp2_with fail;refine Hch.out.mono ?_;rintro e w1 ⟨rfl, hb1⟩;have y0 := x0.belowAll hb1;have y1 := x1.belowAll hb1;have hB1 := btr hB0 hb1;have hV1 := hV0.below hb1;clear cX lX x0 x1 hW0 hb1 hB0 hV0 Hch;cases hc1 : (ce != 0);rotate_left
 .
  have HR : Hid (R = (zeroD, 1)) := zhI (by
   have : chk d ≠ 0 := by rw [Hce.out]; simpa using hc1
   have e : fitX d frm til = 1 := by unfold fitX; rw [if_pos this]
   rw [<- HR0.out]; unfold fmtX; rw [e]; rfl)
  obtain ⟨Wf, hWf⟩ : ∃ Wf, st4 w1 (N + 1) (.int .i64 0) (.slice none 0 0) (.slice none 0 0) (.int .i64 0) = Wf := ⟨_, rfl⟩;have zR : Bx Wf (N + 1) dZ 25 := by subst hWf; exact y1.st4
  have zB : Below w.heap.size w Wf := by subst hWf; exact zaY hB1 (by omega)
  have HWf := zhI hWf;have ZB := zhI zB;clear zB hWf;have cX := y1.cell;have lX := y1.lt;have fX := y1.free;go_wp2;have HW := HWf.out;unfold st4 at HW;rw [HW];have cZ := zR.cell;refine bodyPost_ret (v := .tuple #[.agg dZ, .int .i64 1]) (by simp [results, Tryz.results15, go_sem, cZ]) rfl ?_;rw [HR.out];exact ⟨_, rfl, zaD _, ZB.out⟩
 have hc0 : chk d = 0 := by rw [Hce.out]; simpa using hc1
 have Hc0 := zhI hc0;have cD := y0.cell;have lD := y0.lt;unfold dC at cD;cases hft : fits5 d frm til
 .
  have HR : Hid (R = (zeroD, 2)) := zhI (by
   have e : fitX d frm til = 2 := by unfold fitX; rw [if_neg (by simpa using hc0), if_pos hft]
   rw [<- HR0.out]; unfold fmtX; rw [e]; rfl)
  have hfit := zgb d _ frm til w1 hc0 hft hV1;have Hfit := zhI hfit;clear hfit hc0 hft;go_wp2_with fail;refine Hfit.out.mono ?_;rintro e w2 ⟨rfl, hb2⟩;obtain ⟨w0', hw0'⟩ : ∃ x, x = w1 := ⟨_, rfl⟩;have y1 := y1.belowAll hb2;have hB1 := btr hB1 hb2;clear cD lD y0 hV1 Hfit hb2 hw0' w0';obtain ⟨Wf, hWf⟩ : ∃ Wf, st4 w2 (N + 1) (.int .i64 0) (.slice none 0 0) (.slice none 0 0) (.int .i64 0) = Wf := ⟨_, rfl⟩;have zR : Bx Wf (N + 1) dZ 25 := by subst hWf; exact y1.st4
  have zB : Below w.heap.size w Wf := by subst hWf; exact zaY hB1 (by omega)
  have HWf := zhI hWf;have ZB := zhI zB;clear zB hWf;have cX := y1.cell;have lX := y1.lt;have fX := y1.free;go_wp2;have HW := HWf.out;unfold st4 at HW;rw [HW];have cZ := zR.cell;refine bodyPost_ret (v := .tuple #[.agg dZ, .int .i64 2]) (by simp [results, Tryz.results15, go_sem, cZ]) rfl ?_;rw [HR.out];exact ⟨_, rfl, zaD _, ZB.out⟩
 .
  have hfit := zgb d _ frm til w1 hc0 hft hV1;have Hfit := zhI hfit;have hf0 : fitX d frm til = 0 := by unfold fitX; rw [if_neg (by simpa using hc0), if_neg (by simp [hft])]
  obtain ⟨f1, f2, f3, f4, f5⟩ := zax hft;have hr := zaf (zas hc0).1;obtain ⟨Z, hZ⟩ : ∃ Z, bs (padZ []) = Z := ⟨_, rfl⟩;obtain ⟨H, hH⟩ : ∃ H, bs (hdrL 512 1 0) = H := ⟨_, rfl⟩;have hZs : Z.size <= 1000 := by rw [<- hZ, zaj]; simp [padZ]
  have hHs : H.size <= 1000 := by rw [<- hH, zaj]; simp [hdrL, num8]
  obtain ⟨F, er2, hF⟩ : ∃ F er2, perfP d (wrOps [⟨frm, Z⟩, ⟨frm + 1, H⟩]) = (F, er2) := ⟨_, _, rfl⟩;have HR : Hid (R = (F, er2)) := zhI (by rw [<- HR0.out, <- hF, <- hZ, <- hH]; unfold fmtX; rw [if_neg (by simp [hf0])]; rfl);have HF := zhI hF;have hrep : ∀ W, Calls Tryz.prog 51 #[.string ByteArray.empty] W fun e w' => e = .returned (.string (bs (padZ []))) /\ Below W.heap.size W w' := fun W => zdm ByteArray.empty W (by simp);have hhd : ∀ W, Calls Tryz.prog 52 #[.int .i64 1, .int .i64 0] W fun e w' => e = .returned (.string (bs (hdrL 512 1 0))) /\ Below W.heap.size W w' := fun W => zeo 1 0 W;simp only [hZ] at hrep;simp only [hH] at hhd;have Hrep := zhI hrep;have Hhd := zhI hhd;have hf2 : frm <= 2000 := by omega
  have hw1 : wrap64 (frm + 1) = frm + 1 := IntWalk.wrap64_in _ (by omega);clear hfit hc0 hft hf0 hrep hhd hF hZ hH f1 hr HR0;go_wp2_with fail;refine Hfit.out.mono ?_;rintro e w2 ⟨rfl, hb2⟩;have y0 := y0.belowAll hb2;have y1 := y1.belowAll hb2;have hB2 := btr hB1 hb2;have hV2 := zhI (hV1.below hb2);clear cD lD hB1 hV1 Hfit hb2;have c0 := y0.cell;have l0 := y0.lt;unfold dC at c0;have cQ := Lat.cells w2;have HBw : Hid (∀ x : Lat w2, Below w2.heap.size w2 x.w) := zhI (fun x => x.h);go_wp2;refine zal 12 2 #[true, true, true, true, true, true, true, true, true, true, true, true, false, false] (fun i => if i = 2 then some (annK (.string Z)) else if i = 3 then some (annK (.agg #[.int .i64 frm, .string Z])) else if i = 7 then some (annK (.agg #[.int .i64 (frm + 1), .string H])) else if i = 6 then some (annK (.string H)) else if i = 8 then some (zcK 2 [.int .i64 frm, .string Z, .int .i64 (frm + 1), .string H] 80) else if i = 9 then some (annDE F er2) else none) (by kernel_rfl) (by rfl) (by rfl) (by kernel_rfl) ?_;simp only [List.take_succ_cons, List.take_zero];refine LW.block 2 2 (by rfl) (by kernel_rfl) (by kernel_rfl) ?_;simp only [ztP]
  repeat (first | go_big_quiet_skip | (go_big_quiet_want; go_big_quiet_op; go_big_quiet_on))
  refine wpQuiet_nil ?_;refine LW.lzy _ (by rfl) (by rfl) ?_ ?_
  . intro yL _;unfold lzAt;go_simp;exact zaC (Hrep.out _)
  intro _;simp only [Act.put, zsP]
  (try simp only [annK])
  refine LW.lzy _ (by rfl) (by rfl) ?_ ?_
  . intro yL _;exact zaJ ((by go_simp))
  intro _;simp only [Act.put, zsP]
  (try simp only [annK])
  refine LW.block 2 6 (by rfl) (by kernel_rfl) (by kernel_rfl) ?_;simp only [ztP]
  repeat (first | go_big_quiet_skip | (go_big_quiet_want; go_big_quiet_op; go_big_quiet_on))
  refine wpQuiet_nil ?_;refine LW.lzy _ (by rfl) (by rfl) ?_ ?_
  . intro yL _;unfold lzAt;go_simp;exact zaC (Hhd.out _)
  intro _;simp only [Act.put, zsP]
  (try simp only [annK])
  refine LW.lzy _ (by rfl) (by rfl) ?_ ?_
  . intro yL _;exact zaJ ((by go_simp))
  intro _;simp only [Act.put, zsP]
  (try simp only [annK])
  refine LW.lzy _ (by rfl) (by rfl) ?_ ?_
  . intro yL hf;unfold lzAt;go_simp;exact ⟨Below.one _ _, fun _ => undef, rfl, fun w'' hb => (Bx.new yL.w _ _).belowAll hb⟩
  intro r8;simp only [Act.put, zsP];refine LW.lzy _ (by rfl) (by rfl) ?_ ?_
  .
   intro yL hf;have h8 : Bx yL.w r8.lo #[.int .i64 frm, .string Z, .int .i64 (frm + 1), .string H] 80 := (hf 8 (by decide +kernel)).get (by rfl) (by rfl);unfold lzAt;simp only [zcK];go_simp;have hP := zi7 d _ [⟨frm, Z⟩, ⟨frm + 1, H⟩] (some ⟨r8.lo, 0, none⟩) 2 0 yL.w (hV2.out.below (HBw.out _)) ((PWsAt.of_row (S := fun b => b = r8.lo) (RowAt.bx h8)).mono fun b hb => by rw [hb]; exact h8.lt) (.inr ⟨_, rfl, by simp, by simp [maxLen]⟩) (by intro x hx; simp at hx; rcases hx with rfl | rfl <;> simp <;> omega) (by simp only [zlC, List.length_nil]; omega)
   rw [zgt (.inr rfl), HF.out] at hP;exact lz_de hP
  intro r9;simp only [Act.put, zsP, annDE];refine LW.block 2 12 (by rfl) (by kernel_rfl) (by kernel_rfl) ?_;simp only [ztP]
  repeat (first | go_big_quiet_skip | (go_big_quiet_want; go_big_quiet_op; go_big_quiet_on))
  refine wpQuiet_nil ?_;refine LW.done ?_;intro w3 hG;have hR9 : DskV w3 (r9.x 0) F := hG.get 9 rfl rfl;have hG2 := hG.below;have hM1 := hR9;obtain ⟨po1, pc1, co1, cc1, e13⟩ := hR9.agg;rw [e13] at hM1 |-;have z1 := y1.belowAll hG2;have hB3 := btr hB2 hG2;obtain ⟨Wf, hWf⟩ : ∃ Wf, st4 w3 (N + 1) (.int .i64 F.size) (.slice po1 F.pages.length pc1) (.slice co1 F.cache.length cc1) (.int .i64 F.left) = Wf := ⟨_, rfl⟩;have zR : Bx Wf (N + 1) (dC F po1 co1 pc1 cc1) 25 := by subst hWf; exact z1.st4
  have zB : Below w.heap.size w Wf := by subst hWf; exact zaY hB3 (by omega)
  have zV : DskV Wf (.agg (dC F po1 co1 pc1 cc1)) F := by subst hWf; exact hM1.only z1 zff zbN
  have HWf := zhI hWf;have ZB := zhI zB;have ZV := zhI zV;clear hG c0 l0 hG2 zB zV hM1 hB3 hWf;have cX := z1.cell;have lX := z1.lt;have fX := z1.free;refine wpAny_ready (rs := [12]) (by kernel_rfl) (by simp) ?_;refine AllReady.cons rfl (fun K hK => ?_) AllReady.nil;go_simp;refine hK _ _ ?_;clear hK K;refine wpAny_ready (rs := [13]) (by kernel_rfl) (by simp) ?_;refine AllReady.cons rfl (fun K hK => ?_) AllReady.nil;go_simp;refine hK _ _ ?_;clear hK K;refine wpAny_done (by kernel_rfl) ?_ _;go_wp2;have HW := HWf.out;unfold st4 at HW;rw [HW];have cZ := zR.cell;refine bodyPost_ret (v := .tuple #[.agg (dC F po1 co1 pc1 cc1), .int .i64 er2]) (by simp [results, Tryz.results15, go_sem, cZ]) rfl ?_;rw [HR.out];exact ⟨_, rfl, ZV.out, ZB.out⟩
def zdX (d : Dsk) : Bool := decide (40 < d.pages.length) || decide (20 < d.cache.length) || d.pages.any (fun s => decide (600 < s.size)) || d.cache.any (fun x => decide (600 < x.data.size))
theorem zhg {d : Dsk} (h : zdX d = false) : d.pages.length <= 40 /\ d.cache.length <= 20 /\ (∀ s ∈ d.pages, s.size <= 600) /\ ∀ x ∈ d.cache, x.data.size <= 600 := by
 unfold zdX at h;simp only [Bool.or_eq_false_iff, decide_eq_false_iff_not, List.any_eq_false, decide_eq_true_eq] at h;obtain ⟨⟨⟨h1, h2⟩, h3⟩, h4⟩ := h;exact ⟨by omega, by omega, fun s hs => by have := h3 s hs; omega, fun s hs => by have := h4 s hs; omega⟩
set_option maxHeartbeats 2000000 in
theorem zlW (d : Dsk) (v : Value) (w : World) {S : Nat -> Prop} (hD : DskR S w v d) :
  Calls Tryz.prog 12 #[v] w fun e w' => e = .returned (.bool (zdX d)) /\ Below w.heap.size w w' := by
 obtain ⟨po, pc, co, cc, rfl, hp, hc, ok⟩ := hD;have ok1 := ok.pages;have ok2 := ok.cache;have oks := ok.strs;have okd := ok.datas;obtain ⟨r, hr⟩ : ∃ r, zdX d = r := ⟨_, rfl⟩;rw [hr];have Hr := zhI hr;clear ok hr;have hbw : Below w.heap.size w (w.alloc (.cells #[.int .i64 d.size, .slice po d.pages.length pc, .slice co d.cache.length cc, .int .i64 d.left] 25)) := Below.one _ _;cases g1 : decide (40 < (d.pages.length : Int));rotate_left
 . have HP : Hid (r = true) := zhI (by rw [<- Hr.out]; unfold zdX; rw [decide_eq_true (by have := of_decide_eq_true g1; omega)]; rfl);go_enter Tryz.func12, Tryz.ntmps12;go_wp2;go_ret;exact ⟨by rw [HP.out]; rfl, hbw⟩
 cases g2 : decide (20 < (d.cache.length : Int));rotate_left
 . have HP : Hid (r = true) := zhI (by rw [<- Hr.out]; unfold zdX; rw [decide_eq_true (p := 20 < d.cache.length) (by have := of_decide_eq_true g2; omega)]; simp);go_enter Tryz.func12, Tryz.ntmps12;go_wp2;go_ret;exact ⟨by rw [HP.out]; rfl, hbw⟩
 have x0 := Bx.new w #[.int .i64 d.size, .slice po d.pages.length pc, .slice co d.cache.length cc, .int .i64 d.left] 25;have hR : Hid (r = (d.pages.any (fun s => decide (600 < s.size)) || d.cache.any (fun x => decide (600 < x.data.size)))) := zhI (by
  rw [<- Hr.out]; unfold zdX;rw [decide_eq_false (by have := of_decide_eq_false g1; omega), decide_eq_false (p := 20 < d.cache.length) (by have := of_decide_eq_false g2; omega)]
  rfl)
 go_enter Tryz.func12, Tryz.ntmps12;go_wp2
 go_loopw [3] (fun i wr => ∃ (k : Nat), k <= d.pages.length /\ i = .int .i64 k /\ Hid (∀ j (h : j < d.pages.length), j < k -> d.pages[j].size <= 600) /\ Below w.heap.size w wr /\ Bx wr w.heap.size #[.int .i64 d.size, .slice po d.pages.length pc, .slice co d.cache.length cc, .int .i64 d.left] 25) (fun i _ => d.pages.length - (intOf i).toNat)
 case atStart => exact ⟨0, Nat.zero_le _, rfl, zhI (fun j _ h => by omega), hbw, x0⟩
 case round =>
  clear x0 hbw;obtain ⟨k, hk, rfl, H, hb, x0⟩ := hrel;have cX := x0.cell;have lX := x0.lt
  by_cases hlt : k < d.pages.length
  .
   obtain ⟨b, off, rfl, hcell0, _⟩ := hp k hlt;have hcell : wr.cell? ⟨b, off + k, none⟩ = some (.string d.pages[k]) := by rw [hb.cell (World.block_lt_of_cell? w _ hcell0)]; exact hcell0
   have HE : Hid (600 < d.pages[k].size -> r = true) := zhI (fun h => by rw [hR.out, List.any_eq_true.2 ⟨_, List.getElem_mem hlt, decide_eq_true h⟩]; rfl)
   have HN : Hid (d.pages[k].size <= 600 -> ∀ j (h : j < d.pages.length), j < k + 1 -> d.pages[j].size <= 600) := zhI (fun hs j hj hj1 => by
    by_cases e : j = k
    . subst e; exact hs
    . exact H.out j hj (by omega))
   obtain ⟨s, hs⟩ : ∃ s, d.pages[k] = s := ⟨_, rfl⟩;rw [hs] at hcell HE HN;clear hcell0 hs;cases g3 : decide (600 < (s.size : Int))
   .
    have HN2 := zhI (HN.out (by have := of_decide_eq_false g3; omega));go_wp2;go_roundw
    case rel => exact ⟨k + 1, by omega, by go_num, HN2, hb, x0⟩
    case measure => simp [intOf]; omega
   . have HP := zhI (HE.out (by have := of_decide_eq_true g3; omega));go_wp2;go_ret;exact ⟨by rw [HP.out]; rfl, hb⟩
  .
   obtain rfl : k = d.pages.length := by omega
   have hR2 : Hid (r = d.cache.any (fun x => decide (600 < x.data.size))) := zhI (by
    rw [hR.out, List.any_eq_false.2]
    . rfl
    .
     intro s hs;obtain ⟨j, hj, rfl⟩ := List.getElem_of_mem hs;have := H.out j hj hj
     simp; omega)
   clear hlt hk H hR;go_wp2;clear cX lX
   go_loopw [4] (fun i wr => ∃ (k : Nat), k <= d.cache.length /\ i = .int .i64 k /\ Hid (∀ j (h : j < d.cache.length), j < k -> d.cache[j].data.size <= 600) /\ Below w.heap.size w wr /\ Bx wr w.heap.size #[.int .i64 d.size, .slice po d.pages.length pc, .slice co d.cache.length cc, .int .i64 d.left] 25) (fun i _ => d.cache.length - (intOf i).toNat)
   case atStart => exact ⟨0, Nat.zero_le _, rfl, zhI (fun j _ h => by omega), hb, x0⟩
   case round =>
    clear x0 hb;obtain ⟨k, hk, rfl, H, hb, x0⟩ := hrel;have cX := x0.cell;have lX := x0.lt
    by_cases hlt : k < d.cache.length
    .
     obtain ⟨b, off, rfl, hcell0, hcell1, _⟩ := hc k hlt;have hcell' : wr.cell? ⟨b, off + k * 2 + 1, none⟩ = some (.string d.cache[k].data) := by rw [hb.cell (World.block_lt_of_cell? w _ hcell1)]; exact hcell1
     have HE : Hid (600 < d.cache[k].data.size -> r = true) := zhI (fun h => by rw [hR2.out, List.any_eq_true.2 ⟨_, List.getElem_mem hlt, decide_eq_true h⟩])
     have HN : Hid (d.cache[k].data.size <= 600 -> ∀ j (h : j < d.cache.length), j < k + 1 -> d.cache[j].data.size <= 600) := zhI (fun hs j hj hj1 => by
      by_cases e : j = k
      . subst e; exact hs
      . exact H.out j hj (by omega))
     obtain ⟨s, hs⟩ : ∃ s, d.cache[k].data = s := ⟨_, rfl⟩;rw [hs] at hcell' HE HN;clear hcell0 hcell1 hs;cases g3 : decide (600 < (s.size : Int))
     .
      have HN2 := zhI (HN.out (by have := of_decide_eq_false g3; omega));go_wp2;go_roundw
      case rel => exact ⟨k + 1, by omega, by go_num, HN2, hb, x0⟩
      case measure => simp [intOf]; omega
     . have HP := zhI (HE.out (by have := of_decide_eq_true g3; omega));go_wp2;go_ret;exact ⟨by rw [HP.out]; rfl, hb⟩
    .
     obtain rfl : k = d.cache.length := by omega
     have HP : Hid (r = false) := zhI (by
      rw [hR2.out, List.any_eq_false.2];intro s hs;obtain ⟨j, hj, rfl⟩ := List.getElem_of_mem hs;have := H.out j hj hj
      simp; omega)
     go_wp2;go_ret;exact ⟨by rw [HP.out]; rfl, hb⟩
end Go.Proofs.YtlefmmhlpgmbjaaGreat
