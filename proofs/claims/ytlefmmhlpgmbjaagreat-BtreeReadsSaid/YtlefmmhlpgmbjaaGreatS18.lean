/- Plain laws of layer 42: what putting and removing make of well formed trees. No function of the program is named here. -/
import Derived.Test.YtlefmmhlpgmbjaaGreatS17
import Derived.Test.YtlefmmhlpgmbjaaGreatS01
namespace Go.Proofs.YtlefmmhlpgmbjaaGreat
set_option maxRecDepth 100000
open Go.RowKit
theorem zd2 {l : List Kv} (h : Asc l) (key : ByteArray) : ∀ p ∈ l.dropWhile (fun p => kLt p.1 key), kLt p.1 key = false := by
 induction l with
 | nil => intro p hp; cases hp
 | cons q l ih =>
  obtain ⟨h1, h2⟩ := List.pairwise_cons.1 h;intro p hp;rw [List.dropWhile_cons] at hp;split at hp
  . exact ih h2 p hp
  .
   rename_i hq
   rcases zmC.1 hp with rfl | hp
   . simpa using hq
   .
    cases hc : kLt p.1 key with
    | false => rfl
    | true => exact absurd (zaX (h1 p hp) hc) hq
theorem zd4 {l : List Kv} (h : Asc l) (key : ByteArray) (hl : ∀ p ∈ l, kLt p.1 key = false) : ∀ p ∈ l.dropWhile (fun p => decide (p.1 = key)), kLt key p.1 = true := by
 cases l with
 | nil => intro p hp; cases hp
 | cons q l =>
  obtain ⟨h1, h2⟩ := List.pairwise_cons.1 h;have hup : ∀ p ∈ l, kLt key p.1 = true := fun p hp => zns (hl q (by simp)) (h1 p hp);intro p hp;rw [List.dropWhile_cons] at hp;split at hp
  . exact hup p ((List.dropWhile_suffix _).subset hp)
  .
   rename_i hq
   rcases zmC.1 hp with rfl | hp
   .
    cases hc : kLt key p.1 with
    | true => rfl
    | false => exact absurd (zbU hc (hl p (by simp))).symm (by simpa using hq)
   . exact hup p hp
theorem zj5 {l : List Kv} (h : Asc l) (x : Kv) : Asc (withP l x) := by
 unfold withP;have hd : Asc (l.dropWhile fun p => kLt p.1 x.1) := h.sub (List.dropWhile_suffix _).sublist;have hd2 : Asc ((l.dropWhile fun p => kLt p.1 x.1).dropWhile fun p => decide (p.1 = x.1)) := hd.sub (List.dropWhile_suffix _).sublist;have hC := zd4 hd x.1 (zd2 h x.1);refine Asc.app.2 ⟨h.sub (List.takeWhile_prefix _).sublist, List.pairwise_cons.2 ⟨hC, hd2⟩, fun a ha b hb => ?_⟩;have hax : kLt a.1 x.1 = true := zbu (p := fun p : Kv => kLt p.1 x.1) ha;rcases zmC.1 hb with rfl | hb
 . exact hax
 . exact zaX hax (hC b hb)
theorem zkE {l : List Kv} (h : Asc l) (x p : Kv) : p ∈ withP l x ↔ p = x \/ (p ∈ l /\ p.1 ≠ x.1) := by
 have hd : Asc (l.dropWhile fun p => kLt p.1 x.1) := h.sub (List.dropWhile_suffix _).sublist;have hC := zd4 hd x.1 (zd2 h x.1);have hsp : ∀ q ∈ l, q ∈ l.takeWhile (fun p => kLt p.1 x.1) \/ q ∈ l.dropWhile (fun p => kLt p.1 x.1) := fun q hq => by rw [<- List.takeWhile_append_dropWhile (p := fun p => kLt p.1 x.1) (l := l)] at hq;exact zmA.1 hq
 have hsp2 : ∀ q ∈ l.dropWhile (fun p => kLt p.1 x.1), q ∈ (l.dropWhile (fun p => kLt p.1 x.1)).takeWhile (fun p => decide (p.1 = x.1)) \/ q ∈ (l.dropWhile (fun p => kLt p.1 x.1)).dropWhile (fun p => decide (p.1 = x.1)) := fun q hq => by rw [<- List.takeWhile_append_dropWhile (p := fun p => decide (p.1 = x.1)) (l := l.dropWhile (fun p => kLt p.1 x.1))] at hq;exact zmA.1 hq
 unfold withP;rw [zmA, zmC];constructor
 .
  rintro (h1 | h1 | h1)
  . exact .inr ⟨(List.takeWhile_prefix _).subset h1, zcd (zbu (p := fun p : Kv => kLt p.1 x.1) h1)⟩
  . exact .inl h1
  . exact .inr ⟨(List.dropWhile_suffix _).subset ((List.dropWhile_suffix _).subset h1), fun e => zcd (hC p h1) e.symm⟩
 .
  rintro (h1 | ⟨h1, h2⟩)
  . exact .inr (.inl h1)
  .
   rcases hsp p h1 with h3 | h3
   . exact .inl h3
   .
    rcases hsp2 p h3 with h4 | h4
    . exact absurd (by simpa using zbu h4) h2
    . exact .inr (.inr h4)
theorem zgT {l : List Kv} (h : Asc l) (x : Kv) : l.length <= (withP l x).length /\ (withP l x).length <= l.length + 1 /\ 1 <= (withP l x).length := by
 rw [zik x h];have hl := zee l x.1;split
 .
  rename_i hb
  have : findI l x.1 < l.length := by
   unfold findB at hb;rcases Nat.lt_or_ge (findI l x.1) l.length with h | h
   . exact h
   . rw [List.getElem?_eq_none (by omega)] at hb; simp at hb
  rw [List.length_set]; omega
 . simp; omega
theorem zgX {l : List Kv} (h : Asc l) (key : ByteArray) : Asc (zao l key) := h.sub List.filter_sublist
theorem zd3 {l : List Kv} (h : Asc l) (key : ByteArray) : l.length <= (zao l key).length + 1 /\ (zao l key).length <= l.length := by
 rw [zek key h];have hl := zee l key;split
 . simp; omega
 . omega
theorem flat3 {α : Type} (f : Nd -> List α) (l1 l2 X : List Nd) : ((l1 ++ X ++ l2).map f).flatten = (l1.map f).flatten ++ ((X.map f).flatten ++ (l2.map f).flatten) := by
 simp
theorem zcv {l : List Nd} {i : Nat} (h : i < l.length) : (l.map Nd.prs).flatten = ((l.take i).map Nd.prs).flatten ++ (l[i].prs ++ ((l.drop (i + 1)).map Nd.prs).flatten) := by
 have e : l = l.take i ++ [l[i]] ++ l.drop (i + 1) := by rw [List.append_assoc, List.singleton_append, List.getElem_cons_drop, List.take_append_drop]
 conv => lhs; rw [e]
 rw [flat3];simp
theorem zcX {L : List Nd} (h0 : L ≠ []) : (inN L).prs = (L.map Nd.prs).flatten := Nd.prs_inner h0
theorem zc3 (l : List Kv) : (lfN l).prs = l := Nd.prs_leaf rfl
theorem zfx {L : List Nd} {a b h : Nat} (hL : ∀ k ∈ L, Tm 2 4 h k) (h0 : L ≠ []) (hb : b <= L.length) (h9 : L.length <= 9) :
  ((splitN (inN L)).2 = none -> Tm a b (h + 1) (splitN (inN L)).1 /\ (splitN (inN L)).1.prs = (L.map Nd.prs).flatten) /\
  ∀ c, (splitN (inN L)).2 = some c -> Tm 2 4 (h + 1) (splitN (inN L)).1 /\ Tm 2 4 (h + 1) c /\ (splitN (inN L)).1.prs ++ c.prs = (L.map Nd.prs).flatten := by
 by_cases h8 : L.length <= 8
 . rw [zbG h0 h8];refine ⟨fun _ => ⟨.mk_inn rfl h0 hb h8 hL, zcX h0⟩, fun c hc => by cases hc⟩
 .
  have h9' : L.length = 9 := by omega
  rw [zbz h0 (by omega)];refine ⟨fun hc => (by cases hc), fun c hc => ?_⟩;cases hc;have n1 : L.take 5 ≠ [] := fun e => by have := congrArg List.length e; rw [List.length_take, List.length_nil] at this; omega
  have n2 : L.drop 5 ≠ [] := fun e => by have := congrArg List.length e; rw [List.length_drop, List.length_nil] at this; omega
  refine ⟨.mk_inn rfl n1 (by show 4 <= (L.take 5).length; rw [List.length_take]; omega) (by show (L.take 5).length <= 8; rw [List.length_take]; omega) fun k hk => hL k (List.mem_of_mem_take hk), .mk_inn rfl n2 (by show 4 <= (L.drop 5).length; rw [List.length_drop]; omega) (by show (L.drop 5).length <= 8; rw [List.length_drop]; omega) fun k hk => hL k (List.mem_of_mem_drop hk), ?_⟩;simp only;rw [zcX n1, zcX n2, <- List.flatten_append, <- List.map_append, List.take_append_drop]
theorem zlK {x : Kv} (hx : KvOk x) : ∀ {n : Nd} {a b h : Nat}, a <= 2 -> b <= 4 -> 1 <= b -> Tm a b h n -> Asc n.prs ->
  ((insN x n).2 = none -> Tm a b h (insN x n).1 /\ (insN x n).1.prs = withP n.prs x) /\
  ∀ c, (insN x n).2 = some c -> Tm 2 4 h (insN x n).1 /\ Tm 2 4 h c /\ (insN x n).1.prs ++ c.prs = withP n.prs x := by
 intro n
 induction n using Nd.ind with
 | h ps kids page ih =>
  intro a b h ha hb hb1 t hasc
  by_cases hk0 : kids = []
  .
   obtain rfl : h = 0 := t.leaf.2 hk0;obtain ⟨-, g1, g3, hk⟩ := t.lf';rw [zdx (n := .mk ps kids page) hk0];have hps : (Nd.mk ps kids page).prs = ps := Nd.prs_leaf hk0;simp only [Nd.ps] at g1 g3 hk |-;rw [hps] at hasc |-;obtain ⟨l1, l2, l3⟩ := zgT hasc x;have hkw : ∀ p ∈ withP ps x, KvOk p := fun p hp => by
    rcases (zkE hasc x p).1 hp with rfl | ⟨h, -⟩
    . exact hx
    . exact hk p h
   by_cases h3 : (withP ps x).length <= 3
   . rw [za5 h3];exact ⟨fun _ => ⟨.mk_lf rfl (by show a <= (withP ps x).length; omega) h3 hkw, zc3 _⟩, fun c hc => by cases hc⟩
   . rw [zcs (by omega)];refine ⟨fun hc => (by cases hc), fun c hc => ?_⟩;cases hc;refine ⟨.mk_lf rfl (by show 2 <= ((withP ps x).take 2).length; rw [List.length_take]; omega) (by show ((withP ps x).take 2).length <= 3; rw [List.length_take]; omega) fun p hp => hkw p (List.mem_of_mem_take hp), .mk_lf rfl (by show 2 <= ((withP ps x).drop 2).length; rw [List.length_drop]; omega) (by show ((withP ps x).drop 2).length <= 3; rw [List.length_drop]; omega) fun p hp => hkw p (List.mem_of_mem_drop hp), ?_⟩;simp only;rw [zc3, zc3, List.take_append_drop]
  .
   obtain ⟨h, rfl⟩ : ∃ m, h = m + 1 := by
    cases h with
    | zero => exact absurd (t.leaf.1 rfl) hk0
    | succ m => exact ⟨m, rfl⟩
   obtain ⟨-, -, g2, g8, hk⟩ := t.inn';simp only [Nd.kids] at g2 g8 hk;have hprs : (Nd.mk ps kids page).prs = (kids.map Nd.prs).flatten := Nd.prs_inner hk0;rw [hprs] at hasc |-;rw [zie (n := .mk ps kids page) hk0];simp only [Nd.kids];have hil := zaG x.1 hk0;obtain ⟨i, hi⟩ : ∃ i, zav kids x.1 = i := ⟨_, rfl⟩;simp only [hi] at hil |-;obtain ⟨hA, hC⟩ := zc7 hk hasc hi hil;have hcm : kids[i] ∈ kids := List.getElem_mem hil;have hcasc : Asc kids[i].prs := hasc.sub (List.sublist_flatten_of_mem (List.mem_map.2 ⟨_, hcm, rfl⟩));obtain ⟨i1, i2⟩ := ih _ hcm (Nat.le_refl _) (Nat.le_refl _) (by decide) (hk _ hcm) hcasc;have hw := zkM (B := kids[i].prs) hA hC;rw [<- zcv hil] at hw;cases ho : (insN x kids[i]).2 with
   | none =>
    obtain ⟨j1, j2⟩ := i1 ho;simp only [Option.toList_none, List.append_assoc, List.cons_append, List.nil_append];have hlen : (kids.take i ++ (insN x kids[i]).1 :: kids.drop (i + 1)).length = kids.length := by simp; omega
    have hsp := zfx (L := kids.take i ++ (insN x kids[i]).1 :: kids.drop (i + 1)) (a := a) (b := b) (h := h) (fun k hkm => by
     rcases zmA.1 hkm with hm | hm
     . exact hk k (List.mem_of_mem_take hm)
     .
      rcases zmC.1 hm with rfl | hm
      . exact j1
      . exact hk k (List.mem_of_mem_drop hm)) (by simp) (by omega) (by omega)
    have hfl : ((kids.take i ++ (insN x kids[i]).1 :: kids.drop (i + 1)).map Nd.prs).flatten = withP (kids.map Nd.prs).flatten x := by rw [hw, <- j2]; simp
    rw [hfl] at hsp;exact hsp
   | some c =>
    obtain ⟨j1, j2, j3⟩ := i2 c ho;simp only [Option.toList_some, List.append_assoc, List.cons_append, List.nil_append];have hlen : (kids.take i ++ (insN x kids[i]).1 :: c :: kids.drop (i + 1)).length = kids.length + 1 := by simp; omega
    have hsp := zfx (L := kids.take i ++ (insN x kids[i]).1 :: c :: kids.drop (i + 1)) (a := a) (b := b) (h := h) (fun k hkm => by
     rcases zmA.1 hkm with hm | hm
     . exact hk k (List.mem_of_mem_take hm)
     .
      rcases zmC.1 hm with rfl | hm
      . exact j1
      .
       rcases zmC.1 hm with rfl | hm
       . exact j2
       . exact hk k (List.mem_of_mem_drop hm)) (by simp) (by omega) (by omega)
    have hfl : ((kids.take i ++ (insN x kids[i]).1 :: c :: kids.drop (i + 1)).map Nd.prs).flatten = withP (kids.map Nd.prs).flatten x := by rw [hw, <- j3]; simp
    rw [hfl] at hsp;exact hsp
theorem zld {a b : Nd} {h : Nat} {left : Bool} (ha : Tm (if left then 2 else 1) (if left then 4 else 3) h a) (hb : Tm (if left then 1 else 2) (if left then 3 else 4) h b) (hs : (if left then b else a).small = true) :
  (∀ k ∈ twoN a b left, Tm 2 4 h k) /\ ((twoN a b left).map Nd.prs).flatten = a.prs ++ b.prs /\ 1 <= (twoN a b left).length /\ (twoN a b left).length <= 2 := by
 cases h with
 | zero =>
  obtain ⟨ka, a1, a3, ao⟩ := ha.lf';obtain ⟨kb, b1, b3, bo⟩ := hb.lf';have hjk : (joinN a b).kids = [] := by unfold joinN; simp [Nd.kids]; exact ⟨ka, kb⟩
  have hjp : (joinN a b).ps = a.ps ++ b.ps := rfl;have hpa := Nd.prs_leaf ka;have hpb := Nd.prs_leaf kb;have hpj : (joinN a b).prs = a.ps ++ b.ps := Nd.prs_leaf hjk;have hok : ∀ p ∈ a.ps ++ b.ps, KvOk p := fun p hp => (zmA.1 hp).elim (ao p) (bo p);have hcut : ∀ k, 2 <= k -> k <= 3 -> 2 <= (a.ps ++ b.ps).length - k -> (a.ps ++ b.ps).length - k <= 3 -> (∀ n ∈ [(cutN (joinN a b) k).1, (cutN (joinN a b) k).2], Tm 2 4 0 n) /\ (([(cutN (joinN a b) k).1, (cutN (joinN a b) k).2]).map Nd.prs).flatten = a.ps ++ b.ps := by
   intro k h1 h2 h3 h4;unfold cutN;rw [if_pos hjk, hjp];refine ⟨fun n hn => ?_, ?_⟩
   .
    have : n = lfN ((a.ps ++ b.ps).take k) \/ n = lfN ((a.ps ++ b.ps).drop k) := by simpa using hn
    rcases this with rfl | rfl
    . exact .mk_lf rfl (by show 2 <= ((a.ps ++ b.ps).take k).length; rw [List.length_take]; omega) (by show ((a.ps ++ b.ps).take k).length <= 3; rw [List.length_take]; omega) fun p hp => hok p (List.mem_of_mem_take hp)
    . exact .mk_lf rfl (by show 2 <= ((a.ps ++ b.ps).drop k).length; rw [List.length_drop]; omega) (by show ((a.ps ++ b.ps).drop k).length <= 3; rw [List.length_drop]; omega) fun p hp => hok p (List.mem_of_mem_drop hp)
   . simp only [List.map_cons, List.map_nil, List.flatten_cons, List.flatten_nil, List.append_nil];rw [zc3, zc3, List.take_append_drop]
  have hjoin : (a.ps ++ b.ps).length <= 3 -> 2 <= (a.ps ++ b.ps).length -> Tm 2 4 0 (joinN a b) := fun h1 h2 => .mk_lf hjk (by rw [hjp]; exact h2) (by rw [hjp]; exact h1) (by rw [hjp]; exact hok);have hsa : a.size = a.ps.length := by unfold Nd.size; rw [ka]; rfl
  have hsb : b.size = b.ps.length := by unfold Nd.size; rw [kb]; rfl
  rw [hpa, hpb];cases left with
  | true =>
   have hs' : b.ps.length < 2 := by simp only [if_true] at hs;unfold Nd.small at hs;rw [if_pos kb] at hs;simpa using hs
   simp only [if_true] at a1 b1;unfold twoN Nd.rich;rw [if_pos rfl, if_pos ka]
   by_cases hr : 2 < a.ps.length
   . simp only [hr, decide_true, if_true];obtain ⟨c1, c2⟩ := hcut (a.size - 1) (by omega) (by omega) (by rw [zlA]; omega) (by rw [zlA]; omega);exact ⟨c1, c2, by simp, by simp⟩
   .
    simp only [hr, decide_false, Bool.false_eq_true, if_false];refine ⟨fun k hk => ?_, ?_, by simp, by simp⟩
    .
     have : k = joinN a b := by simpa using hk
     rw [this]; exact hjoin (by rw [zlA]; omega) (by rw [zlA]; omega)
    . simp [hpj]
  | false =>
   have hs' : a.ps.length < 2 := by simp only [Bool.false_eq_true, if_false] at hs;unfold Nd.small at hs;rw [if_pos ka] at hs;simpa using hs
   simp only [Bool.false_eq_true, if_false] at a1 b1;unfold twoN Nd.rich;rw [if_neg (by decide), if_pos kb]
   by_cases hr : 2 < b.ps.length
   . simp only [hr, decide_true, if_true];obtain ⟨c1, c2⟩ := hcut (a.size + 1) (by omega) (by omega) (by rw [zlA]; omega) (by rw [zlA]; omega);exact ⟨c1, c2, by simp, by simp⟩
   .
    simp only [hr, decide_false, Bool.false_eq_true, if_false];refine ⟨fun k hk => ?_, ?_, by simp, by simp⟩
    .
     have : k = joinN a b := by simpa using hk
     rw [this]; exact hjoin (by rw [zlA]; omega) (by rw [zlA]; omega)
    . simp [hpj]
 | succ h =>
  obtain ⟨pa, ka, a1, a3, ao⟩ := ha.inn';obtain ⟨pb, kb, b1, b3, bo⟩ := hb.inn';have hjk : (joinN a b).kids = a.kids ++ b.kids := rfl;have hj0 : (joinN a b).kids ≠ [] := by rw [hjk]; simp [ka]
  have hjp : (joinN a b).ps = [] := by show a.ps ++ b.ps = []; rw [pa, pb]; rfl
  have hpa := Nd.prs_inner ka;have hpb := Nd.prs_inner kb;have hpj : (joinN a b).prs = ((a.kids ++ b.kids).map Nd.prs).flatten := Nd.prs_inner hj0;have hok : ∀ k ∈ a.kids ++ b.kids, Tm 2 4 h k := fun p hp => (zmA.1 hp).elim (ao p) (bo p);have hcut : ∀ k, 4 <= k -> k <= 8 -> 4 <= (a.kids ++ b.kids).length - k -> (a.kids ++ b.kids).length - k <= 8 -> (∀ n ∈ [(cutN (joinN a b) k).1, (cutN (joinN a b) k).2], Tm 2 4 (h + 1) n) /\ (([(cutN (joinN a b) k).1, (cutN (joinN a b) k).2]).map Nd.prs).flatten = ((a.kids ++ b.kids).map Nd.prs).flatten := by
   intro k h1 h2 h3 h4;unfold cutN;rw [if_neg hj0, hjk];have n1 : (a.kids ++ b.kids).take k ≠ [] := fun e => by have := congrArg List.length e; rw [List.length_take] at this; simp only [List.length_nil] at this; omega
   have n2 : (a.kids ++ b.kids).drop k ≠ [] := fun e => by have := congrArg List.length e; rw [List.length_drop] at this; simp only [List.length_nil] at this; omega
   refine ⟨fun n hn => ?_, ?_⟩
   .
    have : n = inN ((a.kids ++ b.kids).take k) \/ n = inN ((a.kids ++ b.kids).drop k) := by simpa using hn
    rcases this with rfl | rfl
    . exact .mk_inn rfl n1 (by show 4 <= ((a.kids ++ b.kids).take k).length; rw [List.length_take]; omega) (by show ((a.kids ++ b.kids).take k).length <= 8; rw [List.length_take]; omega) fun p hp => hok p (List.mem_of_mem_take hp)
    . exact .mk_inn rfl n2 (by show 4 <= ((a.kids ++ b.kids).drop k).length; rw [List.length_drop]; omega) (by show ((a.kids ++ b.kids).drop k).length <= 8; rw [List.length_drop]; omega) fun p hp => hok p (List.mem_of_mem_drop hp)
   . simp only [List.map_cons, List.map_nil, List.flatten_cons, List.flatten_nil, List.append_nil];rw [zcX n1, zcX n2, <- List.flatten_append, <- List.map_append, List.take_append_drop]
  have hjoin : (a.kids ++ b.kids).length <= 8 -> 4 <= (a.kids ++ b.kids).length -> Tm 2 4 (h + 1) (joinN a b) := fun h1 h2 => .mk_inn hjp hj0 (by rw [hjk]; exact h2) (by rw [hjk]; exact h1) (by rw [hjk]; exact hok);have hsa : a.size = a.kids.length := by unfold Nd.size; rw [pa]; simp
  have hab : ((a.kids ++ b.kids).map Nd.prs).flatten = a.prs ++ b.prs := by rw [hpa, hpb, List.map_append, List.flatten_append]
  rw [<- hab];cases left with
  | true =>
   have hs' : b.kids.length < 4 := by simp only [if_true] at hs;unfold Nd.small at hs;rw [if_neg kb] at hs;simpa using hs
   simp only [if_true] at a1 b1;unfold twoN Nd.rich;rw [if_pos rfl, if_neg ka]
   by_cases hr : 4 < a.kids.length
   . simp only [hr, decide_true, if_true];obtain ⟨c1, c2⟩ := hcut (a.size - 1) (by omega) (by omega) (by rw [zlA]; omega) (by rw [zlA]; omega);exact ⟨c1, c2, by simp, by simp⟩
   .
    simp only [hr, decide_false, Bool.false_eq_true, if_false];refine ⟨fun k hk => ?_, ?_, by simp, by simp⟩
    .
     have : k = joinN a b := by simpa using hk
     rw [this]; exact hjoin (by rw [zlA]; omega) (by rw [zlA]; omega)
    . simp [hpj]
  | false =>
   have hs' : a.kids.length < 4 := by simp only [Bool.false_eq_true, if_false] at hs;unfold Nd.small at hs;rw [if_neg ka] at hs;simpa using hs
   simp only [Bool.false_eq_true, if_false] at a1 b1;unfold twoN Nd.rich;rw [if_neg (by decide), if_neg kb]
   by_cases hr : 4 < b.kids.length
   . simp only [hr, decide_true, if_true];obtain ⟨c1, c2⟩ := hcut (a.size + 1) (by omega) (by omega) (by rw [zlA]; omega) (by rw [zlA]; omega);exact ⟨c1, c2, by simp, by simp⟩
   .
    simp only [hr, decide_false, Bool.false_eq_true, if_false];refine ⟨fun k hk => ?_, ?_, by simp, by simp⟩
    .
     have : k = joinN a b := by simpa using hk
     rw [this]; exact hjoin (by rw [zlA]; omega) (by rw [zlA]; omega)
    . simp [hpj]
theorem Tm.not_small {h : Nat} {n : Nd} (t : Tm 1 3 h n) (hs : n.small = false) : Tm 2 4 h n := by
 unfold Nd.small at hs;cases h with
 | zero => obtain ⟨hk, h1, h3, ho⟩ := t.lf';rw [if_pos hk] at hs;exact .mk_lf hk (by simpa using hs) h3 ho
 | succ h => obtain ⟨hp, h0, h1, h3, ho⟩ := t.inn';rw [if_neg h0] at hs;exact .mk_inn hp h0 (by simpa using hs) h3 ho
theorem zib {key : ByteArray} {n : Nd} (h : n.kids ≠ []) : remN key n = inN (mendN (n.kids.set (zav n.kids key) (remN key (n.kids[zav n.kids key]'(zaG _ h)))) (zav n.kids key)) := by
 rw [remN, if_neg h];split
 . rename_i hc; have := zaG key h; rw [List.getElem?_eq_none_iff] at hc; omega
 .
  rename_i c hc
  obtain ⟨hi, rfl⟩ := List.getElem?_eq_some_iff.1 hc;rfl
theorem zcY {l : List Nd} {i : Nat} (hi : i < l.length) (h2 : 2 <= l.length) (hs : l[i].small = true) :
  mendN l i = l.take (i - 1) ++ twoN (l[i - 1]'(by omega)) (l[i - 1 + 1]'(by omega)) (decide (0 < i)) ++ l.drop (i - 1 + 2) := by
 unfold mendN;rw [List.getElem?_eq_getElem hi];simp only [hs, Bool.true_eq_false, if_false];rw [List.getElem?_eq_getElem (show i - 1 < l.length by omega), List.getElem?_eq_getElem (show i - 1 + 1 < l.length by omega)]
theorem zfo {l : List Nd} {i : Nat} (hi : i < l.length) (hs : l[i].small = false) : mendN l i = l := by
 unfold mendN;rw [List.getElem?_eq_getElem hi];simp only [hs, if_true]
theorem zkH {l : List Nd} {j : Nat} (h : j + 1 < l.length) : (l.map Nd.prs).flatten = ((l.take j).map Nd.prs).flatten ++ ((l[j].prs ++ l[j + 1].prs) ++ ((l.drop (j + 2)).map Nd.prs).flatten) := by
 have e : l = l.take j ++ [l[j], l[j + 1]] ++ l.drop (j + 2) := by
  rw [List.append_assoc];have e1 : [l[j], l[j + 1]] ++ l.drop (j + 2) = l.drop j := by rw [List.drop_eq_getElem_cons (show j < l.length by omega), List.drop_eq_getElem_cons h]; rfl
  rw [e1, List.take_append_drop]
 conv => lhs; rw [e]
 rw [flat3];simp
theorem zjE {l : List Nd} {h i : Nat} (hi : i < l.length) (h2 : 2 <= l.length) (h8 : l.length <= 8) (hk : ∀ (j : Nat) (hj : j < l.length), j ≠ i -> Tm 2 4 h l[j]) (hc : Tm 1 3 h l[i]) :
  (∀ k ∈ mendN l i, Tm 2 4 h k) /\ ((mendN l i).map Nd.prs).flatten = (l.map Nd.prs).flatten /\ l.length <= (mendN l i).length + 1 /\ (mendN l i).length <= 8 /\ mendN l i ≠ [] := by
 cases hs : l[i].small with
 | false =>
  rw [zfo hi hs];refine ⟨fun k hk' => ?_, rfl, by omega, h8, fun e => by rw [e] at h2; simp at h2⟩;obtain ⟨j, hj, rfl⟩ := List.mem_iff_getElem.1 hk'
  by_cases hji : j = i
  . subst hji; exact hc.not_small hs
  . exact hk j hj hji
 | true =>
  rw [zcY hi h2 hs, zkH (show i - 1 + 1 < l.length by omega)];have hj1 : i - 1 < l.length := by omega
  have hj2 : i - 1 + 1 < l.length := by omega
  have hA : Tm (if decide (0 < i) then 2 else 1) (if decide (0 < i) then 4 else 3) h l[i - 1] := by
   by_cases h0 : 0 < i
   . simp only [h0, decide_true, if_true]; exact hk _ hj1 (by omega)
   .
    obtain rfl : i = 0 := by omega
    exact hc
  have hB : Tm (if decide (0 < i) then 1 else 2) (if decide (0 < i) then 3 else 4) h l[i - 1 + 1] := by
   by_cases h0 : 0 < i
   .
    simp only [h0, decide_true, if_true];have e : i - 1 + 1 = i := by omega
    simp only [e]; exact hc
   .
    obtain rfl : i = 0 := by omega
    exact hk _ hj2 (by omega)
  have hS : (if decide (0 < i) then l[i - 1 + 1] else l[i - 1]).small = true := by
   by_cases h0 : 0 < i
   .
    simp only [h0, decide_true, if_true];have e : i - 1 + 1 = i := by omega
    simp only [e]; exact hs
   .
    obtain rfl : i = 0 := by omega
    exact hs
  obtain ⟨t1, t2, t3, t4⟩ := zld hA hB hS;refine ⟨fun k hk' => ?_, ?_, ?_, ?_, ?_⟩
  .
   rcases zmA.1 hk' with hm | hm
   .
    rcases zmA.1 hm with hm | hm
    . obtain ⟨j, hj, rfl⟩ := List.mem_iff_getElem.1 hm;rw [List.length_take] at hj;rw [List.getElem_take];exact hk j (by omega) (by omega)
    . exact t1 k hm
   . obtain ⟨j, hj, rfl⟩ := List.mem_iff_getElem.1 hm;rw [List.length_drop] at hj;rw [List.getElem_drop];exact hk _ (by omega) (by omega)
  . rw [flat3, t2]
  . simp only [zlA, List.length_take, List.length_drop]; omega
  . simp only [zlA, List.length_take, List.length_drop]; omega
  . intro e;have := congrArg List.length e;simp only [zlA, List.length_nil] at this;omega
theorem zfZ {key : ByteArray} : ∀ {n : Nd} {a b h : Nat}, a <= 2 -> b <= 4 -> 2 <= b -> Tm a b h n -> Asc n.prs -> Tm (a - 1) (b - 1) h (remN key n) /\ (remN key n).prs = zao n.prs key := by
 intro n
 induction n using Nd.ind with
 | h ps kids page ih =>
  intro a b h ha hb hb2 t hasc
  by_cases hk0 : kids = []
  . obtain rfl : h = 0 := t.leaf.2 hk0;obtain ⟨-, g1, g3, hk⟩ := t.lf';rw [zeu (n := .mk ps kids page) hk0];have hps : (Nd.mk ps kids page).prs = ps := Nd.prs_leaf hk0;simp only [Nd.ps] at g1 g3 hk |-;rw [hps] at hasc |-;obtain ⟨l1, l2⟩ := zd3 hasc key;exact ⟨.mk_lf rfl (by show a - 1 <= (zao ps key).length; omega) (by show (zao ps key).length <= 3; omega) fun p hp => hk p (List.mem_filter.1 hp).1, zc3 _⟩
  .
   obtain ⟨h, rfl⟩ : ∃ m, h = m + 1 := by
    cases h with
    | zero => exact absurd (t.leaf.1 rfl) hk0
    | succ m => exact ⟨m, rfl⟩
   obtain ⟨-, -, g2, g8, hk⟩ := t.inn';simp only [Nd.kids] at g2 g8 hk;have hprs : (Nd.mk ps kids page).prs = (kids.map Nd.prs).flatten := Nd.prs_inner hk0;rw [hprs] at hasc |-;rw [zib (n := .mk ps kids page) hk0];simp only [Nd.kids];have hil := zaG key hk0;obtain ⟨i, hi⟩ : ∃ i, zav kids key = i := ⟨_, rfl⟩;simp only [hi] at hil |-;obtain ⟨hA, hC⟩ := zc7 hk hasc hi hil;have hcm : kids[i] ∈ kids := List.getElem_mem hil;have hcasc : Asc kids[i].prs := hasc.sub (List.sublist_flatten_of_mem (List.mem_map.2 ⟨_, hcm, rfl⟩));obtain ⟨i1, i2⟩ := ih _ hcm (Nat.le_refl _) (Nat.le_refl _) (by decide) (hk _ hcm) hcasc;have hw := zgH (B := kids[i].prs) hA hC;rw [<- zcv hil] at hw;have hil' : i < (kids.set i (remN key kids[i])).length := by rw [List.length_set]; exact hil
   obtain ⟨m1, m2, m3, m4, m5⟩ := zjE (l := kids.set i (remN key kids[i])) (h := h) (i := i) hil' (by rw [List.length_set]; omega) (by rw [List.length_set]; omega) (fun j hj hji => by rw [List.getElem_set_ne (by omega)]; exact hk _ (List.getElem_mem _)) (by rw [List.getElem_set_self]; exact i1);refine ⟨.mk_inn rfl m5 (by rw [List.length_set] at m3; show b - 1 <= _; simp only [inN, Nd.kids]; omega) m4 m1, ?_⟩;rw [zcX m5, m2, zcv hil', List.getElem_set_self, List.take_set_of_le (Nat.le_refl _), List.drop_set_of_lt (Nat.lt_succ_self _), i2, hw]
theorem zji {key : ByteArray} {n : Nd} {h : Nat} (t : Tm 1 2 h n) (ha : Asc n.prs) :
  (dropN (some n) key = none /\ zao n.prs key = []) \/ ∃ m h', dropN (some n) key = some m /\ Tm 1 2 h' m /\ m.prs = zao n.prs key := by
 obtain ⟨t1, t2⟩ := zfZ (key := key) (by decide) (by decide) (by decide) t ha;unfold dropN;cases h with
 | zero =>
  obtain ⟨hk, h1, h3, ho⟩ := t1.lf';simp only [hk];have hsz : (remN key n).size = (remN key n).ps.length := by unfold Nd.size; rw [hk]; rfl
  have hpr := Nd.prs_leaf hk
  by_cases h0 : (remN key n).size = 0
  . rw [if_pos h0];refine .inl ⟨rfl, ?_⟩;rw [<- t2, hpr];exact List.eq_nil_of_length_eq_zero (by omega)
  . rw [if_neg h0];exact .inr ⟨_, 0, rfl, .mk_lf hk (by omega) h3 ho, t2⟩
 | succ h =>
  obtain ⟨hp, h0, h1, h3, ho⟩ := t1.inn';cases hks : (remN key n).kids with
  | nil => exact absurd hks h0
  | cons c r =>
   cases r with
   | nil => refine .inr ⟨c, h, by simp only [hks], (ho c (by rw [hks]; simp)).mono (by decide) (by decide), ?_⟩;rw [<- t2, Nd.prs_inner h0, hks]; simp
   | cons d r =>
    have hsz : ¬ (remN key n).size = 0 := by unfold Nd.size; rw [hks]; simp
    simp only [hks, if_neg hsz];exact .inr ⟨_, h + 1, rfl, .mk_inn hp h0 (by rw [hks]; simp) h3 ho, t2⟩
theorem zkU {x : Kv} (hx : KvOk x) {n : Nd} {h : Nat} (t : Tm 1 2 h n) (ha : Asc n.prs) : ∃ h', Tm 1 2 h' (putN (some n) x) /\ (putN (some n) x).prs = withP n.prs x := by
 obtain ⟨i1, i2⟩ := zlK hx (by decide) (by decide) (by decide) t ha;cases ho : (insN x n).2 with
 | none => rw [ziF ho]; exact ⟨h, i1 ho⟩
 | some c =>
  obtain ⟨j1, j2, j3⟩ := i2 c ho;rw [ziB ho];refine ⟨h + 1, .mk_inn rfl (by simp [inN, Nd.kids]) (by simp [inN, Nd.kids]) (by simp [inN, Nd.kids]) fun k hk => ?_, ?_⟩
  .
   have : k = (insN x n).1 \/ k = c := by simpa [inN, Nd.kids] using hk
   rcases this with rfl | rfl
   . exact j1
   . exact j2
  . rw [zcX (by simp), <- j3]; simp
theorem zkA {x : Kv} (hx : KvOk x) : Tm 1 2 0 (putN none x) /\ (putN none x).prs = [x] := by
 refine ⟨.mk_lf rfl (by show 1 <= [x].length; simp) (by show [x].length <= 3; simp) fun p hp => ?_, zc3 _⟩;have : p = x := by simpa [putN, lfN, Nd.ps] using hp
 rw [this]; exact hx
def OTm (o : Option Nd) : Prop := ∀ n, o = some n -> (∃ h, Tm 1 2 h n) /\ Asc n.prs
theorem ziu {o : Option Nd} {c : Chg} (h : OTm o) (hc : c.hasNew = true -> KvOk (c.key, c.new)) : OTm (chg1 o c) /\ zaf (chg1 o c) = if c.hasNew then withP (zaf o) (c.key, c.new) else zao (zaf o) c.key := by
 unfold chg1;cases hn : c.hasNew with
 | true =>
  simp only [if_true];cases o with
  | none =>
   obtain ⟨h1, h2⟩ := zkA (hc hn);refine ⟨fun n e => ?_, ?_⟩
   . cases e; exact ⟨⟨0, h1⟩, by rw [h2]; exact List.pairwise_singleton _ _⟩
   . simp only [zaf]; rw [h2]; rfl
  | some n =>
   obtain ⟨⟨k, h1⟩, h2⟩ := h n rfl;obtain ⟨k', h3, h4⟩ := zkU (hc hn) h1 h2;refine ⟨fun m e => ?_, ?_⟩
   . cases e; exact ⟨⟨k', h3⟩, by rw [h4]; exact zj5 h2 _⟩
   . simp only [zaf]; exact h4
 | false =>
  simp only [Bool.false_eq_true, if_false];cases o with
  | none => exact ⟨fun n e => (by cases e), rfl⟩
  | some n =>
   obtain ⟨⟨k, h1⟩, h2⟩ := h n rfl;rcases zji (key := c.key) h1 h2 with ⟨e1, e2⟩ | ⟨m, k', e1, e2, e3⟩
   . rw [e1]; exact ⟨fun n e => (by cases e), by simp only [zaf]; exact e2.symm⟩
   . rw [e1];refine ⟨fun n e => ?_, by simp only [zaf]; exact e3⟩;cases e; exact ⟨⟨k', e2⟩, by rw [e3]; exact zgX h2 _⟩
end Go.Proofs.YtlefmmhlpgmbjaaGreat
