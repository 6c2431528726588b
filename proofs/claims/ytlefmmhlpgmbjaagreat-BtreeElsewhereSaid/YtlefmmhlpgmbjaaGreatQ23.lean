/- Plain laws of layer 42: lookups in a tree are lookups in its pairs; pairs after changes; what the statements' Changes and After return. No function of the program is named here. quiltref42.SamePairs, sameInts, Same; lists of pairs in memory. Acts of layer 42 in memory; law42.fits, Fine. law42.value, power. slices.ContainsFunc of changes, by a key. -/
import Derived.Test.YtlefmmhlpgmbjaaGreatQ22
import Derived.Test.YtlefmmhlpgmbjaaGreatQ19
import Derived.Test.YtlefmmhlpgmbjaaGreatQ08
import Derived.Test.YtlefmmhlpgmbjaaGreatQ04
import Derived.Test.YtlefmmhlpgmbjaaGreatQ05
import Derived.Laws.StructEq
import Derived.Test.YtlefmmhlpgmbjaaGreatQ09
import Derived.Test.YtlefmmhlpgmbjaaGreatQ01
namespace Go.Proofs.YtlefmmhlpgmbjaaGreat
set_option maxRecDepth 100000
open Go.RowKit
def AscG {α : Type} (key : α -> ByteArray) (l : List α) : Prop := l.Pairwise fun a b => kLt (key a) (key b) = true
theorem asc_unique {α : Type} {key : α -> ByteArray} : ∀ {l m : List α}, AscG key l -> AscG key m -> (∀ x, x ∈ l ↔ x ∈ m) -> l = m
 | [], [], _, _, _ => rfl
 | [], y :: m, _, _, h => by have := (h y).2 (by simp); cases this
 | x :: l, [], _, _, h => by have := (h x).1 (by simp); cases this
 | x :: l, y :: m, h1, h2, h => by
  obtain ⟨a1, a2⟩ := List.pairwise_cons.1 h1
  obtain ⟨b1, b2⟩ := List.pairwise_cons.1 h2
  have hxy : x = y := by
   rcases zmC.1 ((h x).1 (by simp)) with e | hx
   .
    exact e
   .
    rcases zmC.1 ((h y).2 (by simp)) with e | hy
    .
     exact e.symm
    .
     have := kLt_asymm (b1 x hx); rw [a1 y hy] at this; cases this
  subst hxy
  have : l = m := by
   refine asc_unique a2 b2 fun z => ⟨fun hz => ?_, fun hz => ?_⟩
   .
    rcases zmC.1 ((h z).1 (by simp [hz])) with rfl | h'
    .
     have := a1 z hz; rw [kLt_irrefl] at this; cases this
    .
     exact h'
   .
    rcases zmC.1 ((h z).2 (by simp [hz])) with rfl | h'
    .
     have := b1 z hz; rw [kLt_irrefl] at this; cases this
    .
     exact h'
  rw [this]
theorem AscG.nodup {α : Type} {key : α -> ByteArray} {l : List α} (h : AscG key l) : (l.map key).Nodup := by
 unfold List.Nodup
 rw [List.pairwise_map]
 exact h.imp fun h => kLt_ne h
def valK (l : List Kv) (key : ByteArray) : ByteArray × Bool :=
 match l.find? fun p => decide (p.1 = key) with
 | none => (ByteArray.empty, false)
 | some p => (p.2, true)
theorem valK_none {l : List Kv} {key : ByteArray} (h : (valK l key).2 = false) : valK l key = (ByteArray.empty, false) /\ ∀ p ∈ l, p.1 ≠ key := by
 unfold valK at h |-
 cases hf : l.find? fun p => decide (p.1 = key) with
 | none =>
  rw [List.find?_eq_none] at hf
  exact ⟨rfl, fun p hp e => hf p hp (by simpa using e)⟩
 | some p => rw [hf] at h; cases h
theorem valK_not {l : List Kv} {key : ByteArray} (h : ∀ p ∈ l, p.1 ≠ key) : valK l key = (ByteArray.empty, false) := by
 unfold valK
 have : l.find? (fun p => decide (p.1 = key)) = none := List.find?_eq_none.2 fun p hp => by simpa using h p hp
 rw [this]
theorem valK_mid {A B C : List Kv} {key : ByteArray} (hA : ∀ p ∈ A, kLt p.1 key = true) (hC : ∀ p ∈ C, kLt key p.1 = true) : valK (A ++ (B ++ C)) key = valK B key := by
 have h1 : A.find? (fun p => decide (p.1 = key)) = none := List.find?_eq_none.2 fun p hp => by simpa using kLt_ne (hA p hp)
 have h2 : C.find? (fun p => decide (p.1 = key)) = none := List.find?_eq_none.2 fun p hp => by simpa using fun e : p.1 = key => kLt_ne (hC p hp) e.symm
 unfold valK
 rw [List.find?_append, h1, List.find?_append, h2]
 simp
theorem getL_val {ps : List Kv} (h : Asc ps) (key : ByteArray) : getL ps key = valK ps key := by
 induction ps with
 | nil => rfl
 | cons p l ih =>
  obtain ⟨h1, h2⟩ := List.pairwise_cons.1 h
  have ih' := ih h2
  by_cases hp : kLt p.1 key = true
  .
   have e1 : findI (p :: l) key = findI l key + 1 := by unfold findI; rw [List.takeWhile_cons, if_pos hp]; rfl
   have e2 : findB (p :: l) key = findB l key := by unfold findB; rw [e1]; rfl
   have e3 : valK (p :: l) key = valK l key := by
    unfold valK
    rw [List.find?_cons_of_neg (by simpa using kLt_ne hp)]
   rw [e3, <- ih']
   unfold getL
   rw [e1, e2]
   rfl
  .
   have hp' : kLt p.1 key = false := by simpa using hp
   have e1 : findI (p :: l) key = 0 := by unfold findI; rw [List.takeWhile_cons, if_neg hp]; rfl
   by_cases hk : p.1 = key
   .
    have e3 : valK (p :: l) key = (p.2, true) := by
     unfold valK
     rw [List.find?_cons_of_pos (by simpa using hk)]
    have e2 : findB (p :: l) key = true := by unfold findB; rw [e1]; simpa using hk
    rw [e3]
    unfold getL
    rw [e1, e2]
    rfl
   .
    have e2 : findB (p :: l) key = false := by unfold findB; rw [e1]; simpa using hk
    have hlt : kLt key p.1 = true := by
     cases g : kLt key p.1
     .
      exact absurd (kLt_total hp' g) hk
     .
      rfl
    have e3 : valK (p :: l) key = (ByteArray.empty, false) := valK_not fun q hq e => by
     rcases zmC.1 hq with rfl | hq
     .
      exact hk e
     .
      have := kLt_trans hlt (h1 q hq)
      rw [e, kLt_irrefl] at this
      cases this
    rw [e3]
    unfold getL
    rw [e2]
    rfl
theorem leaf_val (key : ByteArray) : ∀ {n : Nd} {a b h : Nat}, Tm a b h n -> Asc n.prs -> getL (n.leafAt key) key = valK n.prs key := by
 intro n
 induction n using Nd.ind with
 | h ps kids page ih =>
  intro a b h t ha
  by_cases hk0 : kids = []
  .
   rw [Nd.leafAt_leaf (n := .mk ps kids page) hk0, Nd.prs_leaf (n := .mk ps kids page) hk0]
   rw [Nd.prs_leaf (n := .mk ps kids page) hk0] at ha
   exact getL_val ha key
  .
   obtain ⟨h, rfl⟩ : ∃ m, h = m + 1 := by
    cases h with
    | zero => exact absurd (t.leaf.1 rfl) hk0
    | succ m => exact ⟨m, rfl⟩
   obtain ⟨-, -, g2, g8, hk⟩ := t.inn'
   simp only [Nd.kids] at hk
   have hprs : (Nd.mk ps kids page).prs = (kids.map Nd.prs).flatten := Nd.prs_inner hk0
   rw [Nd.leafAt_kid (n := .mk ps kids page) hk0, hprs]
   rw [hprs] at ha
   simp only [Nd.kids]
   have hil := childP_lt key hk0
   obtain ⟨i, hi⟩ : ∃ i, childP kids key = i := ⟨_, rfl⟩
   simp only [hi] at hil |-
   obtain ⟨hA, hC⟩ := child_parts hk ha hi hil
   have hcm : kids[i] ∈ kids := List.getElem_mem hil
   have hcasc : Asc kids[i].prs := ha.sub (List.sublist_flatten_of_mem (List.mem_map.2 ⟨_, hcm, rfl⟩))
   rw [ih _ hcm (hk _ hcm) hcasc, kids_parts hil, valK_mid hA hC]
theorem getO_val {t : Option Nd} (h : OTm t) (key : ByteArray) : getO t key = valK (pairsO t) key := by
 cases t with
 | none => rfl
 | some n =>
  obtain ⟨⟨k, h1⟩, h2⟩ := h n rfl
  exact leaf_val key h1 h2
theorem applyL_asc : ∀ {cs : List Chg} {l : List Kv}, Asc l -> Asc (applyL l cs)
 | [], _, h => h
 | c :: cs, l, h => by
  unfold applyL
  rw [List.foldl_cons]
  refine applyL_asc (cs := cs) ?_
  split
  .
   exact asc_withP h _
  .
   exact asc_withoutP h _
theorem applyL_len : ∀ {cs : List Chg} {l : List Kv}, Asc l -> (applyL l cs).length <= l.length + cs.length
 | [], _, _ => by simp [applyL]
 | c :: cs, l, h => by
  have hs : Asc (if c.hasNew then withP l (c.key, c.new) else withoutP l c.key) /\ (if c.hasNew then withP l (c.key, c.new) else withoutP l c.key).length <= l.length + 1 := by
   split
   .
    exact ⟨asc_withP h _, (withP_len h _).2.1⟩
   .
    exact ⟨asc_withoutP h _, by have := (withoutP_len h c.key).2; omega⟩
  have := applyL_len (cs := cs) hs.1
  unfold applyL at this |-
  rw [List.foldl_cons, zlC]
  omega
theorem mem_applyL : ∀ {cs : List Chg} {l : List Kv}, Asc l -> (cs.map Chg.key).Nodup -> ∀ p, p ∈ applyL l cs ↔ (p ∈ l /\ ∀ c ∈ cs, c.key ≠ p.1) \/ ∃ c ∈ cs, c.hasNew = true /\ p = (c.key, c.new)
 | [], l, _, _, p => by simp [applyL]
 | c :: cs, l, h, hn, p => by
  rw [List.map_cons, List.nodup_cons] at hn
  have hs : Asc (if c.hasNew then withP l (c.key, c.new) else withoutP l c.key) := by
   split
   .
    exact asc_withP h _
   .
    exact asc_withoutP h _
  have hm : ∀ q, q ∈ (if c.hasNew then withP l (c.key, c.new) else withoutP l c.key) ↔ (q ∈ l /\ c.key ≠ q.1) \/ (c.hasNew = true /\ q = (c.key, c.new)) := by
   intro q
   cases hc : c.hasNew with
   | true =>
    simp only [if_true]
    rw [mem_withP h]
    constructor
    .
     rintro (h1 | ⟨h1, h2⟩)
     .
      exact .inr ⟨trivial, h1⟩
     .
      exact .inl ⟨h1, fun e => h2 e.symm⟩
    .
     rintro (⟨h1, h2⟩ | ⟨_, h1⟩)
     .
      exact .inr ⟨h1, fun e => h2 e.symm⟩
     .
      exact .inl h1
   | false =>
    simp only [Bool.false_eq_true, if_false, false_and, or_false]
    unfold withoutP
    rw [List.mem_filter]
    simp only [ne_eq, decide_not, Bool.not_eq_eq_eq_not, Bool.not_true, decide_eq_false_iff_not]
    exact ⟨fun ⟨a, b⟩ => ⟨a, fun e => b e.symm⟩, fun ⟨a, b⟩ => ⟨a, fun e => b e.symm⟩⟩
  have ih := mem_applyL (cs := cs) hs hn.2 p
  unfold applyL at ih |-
  rw [List.foldl_cons, ih, hm]
  constructor
  .
   rintro (⟨h1 | ⟨h1, rfl⟩, h2⟩ | ⟨c', h1, h2, h3⟩)
   .
    exact .inl ⟨h1.1, fun x hx => (zmC.1 hx).elim (fun e => e ▸ h1.2) (h2 x)⟩
   .
    exact .inr ⟨c, by simp, h1, rfl⟩
   .
    exact .inr ⟨c', by simp [h1], h2, h3⟩
  .
   rintro (⟨h1, h2⟩ | ⟨c', h1, h2, h3⟩)
   .
    exact .inl ⟨.inl ⟨h1, h2 c (by simp)⟩, fun x hx => h2 x (by simp [hx])⟩
   .
    rcases zmC.1 h1 with rfl | h1
    .
     subst h3
     exact .inl ⟨.inr ⟨h2, rfl⟩, fun x hx e => hn.1 (List.mem_map.2 ⟨x, hx, e⟩)⟩
    .
     exact .inr ⟨c', h1, h2, h3⟩
def afterL (l : List Kv) (cs : List Chg) : List Kv := (l.filter fun p => !(cs.any fun c => decide (c.key = p.1))) ++ (cs.filter Chg.hasNew).map fun c => (c.key, c.new)
theorem afterL_mem {l : List Kv} {cs : List Chg} (h : Asc l) (hn : (cs.map Chg.key).Nodup) (p : Kv) : p ∈ afterL l cs ↔ p ∈ applyL l cs := by
 rw [mem_applyL h hn]
 unfold afterL
 rw [zmA, List.mem_filter, List.mem_map]
 refine or_congr (and_congr_right fun _ => ?_) ?_
 .
  simp only [Bool.not_eq_eq_eq_not, Bool.not_true, List.any_eq_false, decide_eq_true_eq]
  first | done | exact Iff.rfl
 .
  constructor
  .
   rintro ⟨c, hc, rfl⟩
   obtain ⟨h1, h2⟩ := List.mem_filter.1 hc
   exact ⟨c, h1, h2, rfl⟩
  .
   rintro ⟨c, h1, h2, rfl⟩
   exact ⟨c, List.mem_filter.2 ⟨h1, h2⟩, rfl⟩
theorem afterL_nodup {l : List Kv} {cs : List Chg} (h : Asc l) (hn : (cs.map Chg.key).Nodup) : ((afterL l cs).map Prod.fst).Nodup := by
 unfold afterL
 rw [List.map_append, List.nodup_append]
 refine ⟨?_, ?_, ?_⟩
 .
  exact (AscG.nodup (key := Prod.fst) (h.sub List.filter_sublist))
 .
  rw [List.map_map]
  exact hn.sublist ((List.filter_sublist).map Chg.key)
 .
  intro a ha b hb e
  subst e
  obtain ⟨p, hp, e1⟩ := List.mem_map.1 ha
  obtain ⟨q, hq, e2⟩ := List.mem_map.1 hb
  obtain ⟨c, hc, rfl⟩ := List.mem_map.1 hq
  have h1 := (List.mem_filter.1 hp).2
  simp only [Bool.not_eq_eq_eq_not, Bool.not_true, List.any_eq_false, decide_eq_true_eq] at h1
  exact h1 c (List.mem_filter.1 hc).1 (e2.trans e1.symm)
theorem afterL_len (l : List Kv) (cs : List Chg) : (afterL l cs).length <= l.length + cs.length := by
 unfold afterL
 rw [zlA, List.length_map]
 have h1 := List.length_filter_le (fun p : Kv => !(cs.any fun c => decide (c.key = p.1))) l
 have h2 := List.length_filter_le Chg.hasNew cs
 omega
theorem chgsE_asc : ∀ {l : List Chg} {p : Option Chg}, chgsE p l = 0 -> AscG Chg.key l /\ ∀ q, p = some q -> ∀ c ∈ l, kLt q.key c.key = true
 | [], _, _ => ⟨List.Pairwise.nil, fun _ _ c hc => by cases hc⟩
 | x :: l, p, h => by
  rw [chgsE] at h
  split at h
  .
   rename_i hx; exact absurd h hx
  .
   rename_i hx
   have hx0 : chgE p x = 0 := by simpa using hx
   obtain ⟨h1, h2⟩ := chgsE_asc h
   have hup := h2 x rfl
   refine ⟨List.pairwise_cons.2 ⟨hup, h1⟩, ?_⟩
   rintro q rfl
   have hqx : kLt q.key x.key = true := by
    cases hq : kLt q.key x.key with
    | true => rfl
    | false =>
     have : chgE (some q) x ≠ 0 := by
      unfold chgE
      simp only [hq, Bool.not_false, if_true]
      split <;> simp
     exact absurd hx0 this
   intro c hc
   rcases zmC.1 hc with rfl | hc
   .
    exact hqx
   .
    exact kLt_trans hqx (hup c hc)
structure ActB where
 kind : Int
 chgs : List Chg
 puts : List Kv
 dels : List ByteArray
 left : Int
 picks : List Int
def addG (l : List Kv) (out : List Chg) (c : Chg) : List Chg :=
 if out.any (fun x => decide (x.key = c.key)) then out
 else if (valK l c.key).2 || c.hasNew then out ++ [{ c with old := (valK l c.key).1, hasOld := (valK l c.key).2 }] else out
def putC (p : Kv) : Chg := ⟨p.1, false, ByteArray.empty, true, p.2⟩
def delC (k : ByteArray) : Chg := ⟨k, false, ByteArray.empty, false, ByteArray.empty⟩
def rawC (a : ActB) (l : List Kv) : List Chg := a.dels.foldl (fun o k => addG l o (delC k)) (a.puts.foldl (fun o p => addG l o (putC p)) [])
def sortC (l : List Chg) : List Chg := l.mergeSort fun x y => !kLt y.key x.key
def chgsOf (a : ActB) (l : List Kv) : List Chg := if a.kind ≠ 1 then a.chgs else sortC (rawC a l)
def GoodC (l : List Kv) (c : Chg) : Prop := c.old = (valK l c.key).1 /\ c.hasOld = (valK l c.key).2 /\ (c.hasOld || c.hasNew) = true /\ (c.hasNew = false -> c.new = ByteArray.empty)
theorem addG_ok {l : List Kv} {out : List Chg} {c : Chg} (hn : (out.map Chg.key).Nodup) (hg : ∀ x ∈ out, GoodC l x) (hc : c.hasNew = false -> c.new = ByteArray.empty) : ((addG l out c).map Chg.key).Nodup /\ (∀ x ∈ addG l out c, GoodC l x) /\ (addG l out c).length <= out.length + 1 := by
 unfold addG
 split
 .
  exact ⟨hn, hg, by omega⟩
 .
  rename_i h1
  split
  .
   rename_i h2
   refine ⟨?_, ?_, by simp⟩
   .
    rw [List.map_append, List.nodup_append]
    refine ⟨hn, by simp, fun a ha b hb e => ?_⟩
    subst e
    simp only [List.map_cons, List.map_nil, zmS] at hb
    obtain ⟨x, hx, e⟩ := List.mem_map.1 ha
    refine h1 (List.any_eq_true.2 ⟨x, hx, ?_⟩)
    simp only [decide_eq_true_eq]
    rw [e, hb]
   .
    intro x hx
    rcases zmA.1 hx with hx | hx
    .
     exact hg x hx
    .
     rw [zmS] at hx
     subst hx
     exact ⟨rfl, rfl, h2, hc⟩
  .
   exact ⟨hn, hg, by omega⟩
theorem foldG_ok {β : Type} {l : List Kv} {f : β -> Chg} (hf : ∀ b, (f b).hasNew = false -> (f b).new = ByteArray.empty) : ∀ (bs : List β) {out : List Chg}, (out.map Chg.key).Nodup -> (∀ x ∈ out, GoodC l x) ->
  ((bs.foldl (fun o b => addG l o (f b)) out).map Chg.key).Nodup /\ (∀ x ∈ bs.foldl (fun o b => addG l o (f b)) out, GoodC l x) /\ (bs.foldl (fun o b => addG l o (f b)) out).length <= out.length + bs.length
 | [], out, hn, hg => ⟨hn, hg, by simp⟩
 | b :: bs, out, hn, hg => by
  obtain ⟨h1, h2, h3⟩ := addG_ok hn hg (hf b)
  obtain ⟨g1, g2, g3⟩ := foldG_ok hf bs h1 h2
  rw [List.foldl_cons]
  exact ⟨g1, g2, by rw [zlC]; omega⟩
theorem rawC_ok (a : ActB) (l : List Kv) : ((rawC a l).map Chg.key).Nodup /\ (∀ x ∈ rawC a l, GoodC l x) /\ (rawC a l).length <= a.puts.length + a.dels.length := by
 obtain ⟨h1, h2, h3⟩ := foldG_ok (l := l) (f := putC) (fun b h => by cases h) a.puts (out := []) List.nodup_nil (fun x hx => by cases hx)
 obtain ⟨g1, g2, g3⟩ := foldG_ok (l := l) (f := delC) (fun b _ => rfl) a.dels h1 h2
 rw [List.length_nil] at h3
 exact ⟨g1, g2, by unfold rawC; omega⟩
theorem sortC_perm (l : List Chg) : (sortC l).Perm l := List.mergeSort_perm _ _
theorem sortC_asc {l : List Chg} (h : (l.map Chg.key).Nodup) : AscG Chg.key (sortC l) := by
 have hs : (sortC l).Pairwise fun x y => (!kLt y.key x.key) = true := by
  refine List.pairwise_mergeSort (fun a b c h1 h2 => ?_) (fun a b => ?_) l
  .
   simp only [Bool.not_eq_eq_eq_not, Bool.not_true] at *
   cases g : kLt c.key a.key
   .
    rfl
   .
    have := kLe_lt h2 g
    rw [this] at h1; cases h1
  .
   cases g : kLt b.key a.key
   .
    rfl
   .
    rw [kLt_asymm g]; rfl
 have hn : ((sortC l).map Chg.key).Nodup := ((sortC_perm l).map Chg.key).nodup_iff.2 h
 have hn' : (sortC l).Pairwise fun x y => x.key ≠ y.key := by
  unfold List.Nodup at hn
  rwa [List.pairwise_map] at hn
 refine (hs.and hn').imp fun {x y} ⟨h1, h2⟩ => ?_
 simp only [Bool.not_eq_eq_eq_not, Bool.not_true] at h1
 cases g : kLt x.key y.key
 .
  exact absurd (kLt_total g h1) h2
 .
  rfl
theorem sortC_eq {l m : List Chg} (h : (l.map Chg.key).Nodup) (hp : m.Perm l) (ha : AscG Chg.key m) : m = sortC l :=
 asc_unique ha (sortC_asc h) fun _x => hp.mem_iff.trans (sortC_perm l).mem_iff.symm
theorem sortC_len (l : List Chg) : (sortC l).length = l.length := (sortC_perm l).length_eq
theorem chgsOf_len (a : ActB) (l : List Kv) : (chgsOf a l).length <= max a.chgs.length (a.puts.length + a.dels.length) := by
 unfold chgsOf
 split
 .
  omega
 .
  rw [sortC_len]; have := (rawC_ok a l).2.2; omega
theorem chgsE_good {l : List Kv} : ∀ {cs : List Chg} {p : Option Chg}, AscG Chg.key cs -> (∀ q, p = some q -> ∀ c ∈ cs, kLt q.key c.key = true) -> (∀ c ∈ cs, GoodC l c) -> chgsE p cs = 0 \/ chgsE p cs = 4
 | [], _, _, _, _ => .inl rfl
 | c :: cs, p, ha, hp, hg => by
  obtain ⟨h1, h2⟩ := List.pairwise_cons.1 ha
  obtain ⟨g1, g2, g3, g4⟩ := hg c (by simp)
  have he : chgE p c = 0 \/ chgE p c = 4 := by
   unfold chgE
   split
   .
    exact .inr rfl
   .
    left
    rw [if_neg, if_neg]
    .
     rintro (⟨e1, e2⟩ | ⟨e1, e2⟩ | ⟨e1, e2⟩)
     .
      rw [e1, e2] at g3; cases g3
     .
      rw [g2] at e1
      rw [g1, (valK_none e1).1] at e2
      exact e2 rfl
     .
      exact e2 (g4 e1)
    .
     cases p with
     | none => simp
     | some q => simp [hp q rfl c (by simp)]
  rw [chgsE]
  rcases he with he | he
  .
   rw [if_neg (by simp [he])]
   exact chgsE_good h2 (fun q hq x hx => by cases hq; exact h1 x hx) fun x hx => hg x (by simp [hx])
  .
   rw [if_pos (by rw [he]; decide), he]
   exact .inr rfl
theorem clash_good {t : Option Nd} (h : OTm t) {cs : List Chg} (hg : ∀ c ∈ cs, GoodC (pairsO t) c) : cs.any (clashO t) = false := by
 rw [List.any_eq_false]
 intro c hc
 obtain ⟨g1, g2, _, _⟩ := hg c hc
 unfold clashO
 rw [getO_val h, <- g1, <- g2]
 simp
theorem chgsOf_one {a : ActB} (h : a.kind = 1) (l : List Kv) : AscG Chg.key (chgsOf a l) /\ ∀ c ∈ chgsOf a l, GoodC l c := by
 unfold chgsOf
 rw [if_neg (by simpa using h)]
 obtain ⟨h1, h2, _⟩ := rawC_ok a l
 exact ⟨sortC_asc h1, fun c hc => h2 c ((sortC_perm _).mem_iff.1 hc)⟩
theorem slw_len {o : Option Addr} {n c : Nat} (h : SlW o n c) : n <= 9223372036854775807 := by
 rcases h with ⟨_, rfl, _⟩ | ⟨_, _, h1, h2⟩
 .
  omega
 .
  unfold maxLen at h2; omega
def KvsAt (w : World) (o : Option Addr) (l : List Kv) : Prop := RowAt (· < w.heap.size) w o (kvsC l)
theorem KvsAt.below {w w' : World} {o : Option Addr} {l : List Kv} (h : KvsAt w o l) (hb : Below w.heap.size w w') : KvsAt w' o l := (RowAt.below h hb).mono fun _ h => znL h hb.size
theorem KvsAt.nil (w : World) (o : Option Addr) : KvsAt w o [] := RowAt.nil _ _ _
theorem KvsAt.cell {w : World} {o : Option Addr} {l : List Kv} (h : KvsAt w o l) {i : Nat} (hi : i < l.length) : ∃ g off, o = some ⟨g, off, none⟩ /\ g < w.heap.size /\ w.cell? ⟨g, off + i * 2, none⟩ = some (.string l[i].1) /\ w.cell? ⟨g, off + i * 2 + 1, none⟩ = some (.string l[i].2) := by
 have hl := kvsC_len l
 obtain ⟨c0, c1⟩ := kvsC_get hi
 have h0 : i * 2 < (kvsC l).length := by omega
 have h1 : i * 2 + 1 < (kvsC l).length := by omega
 obtain ⟨g, off, rfl, hc, hg⟩ := h (i * 2) h0
 obtain ⟨g', off', e', hc', -⟩ := h (i * 2 + 1) h1
 obtain ⟨rfl, rfl⟩ : g = g' /\ off = off' := by simpa using e'
 refine ⟨g, off, rfl, hg, ?_, ?_⟩
 .
  rw [hc, <- List.getElem?_eq_getElem h0, c0]
 .
  rw [Nat.add_assoc, hc', <- List.getElem?_eq_getElem h1, c1]
theorem PairsR.at {w : World} {base : Nat} {v : Value} {l : List Kv} (h : w.ownsRow base 77 2 v l.length (kvsC l)) : ∃ o c, v = .slice o l.length c /\ SlW o l.length c /\ KvsAt w o l := by
 obtain ⟨o, c, e, hs, hr, -⟩ := ownsRow_at h
 exact ⟨o, c, e, hs, hr.mono fun _ hb => hb.2⟩
theorem take_stepG {α : Type} {l m : List α} {k : Nat} (h : k < l.length) (h' : k < m.length) (e : l.take k = m.take k) (x : l[k] = m[k]) : l.take (k + 1) = m.take (k + 1) := by
 rw [List.take_succ_eq_append_getElem h, List.take_succ_eq_append_getElem h', e, x]
set_option maxHeartbeats 800000 in
theorem rb_sameInts (l m : List Int) (a b : Option Addr) (c d : Nat) (w : World) {S T : Nat -> Prop} (ha : IntsAt S w a l) (hb : IntsAt T w b m) (hl : l.length <= 9223372036854775807) (hm : m.length <= 9223372036854775807) :
  Calls Tryz.prog 58 #[.slice a l.length c, .slice b m.length d] w fun e w' => e = .returned (.bool (decide (l = m))) /\ Below w.heap.size w w' := by
 obtain ⟨r, hr⟩ : ∃ r, decide (l = m) = r := ⟨_, rfl⟩
 rw [hr]
 cases g : ((l.length : Int) != (m.length : Int))
 .
  have hlm : l.length = m.length := by have := g; simp at this; omega
  go_enter Tryz.func58, Tryz.ntmps58
  go_wp2
  go_loopw [5] (fun i wr => ∃ (k : Nat), k <= l.length /\ i = .int .i64 k /\ l.take k = m.take k /\ Below w.heap.size w wr) (fun i _ => l.length - (intOf i).toNat)
  case atStart => exact ⟨0, Nat.zero_le _, rfl, by simp, Below.refl _ _⟩
  case round =>
   obtain ⟨k, hk, rfl, hq0, hB⟩ := hrel
   by_cases hlt : k < l.length
   .
    have hlt' : k < m.length := by omega
    obtain ⟨ba, offa, rfl, hcell0, _⟩ := ha k hlt
    obtain ⟨bb, offb, rfl, hcell0', _⟩ := hb k hlt'
    have hcell : wr.cell? ⟨ba, offa + k, none⟩ = some (.int .i64 l[k]) := by rw [hB.cell (World.block_lt_of_cell? w _ hcell0)]; exact hcell0
    have hcell' : wr.cell? ⟨bb, offb + k, none⟩ = some (.int .i64 m[k]) := by rw [hB.cell (World.block_lt_of_cell? w _ hcell0')]; exact hcell0'
    clear hcell0 hcell0'
    cases hs : (l[k] == m[k])
    .
     have hres : Hid (r = false) := by
      unfold Hid
      rw [<- hr, decide_eq_false]
      intro e
      subst e
      simp at hs
     clear hlm hq0
     go_wp2
     go_quiet (fail)
     go_wp2
     go_ret
     exact ⟨by rw [hres.out]; rfl, Below.drewN hB _⟩
    .
     have hst := zhI (take_stepG hlt hlt' hq0 (by simpa using hs))
     clear hlm hq0
     go_wp2
     go_quiet (fail)
     go_wp2
     go_roundw
     case rel => exact ⟨k + 1, by omega, by go_num, hst.out, Below.drewN hB _⟩
     case measure => simp [intOf]; omega
   .
    have hres : Hid (r = true) := by
     unfold Hid
     rw [<- hr, decide_eq_true]
     rw [List.take_of_length_le (by omega), List.take_of_length_le (by omega)] at hq0
     exact hq0
    clear hlm hq0
    go_wp2
    go_ret
    exact ⟨by rw [hres.out]; rfl, hB⟩
 .
  have hres : Hid (r = false) := by
   unfold Hid
   rw [<- hr, decide_eq_false]
   intro e
   subst e
   simp at g
  go_enter Tryz.func58, Tryz.ntmps58
  go_wp2
  go_ret
  exact ⟨by rw [hres.out]; rfl, Below.refl _ _⟩
theorem neqPr (a b c d : ByteArray) (w : World) : (binOp .neq 77 (.agg #[.string a, .string b]) (.agg #[.string c, .string d])).run Tryz.prog w = .ok (.bool (!(a.toList == c.toList && b.toList == d.toList))) w := by
 have u9 := Tryz.underlying9
 have a9 := Tryz.isAgg9
 have z9 := Tryz.sizeOf9
 have hS : Tryz.prog.underlying 77 = some (.struct (Tryz.prog.fieldsOf 77)) := by kernel_rfl
 have hp : Tryz.prog.stoodInHeld 77 = false := by kernel_rfl
 rw [run_neq_struct, show (10000 : Nat) = 9999 + 1 from rfl, run_equalIn_agg w 9999 77 _ _ hS hp]
 simp only [Program.fieldsOf, Tryz.underlying77]
 go_simp
 by_cases h1 : a.toList = c.toList <;> by_cases h2 : b.toList = d.toList <;> simp [h1, h2]
theorem guardPr (op : BinOp) (x y : Operand) (xs ys : Array Value) (w : World) : (eqGuard op 77 x y (.agg xs) (.agg ys)).run Tryz.prog w = .ok () w := run_eqGuard_agg w op _ x y xs ys (by kernel_rfl)
set_option maxHeartbeats 800000 in
theorem rb_SamePairs (l m : List Kv) (a b : Option Addr) (c d : Nat) (w : World) (ha : KvsAt w a l) (hb : KvsAt w b m) (hl : l.length <= 9223372036854775807) (hm : m.length <= 9223372036854775807) :
  Calls Tryz.prog 24 #[.slice a l.length c, .slice b m.length d] w fun e w' => e = .returned (.bool (decide (l = m))) /\ Below w.heap.size w w' := by
 obtain ⟨r, hr⟩ : ∃ r, decide (l = m) = r := ⟨_, rfl⟩
 rw [hr]
 cases g : ((l.length : Int) != (m.length : Int))
 .
  have hlm : l.length = m.length := by have := g; simp at this; omega
  go_enter Tryz.func24, Tryz.ntmps24
  go_wp2
  go_loopw [5] (fun i wr => ∃ (k : Nat), k <= l.length /\ i = .int .i64 k /\ l.take k = m.take k /\ Below w.heap.size w wr) (fun i _ => l.length - (intOf i).toNat)
  case atStart => exact ⟨0, Nat.zero_le _, rfl, by simp, Below.refl _ _⟩
  case round =>
   obtain ⟨k, hk, rfl, hq0, hB⟩ := hrel
   by_cases hlt : k < l.length
   .
    have hlt' : k < m.length := by omega
    obtain ⟨ba, offa, rfl, hga, hc0, hc1⟩ := ha.cell hlt
    obtain ⟨bb, offb, rfl, hgb, hd0, hd1⟩ := hb.cell hlt'
    have c0 := (hB.cell hga).trans hc0
    have c1 := (hB.cell hga).trans hc1
    have d0 := (hB.cell hgb).trans hd0
    have d1 := (hB.cell hgb).trans hd1
    clear hc0 hc1 hd0 hd1
    have hne := neqPr l[k].1 l[k].2 m[k].1 m[k].2
    have hgu := guardPr
    cases hs : (l[k].1.toList == m[k].1.toList && l[k].2.toList == m[k].2.toList)
    .
     have hres : Hid (r = false) := by
      unfold Hid
      rw [<- hr, decide_eq_false]
      intro e
      subst e
      simp at hs
     rw [hs] at hne
     clear hlm hq0 hs
     go_wp2
     go_quiet (fail)
     go_wp2
     go_ret
     exact ⟨by rw [hres.out]; rfl, Below.drewN hB _⟩
    .
     have hst := zhI (take_stepG hlt hlt' hq0 (by
      simp only [Bool.and_eq_true, beq_iff_eq] at hs
      exact Prod.ext (toList_inj' hs.1) (toList_inj' hs.2)))
     rw [hs] at hne
     clear hlm hq0 hs
     go_wp2
     go_quiet (fail)
     go_wp2
     go_roundw
     case rel => exact ⟨k + 1, by omega, by go_num, hst.out, Below.drewN hB _⟩
     case measure => simp [intOf]; omega
   .
    have hres : Hid (r = true) := by
     unfold Hid
     rw [<- hr, decide_eq_true]
     rw [List.take_of_length_le (by omega), List.take_of_length_le (by omega)] at hq0
     exact hq0
    clear hlm hq0
    go_wp2
    go_ret
    exact ⟨by rw [hres.out]; rfl, hB⟩
 .
  have hres : Hid (r = false) := by
   unfold Hid
   rw [<- hr, decide_eq_false]
   intro e
   subst e
   simp at g
  go_enter Tryz.func24, Tryz.ntmps24
  go_wp2
  go_ret
  exact ⟨by rw [hres.out]; rfl, Below.refl _ _⟩
structure ActBOk (w : World) (a : ActB) (co po do_ qo : Option Addr) (cc pc dc qc : Nat) : Prop where
 slc : SlW co a.chgs.length cc
 slp : SlW po a.puts.length pc
 sld : SlW do_ a.dels.length dc
 slq : SlW qo a.picks.length qc
 chgs : ChgsAt w co a.chgs
 puts : KvsAt w po a.puts
 dels : StrsAt (· < w.heap.size) w do_ a.dels
 picks : IntsAt (· < w.heap.size) w qo a.picks
 kind : -9223372036854775808 <= a.kind /\ a.kind <= 9223372036854775807
 left : -9223372036854775808 <= a.left /\ a.left <= 9223372036854775807
 ints : ∀ x ∈ a.picks, -9223372036854775808 <= x /\ x <= 9223372036854775807
 sizes : ∀ c ∈ a.chgs, c.old.size <= 140737488355328 /\ c.new.size <= 140737488355328
abbrev actBC (a : ActB) (co po do_ qo : Option Addr) (cc pc dc qc : Nat) : Array Value := #[.int .i64 a.kind, .slice co a.chgs.length cc, .slice po a.puts.length pc, .slice do_ a.dels.length dc, .int .i64 a.left, .slice qo a.picks.length qc]
def ActsB (w : World) (o : Option Addr) (l : List ActB) : Prop :=
 ∀ i (h : i < l.length), ∃ b off co po do_ qo cc pc dc qc, o = some ⟨b, off, none⟩ /\ w.cell? ⟨b, off + i * 6, none⟩ = some (.int .i64 l[i].kind) /\ w.cell? ⟨b, off + i * 6 + 1, none⟩ = some (.slice co l[i].chgs.length cc) /\
  w.cell? ⟨b, off + i * 6 + 2, none⟩ = some (.slice po l[i].puts.length pc) /\ w.cell? ⟨b, off + i * 6 + 3, none⟩ = some (.slice do_ l[i].dels.length dc) /\ w.cell? ⟨b, off + i * 6 + 4, none⟩ = some (.int .i64 l[i].left) /\
  w.cell? ⟨b, off + i * 6 + 5, none⟩ = some (.slice qo l[i].picks.length qc) /\ ActBOk w l[i] co po do_ qo cc pc dc qc
theorem IntsAt.lift {w w' : World} {o : Option Addr} {l : List Int} (h : IntsAt (· < w.heap.size) w o l) (hb : Below w.heap.size w w') : IntsAt (· < w'.heap.size) w' o l :=
 .of_row ((h.row.below hb).mono fun _ hs => znL hs hb.size)
theorem ActBOk.below {w w' : World} {a : ActB} {co po do_ qo : Option Addr} {cc pc dc qc : Nat} (h : ActBOk w a co po do_ qo cc pc dc qc) (hb : Below w.heap.size w w') : ActBOk w' a co po do_ qo cc pc dc qc :=
 ⟨h.slc, h.slp, h.sld, h.slq, h.chgs.below hb, h.puts.below hb, (h.dels.below hb).mono fun _ hs => znL hs hb.size, IntsAt.lift h.picks hb, h.kind, h.left, h.ints, h.sizes⟩
theorem ActsB.below {w w' : World} {o : Option Addr} {l : List ActB} (h : ActsB w o l) (hb : Below w.heap.size w w') : ActsB w' o l := by
 intro i hi
 obtain ⟨b, off, co, po, do_, qo, cc, pc, dc, qc, e, c0, c1, c2, c3, c4, c5, ok⟩ := h i hi
 have hlt : b < w.heap.size := World.block_lt_of_cell? w _ c0
 exact ⟨b, off, co, po, do_, qo, cc, pc, dc, qc, e, (hb.cell hlt).trans c0, (hb.cell hlt).trans c1, (hb.cell hlt).trans c2, (hb.cell hlt).trans c3, (hb.cell hlt).trans c4, (hb.cell hlt).trans c5, ok.below hb⟩
def chgFine (c : Chg) : Bool := !(decide ((60 : Int) < (c.key.size : Int)) || decide ((200 : Int) < (c.old.size : Int) + (c.new.size : Int)))
def putFine (p : Kv) : Bool := !(decide ((60 : Int) < (p.1.size : Int)) || decide ((100 : Int) < (p.2.size : Int)))
def lensFine (a : ActB) : Bool := decide ((a.chgs.length : Int) <= 12) && (decide ((a.puts.length : Int) <= 12) && (decide ((a.dels.length : Int) <= 12) && decide ((a.picks.length : Int) <= 40)))
def fitsA (a : ActB) : Bool := a.chgs.all chgFine && (a.puts.all putFine && lensFine a)
def fine42 (pages : Int) (acts : List ActB) : Bool := !(decide (40 < pages)) && (!(decide ((8 : Int) < (acts.length : Int))) && acts.all fitsA)
theorem all_step {α : Type} {p : α -> Bool} {l : List α} {k : Nat} (h : k < l.length) (hp : p l[k] = true) : (l.drop k).all p = (l.drop (k + 1)).all p := by
 rw [List.drop_eq_getElem_cons h, List.all_cons, hp, Bool.true_and]
theorem all_bad {α : Type} {p : α -> Bool} {l : List α} {k : Nat} (h : k < l.length) (hp : p l[k] = false) : (l.drop k).all p = false := by
 rw [List.drop_eq_getElem_cons h, List.all_cons, hp, Bool.false_and]
theorem all_end {α : Type} {p : α -> Bool} {l : List α} {k : Nat} (h : l.length <= k) : (l.drop k).all p = true := by
 rw [List.drop_of_length_le h]; rfl
set_option maxHeartbeats 1600000 in
theorem rn_fits (a : ActB) (co po do_ qo : Option Addr) (cc pc dc qc : Nat) (w : World) (hA : ActBOk w a co po do_ qo cc pc dc qc) :
  Calls Tryz.prog 34 #[.agg (actBC a co po do_ qo cc pc dc qc)] w fun e w' => e = .returned (.bool (fitsA a)) /\ Below w.heap.size w w' := by
 obtain ⟨N, hN⟩ : ∃ N, w.heap.size = N := ⟨_, rfl⟩
 obtain ⟨R, hR⟩ : ∃ R, fitsA a = R := ⟨_, rfl⟩
 rw [hR]
 unfold fitsA at hR
 have HR := zhI hR
 clear hR
 have hlc := slw_len hA.slc
 have hlp := slw_len hA.slp
 have hld := slw_len hA.sld
 have hlq := slw_len hA.slq
 have hch := hA.chgs
 have hpu := hA.puts
 have hsz := hA.sizes
 obtain ⟨kd, cs, ps, ds, lf, qs⟩ := a
 simp only at hlc hlp hld hlq hch hpu hsz HR
 clear hA
 have x0 : Bx (w.alloc (.cells (actBC ⟨kd, cs, ps, ds, lf, qs⟩ co po do_ qo cc pc dc qc) 54)) N (actBC ⟨kd, cs, ps, ds, lf, qs⟩ co po do_ qo cc pc dc qc) 54 := by subst hN; exact Bx.new w _ _
 have hB0 : Below w.heap.size w (w.alloc (.cells (actBC ⟨kd, cs, ps, ds, lf, qs⟩ co po do_ qo cc pc dc qc) 54)) := Below.one w _
 go_enter Tryz.func34, Tryz.ntmps34
 go_wp2
 generalize (w.alloc (.cells (actBC ⟨kd, cs, ps, ds, lf, qs⟩ co po do_ qo cc pc dc qc) 54)) = W0 at *
 go_loopw [10] (fun i wr => ∃ (k : Nat), k <= cs.length /\ i = .int .i64 k /\ Hid (((cs.drop k).all chgFine && (ps.all putFine && lensFine ⟨kd, cs, ps, ds, lf, qs⟩)) = R) /\ Below w.heap.size w wr /\ Bx wr N (actBC ⟨kd, cs, ps, ds, lf, qs⟩ co po do_ qo cc pc dc qc) 54) (fun i _ => cs.length - (intOf i).toNat)
 case atStart => exact ⟨0, Nat.zero_le _, rfl, HR, hB0, x0⟩
 case round =>
  clear hB0 HR x0
  obtain ⟨k, hk, rfl, hq, hB, x0⟩ := hrel
  by_cases hlt : k < cs.length
  .
   obtain ⟨b, off, rfl, hgb, k0, k1, k2, k3, k4⟩ := hch.cell hlt
   have c0 := (hB.cell hgb).trans k0
   have c1 := (hB.cell hgb).trans k1
   have c2 := (hB.cell hgb).trans k2
   have c3 := (hB.cell hgb).trans k3
   have c4 := (hB.cell hgb).trans k4
   clear k0 k1 k2 k3 k4
   obtain ⟨x, hx⟩ : ∃ x, cs[k] = x := ⟨_, rfl⟩
   have hsx := hsz x (by rw [<- hx]; exact List.getElem_mem hlt)
   have hq1 : chgFine x = false -> Hid (R = false) := fun h => zhI (by rw [<- hq.out, all_bad hlt (by rw [hx]; exact h)]; rfl)
   have hq2 : chgFine x = true -> Hid (((cs.drop (k + 1)).all chgFine && (ps.all putFine && lensFine ⟨kd, cs, ps, ds, lf, qs⟩)) = R) := fun h => zhI (by rw [<- all_step hlt (by rw [hx]; exact h)]; exact hq.out)
   clear hq
   have Q1 := zhI hq1
   have Q2 := zhI hq2
   clear hq1 hq2
   rw [hx] at c0 c1 c2 c3 c4
   unfold chgFine at Q1 Q2
   have hbo := Below.one wr (.cells #[.string x.key, .bool x.hasOld, .bool x.hasNew, .string x.old, .string x.new] 71)
   have hBB := btr hB hbo
   have x1 := x0.belowAll hbo
   have lB : b < wr.heap.size := znL hgb hB.size
   have hw : wrap64 ((x.old.size : Int) + (x.new.size : Int)) = (x.old.size : Int) + (x.new.size : Int) := IntWalk.wrap64_in _ (by omega)
   clear hx hsx hbo
   cases g1 : decide ((60 : Int) < (x.key.size : Int))
   .
    cases g2 : decide ((200 : Int) < (x.old.size : Int) + (x.new.size : Int))
    .
     have Q2' := Q2.out (by rw [g1, g2]; rfl)
     clear Q1 Q2
     go_wp2
     go_roundw
     case rel => exact ⟨k + 1, by omega, by go_num, Q2', hBB, x1⟩
     case measure => simp [intOf]; omega
    .
     have hR := (Q1.out (by rw [g1, g2]; rfl)).out
     clear Q1 Q2
     go_wp2
     go_ret
     exact ⟨by rw [hR]; rfl, hBB⟩
   .
    have hR := (Q1.out (by rw [g1]; rfl)).out
    clear Q1 Q2
    go_wp2
    go_ret
    exact ⟨by rw [hR]; rfl, hBB⟩
  .
   have HR : Hid ((ps.all putFine && lensFine ⟨kd, cs, ps, ds, lf, qs⟩) = R) := zhI (by rw [<- hq.out, all_end (by omega)]; rfl)
   have c0 := x0.cell
   have l0 := x0.lt
   clear hq
   go_wp2
   clear c0 l0
   go_loopw [32] (fun i wr => ∃ (k : Nat), k <= ps.length /\ i = .int .i64 k /\ Hid (((ps.drop k).all putFine && lensFine ⟨kd, cs, ps, ds, lf, qs⟩) = R) /\ Below w.heap.size w wr /\ Bx wr N (actBC ⟨kd, cs, ps, ds, lf, qs⟩ co po do_ qo cc pc dc qc) 54) (fun i _ => ps.length - (intOf i).toNat)
   case atStart => exact ⟨0, Nat.zero_le _, rfl, HR, hB, x0⟩
   case round =>
    clear hB HR x0 hlt hk
    obtain ⟨k, hk, rfl, hq, hB, x0⟩ := hrel
    by_cases hlt : k < ps.length
    .
     obtain ⟨b, off, rfl, hgb, k0, k1⟩ := hpu.cell hlt
     have c0 := (hB.cell hgb).trans k0
     have c1 := (hB.cell hgb).trans k1
     clear k0 k1
     obtain ⟨x, hx⟩ : ∃ x, ps[k] = x := ⟨_, rfl⟩
     have hq1 : putFine x = false -> Hid (R = false) := fun h => zhI (by rw [<- hq.out, all_bad hlt (by rw [hx]; exact h)]; rfl)
     have hq2 : putFine x = true -> Hid (((ps.drop (k + 1)).all putFine && lensFine ⟨kd, cs, ps, ds, lf, qs⟩) = R) := fun h => zhI (by rw [<- all_step hlt (by rw [hx]; exact h)]; exact hq.out)
     clear hq
     have Q1 := zhI hq1
     have Q2 := zhI hq2
     clear hq1 hq2
     rw [hx] at c0 c1
     unfold putFine at Q1 Q2
     have hbo := Below.one wr (.cells #[.string x.1, .string x.2] 77)
     have hBB := btr hB hbo
     have x1 := x0.belowAll hbo
     have lB : b < wr.heap.size := znL hgb hB.size
     clear hx hbo
     cases g1 : decide ((60 : Int) < (x.1.size : Int))
     .
      cases g2 : decide ((100 : Int) < (x.2.size : Int))
      .
       have Q2' := Q2.out (by rw [g1, g2]; rfl)
       clear Q1 Q2
       go_wp2
       go_roundw
       case rel => exact ⟨k + 1, by omega, by go_num, Q2', hBB, x1⟩
       case measure => simp [intOf]; omega
      .
       have hR := (Q1.out (by rw [g1, g2]; rfl)).out
       clear Q1 Q2
       go_wp2
       go_ret
       exact ⟨by rw [hR]; rfl, hBB⟩
     .
      have hR := (Q1.out (by rw [g1]; rfl)).out
      clear Q1 Q2
      go_wp2
      go_ret
      exact ⟨by rw [hR]; rfl, hBB⟩
    .
     have HR : Hid (lensFine ⟨kd, cs, ps, ds, lf, qs⟩ = R) := zhI (by rw [<- hq.out, all_end (by omega)]; rfl)
     have c0 := x0.cell
     have l0 := x0.lt
     clear hq
     unfold lensFine at HR
     simp only at HR
     cases g1 : decide ((cs.length : Int) <= 12)
     .
      have hR : R = false := by rw [<- HR.out, g1]; rfl
      clear HR
      go_wp2
      go_ret
      exact ⟨by rw [hR]; rfl, hB⟩
     cases g2 : decide ((ps.length : Int) <= 12)
     .
      have hR : R = false := by rw [<- HR.out, g1, g2]; rfl
      clear HR
      go_wp2
      go_ret
      exact ⟨by rw [hR]; rfl, hB⟩
     cases g3 : decide ((ds.length : Int) <= 12)
     .
      have hR : R = false := by rw [<- HR.out, g1, g2, g3]; rfl
      clear HR
      go_wp2
      go_ret
      exact ⟨by rw [hR]; rfl, hB⟩
     cases g4 : decide ((qs.length : Int) <= 40)
     .
      have hR : R = false := by rw [<- HR.out, g1, g2, g3, g4]; rfl
      clear HR
      go_wp2
      go_ret
      exact ⟨by rw [hR]; rfl, hB⟩
     have hR : R = true := by rw [<- HR.out, g1, g2, g3, g4]; rfl
     clear HR
     go_wp2
     go_ret
     exact ⟨by rw [hR]; rfl, hB⟩
set_option maxHeartbeats 1600000 in
theorem rn_Fine42 (pages frm til : Int) (acts : List ActB) (o : Option Addr) (c : Nat) (w : World) (hA : ActsB w o acts) (hsl : SlW o acts.length c) :
  Calls Tryz.prog 27 #[.agg #[.int .i64 pages, .int .i64 frm, .int .i64 til, .slice o acts.length c]] w fun e w' => e = .returned (.bool (fine42 pages acts)) /\ Below w.heap.size w w' := by
 have hlen := slw_len hsl
 clear hsl
 obtain ⟨N, hN⟩ : ∃ N, w.heap.size = N := ⟨_, rfl⟩
 obtain ⟨R, hR⟩ : ∃ R, fine42 pages acts = R := ⟨_, rfl⟩
 rw [hR]
 unfold fine42 at hR
 have HR := zhI hR
 clear hR
 go_enter Tryz.func27, Tryz.ntmps27
 cases g1 : decide (40 < pages)
 .
  cases g3 : decide ((8 : Int) < (acts.length : Int))
  .
   have HA : Hid (acts.all fitsA = R) := zhI (by rw [<- HR.out, g1, g3]; simp)
   clear HR
   have hB0 : Below w.heap.size w (w.alloc (.cells #[.int .i64 pages, .int .i64 frm, .int .i64 til, .slice o acts.length c] 49)) := Below.one w _
   go_wp2
   generalize (w.alloc (.cells #[.int .i64 pages, .int .i64 frm, .int .i64 til, .slice o acts.length c] 49)) = W0 at *
   go_loopw [17] (fun i wr => ∃ (k : Nat), k <= acts.length /\ i = .int .i64 k /\ Hid ((acts.drop k).all fitsA = R) /\ Below w.heap.size w wr) (fun i _ => acts.length - (intOf i).toNat)
   case atStart => exact ⟨0, Nat.zero_le _, rfl, HA, hB0⟩
   case round =>
    clear hB0 HA
    obtain ⟨k, hk, rfl, hq, hB⟩ := hrel
    by_cases hlt : k < acts.length
    .
     obtain ⟨b, off, co, po, do_, qo, cc, pc, dc, qc, rfl, k0, k1, k2, k3, k4, k5, ok⟩ := hA k hlt
     have hb : b < w.heap.size := World.block_lt_of_cell? w _ k0
     have c0 := (hB.cell hb).trans k0
     have c1 := (hB.cell hb).trans k1
     have c2 := (hB.cell hb).trans k2
     have c3 := (hB.cell hb).trans k3
     have c4 := (hB.cell hb).trans k4
     have c5 := (hB.cell hb).trans k5
     have hok := ok.below hB
     clear k0 k1 k2 k3 k4 k5 ok
     obtain ⟨x, hx⟩ : ∃ x, acts[k] = x := ⟨_, rfl⟩
     have hq1 : fitsA x = false -> Hid (R = false) := fun h => zhI (by rw [<- hq.out]; exact all_bad hlt (by rw [hx]; exact h))
     have hq2 : fitsA x = true -> Hid ((acts.drop (k + 1)).all fitsA = R) := fun h => zhI (by rw [<- all_step hlt (by rw [hx]; exact h)]; exact hq.out)
     clear hq
     have Q1 := zhI hq1
     have Q2 := zhI hq2
     clear hq1 hq2
     rw [hx] at c0 c1 c2 c3 c4 c5 hok
     have lB : b < wr.heap.size := znL hb hB.size
     have hbo := Below.one wr (.cells (actBC x co po do_ qo cc pc dc qc) 54)
     have hBB := btr hB hbo
     have hfi := rn_fits x co po do_ qo cc pc dc qc _ (hok.below hbo)
     obtain ⟨fb, hfb⟩ : ∃ fb, fitsA x = fb := ⟨_, rfl⟩
     rw [hfb] at hfi
     have Hfi := zhI hfi
     have Hfb := zhI hfb
     clear hfi hx hok hbo hfb
     go_wp2_with fail
     refine Hfi.out.mono ?_
     rintro e w1 ⟨rfl, hb1⟩
     have hB1 := btr hBB hb1
     clear Hfi c0 c1 c2 c3 c4 c5 lB
     cases fb with
     | true =>
      have Q := Q2.out Hfb.out
      clear Q1 Q2
      go_wp2
      go_roundw
      case rel => exact ⟨k + 1, by omega, by go_num, Q, hB1⟩
      case measure => simp [intOf]; omega
     | false =>
      have hR := (Q1.out Hfb.out).out
      clear Q1 Q2
      go_wp2
      go_ret
      exact ⟨by rw [hR]; rfl, hB1⟩
    .
     have hP : R = true := by rw [<- hq.out]; exact all_end (by omega)
     clear hq
     go_wp2
     go_ret
     exact ⟨by rw [hP]; rfl, hB⟩
  .
   go_wp2
   go_ret
   exact ⟨by rw [<- HR.out, g1, g3]; rfl, Below.one w _⟩
 .
  go_wp2
  go_ret
  exact ⟨by rw [<- HR.out, g1]; rfl, Below.one w _⟩
theorem valK_hit {l : List Kv} {k : Nat} (h : k < l.length) {key : ByteArray} (e : l[k].1 = key) : valK (l.drop k) key = (l[k].2, true) := by
 unfold valK
 rw [List.drop_eq_getElem_cons h, List.find?_cons_of_pos (by simpa using e)]
theorem valK_miss {l : List Kv} {k : Nat} (h : k < l.length) {key : ByteArray} (e : l[k].1 ≠ key) : valK (l.drop k) key = valK (l.drop (k + 1)) key := by
 unfold valK
 rw [List.drop_eq_getElem_cons h, List.find?_cons_of_neg (by simpa using e)]
set_option maxHeartbeats 1600000 in
theorem rn_value (l : List Kv) (o : Option Addr) (c : Nat) (key : ByteArray) (w : World) (hl : KvsAt w o l) (hs : SlW o l.length c) :
  Calls Tryz.prog 39 #[.slice o l.length c, .string key] w fun e w' => e = .returned (.tuple #[.string (valK l key).1, .bool (valK l key).2]) /\ Below w.heap.size w w' := by
 have hlen := slw_len hs
 clear hs
 obtain ⟨R, hR⟩ : ∃ R, valK l key = R := ⟨_, rfl⟩
 rw [hR]
 have HR := zhI hR
 clear hR
 go_enter Tryz.func39, Tryz.ntmps39
 go_wp2
 go_loopw [10] (fun i wr => ∃ (k : Nat), k <= l.length /\ i = .int .i64 k /\ Hid (valK (l.drop k) key = R) /\ Below w.heap.size w wr) (fun i _ => l.length - (intOf i).toNat)
 case atStart => exact ⟨0, Nat.zero_le _, rfl, HR, Below.refl _ _⟩
 case round =>
  clear HR
  obtain ⟨k, hk, rfl, hq, hB⟩ := hrel
  by_cases hlt : k < l.length
  .
   obtain ⟨b, off, rfl, hgb, k0, k1⟩ := hl.cell hlt
   have c0 := (hB.cell hgb).trans k0
   have c1 := (hB.cell hgb).trans k1
   clear k0 k1
   have h1 : l[k].1 = key -> Hid (R = (l[k].2, true)) := fun e => zhI (by rw [<- hq.out, valK_hit hlt e])
   have h2 : l[k].1 ≠ key -> Hid (valK (l.drop (k + 1)) key = R) := fun e => zhI (by rw [<- valK_miss hlt e, hq.out])
   have H1 := zhI h1
   have H2 := zhI h2
   clear h1 h2 hq
   obtain ⟨x, hx⟩ : ∃ x, l[k] = x := ⟨_, rfl⟩
   rw [hx] at c0 c1 H1 H2
   have hBB := btr hB (Below.one wr (.cells #[.string x.1, .string x.2] 77))
   have lB : b < wr.heap.size := znL hgb hB.size
   clear hx
   cases g1 : (x.1.toList == key.toList)
   .
    have Q := H2.out (by intro e; rw [e] at g1; simp at g1)
    clear H1 H2
    go_wp2
    go_roundw
    case rel => exact ⟨k + 1, by omega, by go_num, Q, hBB⟩
    case measure => simp [intOf]; omega
   .
    have Q := (H1.out (toList_inj' (by simpa using g1))).out
    clear H1 H2
    go_wp2
    refine bodyPost_ret (v := .tuple #[.string x.2, .bool true]) (by simp [results, Tryz.results39, go_sem]) rfl ?_
    exact ⟨by rw [Q], hBB⟩
  .
   have hP : R = (ByteArray.empty, false) := by rw [<- hq.out, List.drop_of_length_le (by omega)]; rfl
   clear hq
   go_wp2
   refine bodyPost_ret (v := .tuple #[.string ByteArray.empty, .bool false]) (by simp [results, Tryz.results39, go_sem]; rfl) rfl ?_
   exact ⟨by rw [hP], hB⟩
def powX (x : Ix) (n : Int) : Ix := if x.disk.left = -1 /\ 0 <= n then { x with disk := { x.disk with left := n.tmod 40 } } else x
theorem IxT.left {w : World} {x : Ix} {po co fo : Option Addr} {pc cc fc : Nat} (h : IxT w (.agg (ixC x.disk po co pc cc x.frm x.til x.ver x.root fo x.free.length fc)) x) (y : Int) (hy : -9223372036854775808 <= y /\ y <= 9223372036854775807) :
  IxT w (.agg (ixC { x.disk with left := y } po co pc cc x.frm x.til x.ver x.root fo x.free.length fc)) { x with disk := { x.disk with left := y } } := by
 obtain ⟨po', pc', co', cc', fo', fc', e, hD, h2, h3⟩ := h
 simp only [Value.agg.injEq, Array.mk.injEq, List.cons.injEq, Value.slice.injEq, and_true, true_and] at e
 obtain ⟨⟨rfl, rfl⟩, ⟨rfl, rfl⟩, rfl, rfl⟩ := e
 refine ⟨po, pc, co, cc, fo, fc, rfl, ?_, h2, h3⟩
 obtain ⟨po', pc', co', cc', e, hp, hq, ok⟩ := hD
 simp only [Value.agg.injEq, Array.mk.injEq, List.cons.injEq, Value.slice.injEq, and_true, true_and] at e
 obtain ⟨⟨rfl, rfl⟩, rfl, rfl⟩ := e
 exact ⟨po, pc, co, cc, rfl, hp, hq, ⟨ok.slp, ok.slc, ok.pages, ok.cache, ok.strs, ok.datas, hy⟩⟩
set_option maxHeartbeats 1600000 in
theorem rn_power (x : Ix) (v : Value) (n : Int) (w : World) (hx : IxT w v x) :
  Calls Tryz.prog 37 #[v, .int .i64 n] w fun e w' => ∃ u, e = .returned u /\ IxT w' u (powX x n) /\ Below w.heap.size w w' := by
 obtain ⟨R, hR⟩ : ∃ R, powX x n = R := ⟨_, rfl⟩
 rw [hR]
 have hx0 := hx
 obtain ⟨po, pc, co, cc, fo, fc, rfl, -, -, -⟩ := hx
 obtain ⟨N, hN⟩ : ∃ N, w.heap.size = N := ⟨_, rfl⟩
 obtain ⟨W0, hW0⟩ : ∃ W0, (w.alloc (.cells (ixC x.disk po co pc cc x.frm x.til x.ver x.root fo x.free.length fc) 33)).alloc (.cells ixZ 33) = W0 := ⟨_, rfl⟩
 have y0 : Bx W0 N (ixC x.disk po co pc cc x.frm x.til x.ver x.root fo x.free.length fc) 33 := by subst hW0 hN; exact (Bx.new w _ _).alloc _
 have y1 : Bx W0 (N + 1) ixZ 33 := by subst hW0 hN; exact Bx.newAt _ _ _ _ (by simp)
 have hB0 : Below w.heap.size w W0 := by subst hW0; exact (Below.one w _).alloc (by simp) _
 have hX := hx0.below hB0
 have c0 := y0.cell
 have l0 := y0.lt
 have f0 := y0.free
 have c1 := y1.cell
 have l1 := y1.lt
 have f1 := y1.free
 unfold ixC at c0 hW0
 unfold ixZ at c1 hW0
 clear hx0
 cases g1 : (x.disk.left == -1)
 .
  have HR : Hid (R = x) := zhI (by rw [<- hR]; unfold powX; rw [if_neg (fun h => by simp [h.1] at g1)])
  clear hR
  obtain ⟨Wf, hWf⟩ : ∃ Wf, st9 W0 (N + 1) (.int .i64 x.disk.size) (.slice po x.disk.pages.length pc) (.slice co x.disk.cache.length cc) (.int .i64 x.disk.left) (.int .i64 x.frm) (.int .i64 x.til) (.int .i64 x.ver) (.int .i64 x.root) (.slice fo x.free.length fc) = Wf := ⟨_, rfl⟩
  have zR : Bx Wf (N + 1) (ixC x.disk po co pc cc x.frm x.til x.ver x.root fo x.free.length fc) 33 := by subst hWf; exact y1.set9
  have zB : Below w.heap.size w Wf := by subst hWf; exact below_set9 hB0 (by omega)
  have zX : IxT Wf (.agg (ixC x.disk po co pc cc x.frm x.til x.ver x.root fo x.free.length fc)) x := by subst hWf; exact hX.only y1 (noS9 _ _ _ _ _ _ _ _ _ _ _ _ _ _ _) (by decide) Only.nine
  have HWf := zhI hWf
  have HB := zhI zB
  have HX := zhI zX
  clear hWf zB zX hX hB0 y0 y1
  go_enter Tryz.func37, Tryz.ntmps37
  go_wp2
  have HW := HWf.out
  unfold st9 st8 at HW
  rw [HW]
  have cZ := zR.cell
  unfold ixC at cZ
  refine bodyPost_ret (v := .agg (ixC x.disk po co pc cc x.frm x.til x.ver x.root fo x.free.length fc)) (by simp [results, Tryz.results37, go_sem, cZ, ixC]) rfl ?_
  rw [HR.out]
  exact ⟨_, rfl, HX.out, HB.out⟩
 cases g2 : decide (0 <= n)
 .
  have HR : Hid (R = x) := zhI (by rw [<- hR]; unfold powX; rw [if_neg (fun h => by simp [h.2] at g2)])
  clear hR
  obtain ⟨Wf, hWf⟩ : ∃ Wf, st9 W0 (N + 1) (.int .i64 x.disk.size) (.slice po x.disk.pages.length pc) (.slice co x.disk.cache.length cc) (.int .i64 x.disk.left) (.int .i64 x.frm) (.int .i64 x.til) (.int .i64 x.ver) (.int .i64 x.root) (.slice fo x.free.length fc) = Wf := ⟨_, rfl⟩
  have zR : Bx Wf (N + 1) (ixC x.disk po co pc cc x.frm x.til x.ver x.root fo x.free.length fc) 33 := by subst hWf; exact y1.set9
  have zB : Below w.heap.size w Wf := by subst hWf; exact below_set9 hB0 (by omega)
  have zX : IxT Wf (.agg (ixC x.disk po co pc cc x.frm x.til x.ver x.root fo x.free.length fc)) x := by subst hWf; exact hX.only y1 (noS9 _ _ _ _ _ _ _ _ _ _ _ _ _ _ _) (by decide) Only.nine
  have HWf := zhI hWf
  have HB := zhI zB
  have HX := zhI zX
  clear hWf zB zX hX hB0 y0 y1
  go_enter Tryz.func37, Tryz.ntmps37
  go_wp2
  have HW := HWf.out
  unfold st9 st8 at HW
  rw [HW]
  have cZ := zR.cell
  unfold ixC at cZ
  refine bodyPost_ret (v := .agg (ixC x.disk po co pc cc x.frm x.til x.ver x.root fo x.free.length fc)) (by simp [results, Tryz.results37, go_sem, cZ, ixC]) rfl ?_
  rw [HR.out]
  exact ⟨_, rfl, HX.out, HB.out⟩
 have hl1 : x.disk.left = -1 := by simpa using g1
 have hn0 := of_decide_eq_true g2
 have hw : n.tmod 40 = n % 40 := Int.tmod_eq_emod_of_nonneg hn0
 have hlo : 0 <= n % 40 := Int.emod_nonneg _ (by decide)
 have hhi : n % 40 < 40 := Int.emod_lt_of_pos _ (by decide)
 obtain ⟨m, hm⟩ : ∃ m, n.tmod 40 = m := ⟨_, rfl⟩
 have HR : Hid (R = { x with disk := { x.disk with left := m } }) := zhI (by rw [<- hR]; unfold powX; rw [if_pos ⟨hl1, hn0⟩, hm])
 have hX' := hX.left m (by rw [<- hm]; omega)
 have hwm : wrap64 m = m := IntWalk.wrap64_in _ (by omega)
 obtain ⟨We, hWe⟩ : ∃ We, W0.setCell ⟨N, 3, none⟩ (.int .i64 m) = We := ⟨_, rfl⟩
 have yE : Bx We N (ixC { x.disk with left := m } po co pc cc x.frm x.til x.ver x.root fo x.free.length fc) 33 := by
  subst hWe
  have := y0.set 3 (.int .i64 m)
  simpa using this
 have ho : Only N W0 We := by subst hWe; exact Only.one
 have yR := y1.only ho (by omega)
 have hXe := hX'.only y0 (noS9 _ _ _ _ _ _ _ _ _ _ _ _ _ _ _) (by decide) ho
 have hBe : Below w.heap.size w We := by subst hWe; exact below_set1 (b := N) hB0 (by omega)
 obtain ⟨Wf, hWf⟩ : ∃ Wf, st9 We (N + 1) (.int .i64 x.disk.size) (.slice po x.disk.pages.length pc) (.slice co x.disk.cache.length cc) (.int .i64 m) (.int .i64 x.frm) (.int .i64 x.til) (.int .i64 x.ver) (.int .i64 x.root) (.slice fo x.free.length fc) = Wf := ⟨_, rfl⟩
 have zR : Bx Wf (N + 1) (ixC { x.disk with left := m } po co pc cc x.frm x.til x.ver x.root fo x.free.length fc) 33 := by subst hWf; exact yR.set9
 have zB : Below w.heap.size w Wf := by subst hWf; exact below_set9 hBe (by omega)
 have zX := hXe.only yR (noS9 _ _ _ _ _ _ _ _ _ _ _ _ _ _ _) (by decide) (w' := Wf) (by subst hWf; exact Only.nine)
 have HWf := zhI (zaI hWe hWf)
 have HB := zhI zB
 have HX := zhI zX
 clear hWf zB zX hX hX' hXe hB0 hBe y0 y1 yE yR ho hWe hR hw hlo hhi hl1 hn0
 go_enter Tryz.func37, Tryz.ntmps37
 go_wp2
 obtain ⟨h1, h2⟩ := HWf.out
 unfold st9 st8 at h2
 rw [h1, h2]
 have cZ := zR.cell
 unfold ixC at cZ
 refine bodyPost_ret (v := .agg (ixC { x.disk with left := m } po co pc cc x.frm x.til x.ver x.root fo x.free.length fc)) (by simp [results, Tryz.results37, go_sem, cZ, ixC]) rfl ?_
 rw [HR.out]
 exact ⟨_, rfl, HX.out, by have := HB.out; rwa [hN] at this⟩
end Go.Proofs.YtlefmmhlpgmbjaaGreat
namespace Go.Proofs.YtlefmmhlpgmbjaaGreat
set_option maxRecDepth 100000
open Go.RowKit Go.Shelf Go.Lib
theorem isAggCh (w : World) : (isAgg 71).run Tryz.prog w = .ok true w := Tryz.isAgg71 w
theorem sizeOfCh (w : World) : (Go.sizeOf 71).run Tryz.prog w = .ok 5 w := Tryz.sizeOf71 w
instance : Inhabited Chg := ⟨⟨ByteArray.empty, false, ByteArray.empty, false, ByteArray.empty⟩⟩
set_option maxHeartbeats 800000 in
theorem rn_after1 (x : Chg) (k v : ByteArray) (pb : Nat) (w : World) (hx : Bx w pb #[.string k, .string v] 77) :
  Calls Tryz.prog 79 #[.agg (chgC x).toArray, .pointer (some ⟨pb, 0, none⟩)] w fun e w' => e = .returned (.bool (decide (x.key = k))) /\ Below w.heap.size w w' := by
 obtain ⟨k1, b1, c1, d1, e1⟩ := x
 show Calls Tryz.prog 79 #[.agg #[.string k1, .bool b1, .bool d1, .string c1, .string e1], .pointer (some ⟨pb, 0, none⟩)] w _
 have hB := Below.one w (.cells #[.string k1, .bool b1, .bool d1, .string c1, .string e1] 71)
 have c0 := hx.cell
 have l0 := hx.lt
 have he : (k1.toList == k.toList) = decide (k1 = k) := by
  by_cases h : k1 = k
  .
   rw [h]; simp
  .
   rw [decide_eq_false h]
   cases g : (k1.toList == k.toList)
   .
    rfl
   .
    exact absurd (toList_inj' (by simpa using g)) h
 go_enter Tryz.func79, Tryz.ntmps79
 go_wp2
 go_ret
 exact ⟨rfl, hB⟩
set_option maxHeartbeats 800000 in
theorem contains_none (o : Option Addr) (c : Nat) (fv : Value) (w : World) : Calls Tryz.prog 78 #[.slice o 0 c, fv] w fun e w' => e = .returned (.bool false) /\ Below w.heap.size w w' := by
 have h1 : ∀ W, Calls Tryz.prog 122 #[.slice o 0 c, fv] W fun e w' => e = .returned (.int .i64 (-1)) /\ w' = W := by
  intro W
  go_enter Tryz.func122, Tryz.ntmps122
  go_wp2
  go_loopw [8] (fun i wr => i = .int .i64 0 /\ wr = W) (fun i _ => 0)
  case atStart => exact ⟨rfl, rfl⟩
  case round =>
   obtain ⟨rfl, rfl⟩ := hrel
   go_wp2
   go_ret
   exact ⟨rfl, rfl⟩
 go_enter Tryz.func78, Tryz.ntmps78
 go_wp2_with fail
 refine (h1 _).mono ?_
 rintro e w' ⟨rfl, rfl⟩
 go_wp2
 go_ret
 exact ⟨rfl, Below.refl _ _⟩
theorem contains_key (cs : List Chg) (o : Option Addr) (c : Nat) (k v : ByteArray) (pb : Nat) (w : World) (hc : ChgsAt w o cs) (hs : SlW o cs.length c) (hx : Bx w pb #[.string k, .string v] 77) :
  Calls Tryz.prog 78 #[.slice o cs.length c, .func (.func 79) #[] #[.pointer (some ⟨pb, 0, none⟩)]] w fun e w' => e = .returned (.bool (cs.any fun x => decide (x.key = k))) /\ Below w.heap.size w w' := by
 by_cases h0 : cs.length = 0
 .
  obtain rfl : cs = [] := List.eq_nil_of_length_eq_zero h0
  exact contains_none o c _ w
 .
  obtain ⟨b, off, rfl, hb, -⟩ := hc.cell (i := 0) (by omega)
  have hln := slw_len hs
  have hcon := AnyQ.slices_ContainsFunc Tryz.l_contC 5 isAggCh sizeOfCh chgC (fun _ => rfl) (fun x => decide (x.key = k)) 79 #[.pointer (some ⟨pb, 0, none⟩)] (by intro args W; rfl) b off cs.length c cs w
   (fun W x hb => (rn_after1 x k v pb W (hx.belowAll hb)).mono fun _ _ ⟨h1, h2⟩ => ⟨h1, btr hb h2⟩) (Nat.le_refl _) hln hb (fun j hj i v hi => by
    obtain ⟨b', off', e', -, q0, q1, q2, q3, q4⟩ := hc.cell hj
    obtain ⟨rfl, rfl⟩ : b = b' /\ off = off' := by simpa using e'
    rw [getElem!_pos cs j hj] at hi
    rcases i with _ | _ | _ | _ | _ | i
    .
     simp only [chgC, List.getElem?_cons_zero, Option.some.injEq] at hi; subst hi; exact q0
    .
     simp only [chgC, List.getElem?_cons_succ, List.getElem?_cons_zero, Option.some.injEq] at hi; subst hi; exact q1
    .
     simp only [chgC, List.getElem?_cons_succ, List.getElem?_cons_zero, Option.some.injEq] at hi; subst hi; exact q2
    .
     simp only [chgC, List.getElem?_cons_succ, List.getElem?_cons_zero, Option.some.injEq] at hi; subst hi; exact q3
    .
     simp only [chgC, List.getElem?_cons_succ, List.getElem?_cons_zero, Option.some.injEq] at hi; subst hi; exact q4
    .
     simp [chgC] at hi)
  rw [List.take_length] at hcon
  exact hcon
end Go.Proofs.YtlefmmhlpgmbjaaGreat
