/- Plain laws: the indexes that runs of layer 42 reach. No function of the program is named here. law42.After: the pairs after changes. -/
import Derived.Test.YtlefmmhlpgmbjaaGreatQ26
import Derived.Test.YtlefmmhlpgmbjaaGreatQ25
import Derived.Test.YtlefmmhlpgmbjaaGreatQ23
import Derived.Test.YtlefmmhlpgmbjaaGreatQ01
namespace Go.Proofs.YtlefmmhlpgmbjaaGreat
set_option maxRecDepth 100000
open Go.RowKit
theorem chk_left {d : Dsk} (h : chk d = 0) {x : Int} (hx : -1 <= x) : chk { d with left := x } = 0 := by
 unfold chk at h |-
 split at h
 .
  cases h
 .
  rename_i h1
  split at h
  .
   cases h
  .
   rename_i h2
   split at h
   .
    rename_i h3; exact absurd h h3
   .
    rename_i h3
    rw [if_neg h1, if_neg h2, if_neg h3, if_neg (by simp only; omega)]
theorem page_left {d : Dsk} (h : chk d = 0) {x : Int} (hx : -1 <= x) (k : Int) : pageL { d with left := x } k = pageL d k := by
 unfold pageL readD
 rw [chk_left h hx, h]
 rfl
theorem IxS.left {d : Dsk} {frm til : Int} {V : Nat} {t : Option Nd} (h : IxS d frm til V t) {x : Int} (hx : -1 <= x) : IxS { d with left := x } frm til V t := by
 have hc := h.bd.1
 exact h.same ⟨chk_left hc hx, rfl, rfl⟩ h.empty fun k _ => page_left hc hx k
theorem doX_of {x : Ix} {a : ActB} {l : List Kv} {R : Ix × Int} (h : actX x a l = R) (hR : R.2 = 0 \/ R.2 = 18) : doX x a l = R := by
 unfold doX
 rw [h, if_neg (by omega)]
theorem doX_not {x : Ix} {a : ActB} {l : List Kv} {R : Ix × Int} (h : actX x a l = R) (h1 : R.2 ≠ 0) (h2 : R.2 ≠ 18) : doX x a l = (x, R.2) := by
 unfold doX
 rw [h, if_pos ⟨h1, h2⟩]
theorem chgsE_val : ∀ (l : List Chg) (p : Option Chg), chgsE p l = 0 \/ chgsE p l = 1 \/ chgsE p l = 4 \/ chgsE p l = 9
 | [], _ => .inl rfl
 | c :: l, p => by
  rw [chgsE]
  split
  .
   rename_i h
   have : chgE p c = 0 \/ chgE p c = 1 \/ chgE p c = 4 \/ chgE p c = 9 := by
    have aux : ∀ (A B C : Prop) [Decidable A] [Decidable B] [Decidable C], (if A then (4 : Int) else if B then 9 else if C then 1 else 0) = 0 \/ (if A then (4 : Int) else if B then 9 else if C then 1 else 0) = 1 \/ (if A then (4 : Int) else if B then 9 else if C then 1 else 0) = 4 \/ (if A then (4 : Int) else if B then 9 else if C then 1 else 0) = 9 := by
     intro A B C _ _ _
     by_cases hA : A
     .
      simp [hA]
     .
      by_cases hB : B
      .
       simp [hA, hB]
      .
       by_cases hC : C <;> simp [hA, hB, hC]
    exact aux _ _ _
   exact this
  .
   exact chgsE_val l _
theorem StepX.ok {d : Dsk} {frm til : Int} {V : Nat} {t t' : Option Nd} {R : Ix × Int} (h : StepX d frm til V t t' R) : R.2 = 0 \/ R.2 = 18 := by
 rcases h.res with h | h
 .
  exact .inl h.1
 .
  exact .inr h.1
theorem good_act {d : Dsk} {frm til : Int} {V : Nat} {t : Option Nd} (h : IxS d frm til V t) (hV : V + 1 <= 200) {a : ActB} (hk : a.kind = 0 \/ a.kind = 1) :
  (∃ er, er ≠ 0 /\ er ≠ 18 /\ commitP (ixOf d frm til V t) (chgsOf a (pairsO t)) = (zeroX, er) /\ doX (ixOf d frm til V t) a (pairsO t) = (ixOf d frm til V t, er)) \/
  (chgsE none (chgsOf a (pairsO t)) = 0 /\ chgsOf a (pairsO t) = [] /\ doX (ixOf d frm til V t) a (pairsO t) = (ixOf d frm til V t, 0)) \/
  (chgsE none (chgsOf a (pairsO t)) = 0 /\ ∃ t', OTm t' /\ pairsO t' = applyL (pairsO t) (chgsOf a (pairsO t)) /\ StepX d frm til V t t' (doX (ixOf d frm til V t) a (pairsO t)) /\ doX (ixOf d frm til V t) a (pairsO t) = commitP (ixOf d frm til V t) (chgsOf a (pairsO t))) := by
 have hA : actX (ixOf d frm til V t) a (pairsO t) = commitP (ixOf d frm til V t) (chgsOf a (pairsO t)) := by unfold actX; rw [if_pos hk]
 rcases commit_law h hV (chgsOf a (pairsO t)) with ⟨h1, h2⟩ | ⟨_, _, h2⟩ | ⟨h1, _, h3, h2⟩ | ⟨_, _, _, _, h2⟩ | ⟨h1, _, _, t', p, _, h4, h5, h6⟩
 .
  left
  rw [h2] at hA
  have hv := chgsE_val (chgsOf a (pairsO t)) none
  have hne : chgsE none (chgsOf a (pairsO t)) ≠ 18 := by omega
  exact ⟨_, h1, hne, h2, doX_not hA h1 hne⟩
 .
  left
  rw [h2] at hA
  exact ⟨_, by decide, by decide, h2, doX_not hA (by decide) (by decide)⟩
 .
  right; left
  rw [h2] at hA
  exact ⟨h1, h3, doX_of hA (.inl rfl)⟩
 .
  left
  rw [h2] at hA
  exact ⟨_, by decide, by decide, h2, doX_not hA (by decide) (by decide)⟩
 .
  right; right
  have hd := doX_of hA h6.ok
  exact ⟨h1, t', h4, h5, by rw [hd]; exact h6, hd⟩
theorem kLt_empty (s : ByteArray) : kLt s ByteArray.empty = false := by
 unfold kLt
 rw [emptyL]
 cases s.toList <;> rfl
theorem scanP_all (l : List Kv) : scanP l ByteArray.empty ByteArray.empty = l := by
 unfold scanP
 refine List.filter_eq_self.2 fun p _ => ?_
 rw [kLt_empty]
 simp
theorem IxS.scan {d : Dsk} {frm til : Int} {V : Nat} {t : Option Nd} (h : IxS d frm til V t) : scanPP (ixOf d frm til V t) ByteArray.empty ByteArray.empty = (pairsO t, 0) := by
 unfold scanPP
 rw [validP_X, h.valid]
 simp only [scanP_all]
theorem IxS.openP {d : Dsk} {frm til : Int} {V : Nat} {t : Option Nd} (h : IxS d frm til V t) : openP d frm til = (ixOf d frm til V t, 0) := by rw [openP_X]; exact h.opens
structure RS where
 y : Ix
 l : List Kv
 doubt : List Kv
 lost : Bool
def rstep (s : RS) (a : ActB) : RS :=
 if s.lost = true /\ a.kind ≠ 3 then s
 else if (doX s.y a s.l).2 ≠ 0 /\ (doX s.y a s.l).2 ≠ 18 then s
 else if (doX s.y a s.l).2 = 18 then ⟨(doX s.y a s.l).1, s.l, applyL s.l (chgsOf a s.l), true⟩
 else if a.kind = 0 \/ a.kind = 1 then ⟨(doX s.y a s.l).1, applyL s.l (chgsOf a s.l), s.doubt, s.lost⟩
 else if a.kind = 3 /\ s.lost = true then ⟨(doX s.y a s.l).1, if (scanPP (doX s.y a s.l).1 ByteArray.empty ByteArray.empty).2 = 0 /\ (scanPP (doX s.y a s.l).1 ByteArray.empty ByteArray.empty).1 = s.doubt then s.doubt else s.l, s.doubt, false⟩
 else ⟨(doX s.y a s.l).1, s.l, s.doubt, s.lost⟩
structure RSnd (d0 : Dsk) (frm til : Int) (s : RS) (V : Nat) : Prop where
 shape : Shape d0 s.y.disk
 far : ∀ k : Nat, k < d0.pages.length -> ((k : Int) < frm \/ til <= k) -> pageL s.y.disk k = pageL d0 k
 cache : ∀ x ∈ s.y.disk.cache, frm <= x.page /\ x.page < til
 few : s.y.disk.cache.length <= 3000
 len : s.l.length <= 24 * V /\ s.doubt.length <= 24 * V
 asc : Asc s.l
 st : (s.lost = false /\ ∃ U t, U <= V /\ s.y = ixOf s.y.disk frm til U t /\ IxS s.y.disk frm til U t /\ s.l = pairsO t) \/
  (s.lost = true /\ s.y.disk.left = 0 /\ s.y.frm = frm /\ s.y.til = til /\ ∃ U t t', U + 1 <= V /\ pairsO t = s.l /\ pairsO t' = s.doubt /\ ∀ picks, IxS (crashD s.y.disk picks) frm til U t \/ IxS (crashD s.y.disk picks) frm til (U + 1) t')
theorem RSnd.mono {d0 : Dsk} {frm til : Int} {s : RS} {V W : Nat} (h : RSnd d0 frm til s V) (hW : V <= W) : RSnd d0 frm til s W := by
 refine ⟨h.shape, h.far, h.cache, h.few, ⟨by have := h.len; omega, by have := h.len; omega⟩, h.asc, ?_⟩
 rcases h.st with ⟨a, U, t, b, c⟩ | ⟨a, b, c, d, U, t, t', e, f⟩
 .
  exact .inl ⟨a, U, t, by omega, c⟩
 .
  exact .inr ⟨a, b, c, d, U, t, t', by omega, f⟩
theorem OTm.asc {t : Option Nd} (h : OTm t) : Asc (pairsO t) := pairsO_asc h
theorem RSnd.crash {d0 : Dsk} {frm til : Int} {s : RS} {V : Nat} (h : RSnd d0 frm til s V) (picks : List Int) : Shape d0 (crashD s.y.disk picks) /\ (∀ k : Nat, k < d0.pages.length -> ((k : Int) < frm \/ til <= k) -> pageL (crashD s.y.disk picks) k = pageL d0 k) /\ (crashD s.y.disk picks).cache = [] := by
 have hc := h.shape.1
 refine ⟨h.shape.trans (crash_shape hc picks), fun k hk hk2 => ?_, crash_empty hc picks⟩
 rw [page_crash_else hc picks (by rw [h.shape.2.2]; exact hk) fun x hx e => by have := h.cache x hx; omega]
 exact h.far k hk hk2
theorem chgs_few {a : ActB} (ha : fitsA a = true) (l : List Kv) : (chgsOf a l).length <= 24 := by
 have h1 := chgsOf_len a l
 have h2 := fitsA_len ha
 omega
theorem RSnd.step {d0 : Dsk} {frm til : Int} {s : RS} {V : Nat} (h : RSnd d0 frm til s V) (hV : V + 1 <= 200) {a : ActB} (ha : fitsA a = true) : RSnd d0 frm til (rstep s a) (V + 1) := by
 have hlen := h.len
 have hmono := h.mono (Nat.le_succ V)
 obtain ⟨y, l, doubt, lost⟩ := s
 rcases h.st with ⟨h0, U, t, hU, hy, hI, hl⟩ | ⟨h0, hleft, hf, ht, U, t, t', hU, e1, e2, hp⟩
 .
  simp only at h0 hy hI hl
  subst h0 hl
  obtain ⟨d, hd⟩ : ∃ d, y.disk = d := ⟨_, rfl⟩
  rw [hd] at hy hI
  subst hy
  have hsh : Shape d0 d := h.shape
  have hfar : ∀ k : Nat, k < d0.pages.length -> ((k : Int) < frm \/ til <= k) -> pageL d k = pageL d0 k := h.far
  by_cases hk : a.kind = 0 \/ a.kind = 1
  .
   have hapl := applyL_len (cs := chgsOf a (pairsO t)) hI.tm.asc
   have hfw := chgs_few ha (pairsO t)
   rcases good_act hI (by omega) hk with ⟨er, g1, g2, _, g3⟩ | ⟨g1, g2, g3⟩ | ⟨g1, t', g2, g3, g4, _⟩
   .
    have : rstep ⟨ixOf d frm til U t, pairsO t, doubt, false⟩ a = ⟨ixOf d frm til U t, pairsO t, doubt, false⟩ := by
     unfold rstep
     rw [if_neg (by simp)]
     simp only [g3]
     rw [if_pos ⟨g1, g2⟩]
    rw [this]
    exact hmono
   .
    have : rstep ⟨ixOf d frm til U t, pairsO t, doubt, false⟩ a = ⟨ixOf d frm til U t, pairsO t, doubt, false⟩ := by
     unfold rstep
     rw [if_neg (by simp)]
     simp only [g3]
     rw [if_neg (by simp), if_neg (by decide), if_pos hk, g2]
     rfl
    rw [this]
    exact hmono
   .
    rcases g4.res with ⟨r1, r2, r3⟩ | ⟨r1, r2, r3, r4⟩
    .
     have : rstep ⟨ixOf d frm til U t, pairsO t, doubt, false⟩ a = ⟨(doX (ixOf d frm til U t) a (pairsO t)).1, applyL (pairsO t) (chgsOf a (pairsO t)), doubt, false⟩ := by
      unfold rstep
      rw [if_neg (by simp)]
      simp only
      rw [if_neg (by simp [r1]), if_neg (by rw [r1]; decide), if_pos hk]
     rw [this]
     refine ⟨hsh.trans g4.shape, fun k hk1 hk2 => ?_, g4.cache, g4.few, ⟨by simp only at hlen |-; omega, by simp only at hlen |-; omega⟩, applyL_asc hI.tm.asc, .inl ⟨rfl, U + 1, t', by omega, r3, r2, g3.symm⟩⟩
     rw [g4.pages k (by rw [hsh.2.2]; exact hk1) hk2]
     exact hfar k hk1 hk2
    .
     have : rstep ⟨ixOf d frm til U t, pairsO t, doubt, false⟩ a = ⟨(doX (ixOf d frm til U t) a (pairsO t)).1, pairsO t, applyL (pairsO t) (chgsOf a (pairsO t)), true⟩ := by
      unfold rstep
      rw [if_neg (by simp)]
      simp only
      rw [if_neg (by simp [r1]), if_pos r1]
     rw [this]
     refine ⟨hsh.trans g4.shape, fun k hk1 hk2 => ?_, g4.cache, g4.few, ⟨by simp only at hlen |-; omega, by simp only at hlen |-; omega⟩, hI.tm.asc, .inr ⟨rfl, r2, by rw [r3]; rfl, by rw [r3]; rfl, U, t, t', by omega, rfl, g3, r4⟩⟩
     rw [g4.pages k (by rw [hsh.2.2]; exact hk1) hk2]
     exact hfar k hk1 hk2
  .
   have n0 : a.kind ≠ 0 := fun e => hk (.inl e)
   have n1 : a.kind ≠ 1 := fun e => hk (.inr e)
   have key : ∀ e : Dsk, actX (ixOf d frm til U t) a (pairsO t) = (ixOf e frm til U t, 0) -> Shape d0 e -> (∀ k : Nat, k < d0.pages.length -> ((k : Int) < frm \/ til <= k) -> pageL e k = pageL d0 k) -> IxS e frm til U t -> RSnd d0 frm til (rstep ⟨ixOf d frm til U t, pairsO t, doubt, false⟩ a) (V + 1) := by
    intro e hA hse hfe hIe
    have hD := doX_of hA (.inl rfl)
    have : rstep ⟨ixOf d frm til U t, pairsO t, doubt, false⟩ a = ⟨ixOf e frm til U t, pairsO t, doubt, false⟩ := by
     unfold rstep
     rw [if_neg (by simp)]
     simp only [hD]
     rw [if_neg (by simp), if_neg (by decide), if_neg hk, if_neg (by simp)]
    rw [this]
    exact ⟨hse, hfe, (by intro x hx; have hx' : x ∈ e.cache := hx; rw [hIe.empty] at hx'; cases hx'), (by show e.cache.length <= 3000; rw [hIe.empty]; simp), ⟨by simp only at hlen |-; omega, by simp only at hlen |-; omega⟩, hI.tm.asc, .inl ⟨rfl, U, t, by omega, rfl, hIe, rfl⟩⟩
   by_cases k2 : a.kind = 2
   .
    have hA : actX (ixOf d frm til U t) a (pairsO t) = (powX (ixOf d frm til U t) a.left, 0) := by unfold actX; rw [if_neg hk, if_pos k2]
    by_cases hp : d.left = -1 /\ 0 <= a.left
    .
     have hx : -1 <= a.left.tmod 40 := by
      have := Int.tmod_eq_emod_of_nonneg hp.2 (b := 40)
      omega
     refine key { d with left := a.left.tmod 40 } ?_ (hsh.trans ⟨chk_left hsh.1 hx, rfl, rfl⟩) (fun k hk1 hk2 => ?_) (hI.left hx)
     .
      rw [hA]
      unfold powX
      rw [if_pos (show (ixOf d frm til U t).disk.left = -1 /\ 0 <= a.left from hp)]
      rfl
     .
      rw [page_left hsh.1 hx]
      exact hfar k hk1 hk2
    .
     refine key d ?_ hsh hfar hI
     rw [hA]
     unfold powX
     rw [if_neg (show ¬ ((ixOf d frm til U t).disk.left = -1 /\ 0 <= a.left) from hp)]
   .
    by_cases k3 : a.kind = 3
    .
     obtain ⟨c1, c2, c3⟩ := h.crash a.picks
     refine key (crashD d a.picks) ?_ c1 c2 (hI.crash _)
     unfold actX
     rw [if_neg hk, if_neg k2, if_pos k3]
     exact (hI.crash a.picks).openP
    .
     refine key d ?_ hsh hfar hI
     unfold actX
     rw [if_neg hk, if_neg k2, if_neg k3]
 .
  simp only at h0 hleft hf ht e1 e2 hp
  subst h0
  by_cases k3 : a.kind = 3
  .
   obtain ⟨c1, c2, c3⟩ := h.crash a.picks
   simp only at c1 c2 c3
   have hA : actX y a l = openP (crashD y.disk a.picks) frm til := by unfold actX; rw [if_neg (by omega), if_neg (by omega), if_pos k3, hf, ht]
   have key : ∀ (U' : Nat) (tt : Option Nd), U' <= V -> IxS (crashD y.disk a.picks) frm til U' tt -> (pairsO tt = l \/ pairsO tt = doubt) -> RSnd d0 frm til (rstep ⟨y, l, doubt, true⟩ a) (V + 1) := by
    intro U' tt hU' hI hor
    rw [hI.openP] at hA
    have hD := doX_of hA (.inl rfl)
    have hst : rstep ⟨y, l, doubt, true⟩ a = ⟨ixOf (crashD y.disk a.picks) frm til U' tt, pairsO tt, doubt, false⟩ := by
     unfold rstep
     rw [if_neg (by simp [k3])]
     simp only [hD]
     rw [if_neg (by simp), if_neg (by decide), if_neg (by omega), if_pos ⟨k3, trivial⟩, hI.scan]
     simp only [true_and]
     congr 1
     by_cases g : pairsO tt = doubt
     .
      rw [if_pos g]; exact g.symm
     .
      rw [if_neg g]
      rcases hor with h | h
      .
       exact h.symm
      .
       exact absurd h g
    rw [hst]
    refine ⟨c1, c2, (by intro x hx; have hx' : x ∈ (crashD y.disk a.picks).cache := hx; rw [c3] at hx'; cases hx'), (by show (crashD y.disk a.picks).cache.length <= 3000; rw [c3]; simp), ⟨?_, by simp only at hlen |-; omega⟩, hI.tm.asc, .inl ⟨rfl, U', tt, by omega, rfl, hI, rfl⟩⟩
    simp only at hlen |-
    rcases hor with h | h <;> rw [h] <;> omega
   rcases hp a.picks with g | g
   .
    exact key U t (by omega) g (.inl e1)
   .
    exact key (U + 1) t' (by omega) g (.inr e2)
  .
   have : rstep ⟨y, l, doubt, true⟩ a = ⟨y, l, doubt, true⟩ := by
    unfold rstep
    rw [if_pos ⟨rfl, k3⟩]
   rw [this]
   exact hmono
def rsAt (s : RS) (acts : List ActB) : RS := acts.foldl rstep s
theorem rsAt_take {s : RS} {acts : List ActB} {k : Nat} (h : k < acts.length) : rsAt s (acts.take (k + 1)) = rstep (rsAt s (acts.take k)) acts[k] := by
 unfold rsAt
 rw [List.take_add_one, List.getElem?_eq_getElem h, List.foldl_append]
 rfl
theorem RSnd.run : ∀ {acts : List ActB} {s : RS} {d0 : Dsk} {frm til : Int} {V : Nat}, RSnd d0 frm til s V -> V + acts.length <= 200 -> (∀ a ∈ acts, fitsA a = true) -> RSnd d0 frm til (rsAt s acts) (V + acts.length)
 | [], _, _, _, _, _, h, _, _ => h
 | a :: acts, s, d0, frm, til, V, h, hV, hf => by
  rw [zlC] at hV |-
  have := RSnd.run (h.step (by omega) (hf a (by simp))) (acts := acts) (by omega) fun x hx => hf x (by simp [hx])
  rw [show V + 1 + acts.length = V + (acts.length + 1) by omega] at this
  exact this
theorem beginX_ok {p frm til : Int} {acts : List ActB} (h : (beginX p frm til acts).2 = true) :
  fine42 p acts = true /\ RSnd (beginX p frm til acts).1.disk frm til ⟨(beginX p frm til acts).1, [], [], false⟩ 1 /\ (beginX p frm til acts).1.disk.left = -1 := by
 unfold beginX at h |-
 split at h
 .
  cases h
 rename_i h0
 rw [if_neg h0]
 split at h
 .
  cases h
 rename_i h1
 rw [if_neg h1]
 split at h
 .
  cases h
 rename_i h2
 rw [if_neg h2]
 obtain ⟨g1, g2, g3, g4⟩ := fmt_X (d := (newD p 512).1) (frm := frm) (til := til) (by simpa using h2)
 rw [g1.openP]
 refine ⟨by simpa using h0, ⟨.refl g1.bd.1, fun _ _ _ => rfl, ?_, ?_, ⟨by simp, by simp⟩, List.Pairwise.nil, .inl ⟨rfl, 1, none, Nat.le_refl _, rfl, g1, rfl⟩⟩, ?_⟩
 .
  intro x hx
  have hx' : x ∈ (fmtX (newD p 512).1 frm til).1.cache := hx
  rw [g1.empty] at hx'; cases hx'
 .
  show (fmtX (newD p 512).1 frm til).1.cache.length <= 3000
  rw [g1.empty]; simp
 .
  refine g3 ?_
  unfold newD at h1 |-
  split
  .
   rfl
  .
   rename_i hr
   rw [if_neg hr] at h1
   simp at h1
def reachX (p frm til : Int) (acts : List ActB) : Ix × List Kv × Bool :=
 if (beginX p frm til acts).2 = false then ((beginX p frm til acts).1, [], false)
 else ((rsAt ⟨(beginX p frm til acts).1, [], [], false⟩ acts).y, (rsAt ⟨(beginX p frm til acts).1, [], [], false⟩ acts).l, (rsAt ⟨(beginX p frm til acts).1, [], [], false⟩ acts).y.disk.left == -1)
theorem fine_acts {p : Int} {acts : List ActB} (h : fine42 p acts = true) : acts.length <= 8 /\ p <= 40 /\ ∀ a ∈ acts, fitsA a = true := by
 unfold fine42 at h
 simp only [Bool.and_eq_true, Bool.not_eq_eq_eq_not, Bool.not_true, decide_eq_false_iff_not, List.all_eq_true] at h
 obtain ⟨h1, h2, h3⟩ := h
 exact ⟨by omega, by omega, h3⟩
theorem reach_good {p frm til : Int} {acts : List ActB} {y : Ix} {l : List Kv} (h : reachX p frm til acts = (y, l, true)) :
  ∃ V t, V <= 9 /\ y = ixOf y.disk frm til V t /\ IxS y.disk frm til V t /\ l = pairsO t /\ y.disk.left = -1 /\ l.length <= 1000 := by
 unfold reachX at h
 split at h
 .
  cases h
 .
  rename_i hb
  have hb' : (beginX p frm til acts).2 = true := by simpa using hb
  obtain ⟨hf, hS, _⟩ := beginX_ok hb'
  obtain ⟨hal, _, hfa⟩ := fine_acts hf
  have hR := hS.run (acts := acts) (by omega) hfa
  generalize rsAt ⟨(beginX p frm til acts).1, [], [], false⟩ acts = s at h hR
  simp only [Prod.mk.injEq, beq_iff_eq] at h
  obtain ⟨rfl, rfl, hleft⟩ := h
  rcases hR.st with ⟨_, U, t, hU, hy, hI, hl⟩ | ⟨_, h0, _⟩
  .
   exact ⟨U, t, by omega, hy, hI, hl, hleft, by have := hR.len; omega⟩
  .
   rw [hleft] at h0; exact absurd h0 (by decide)
end Go.Proofs.YtlefmmhlpgmbjaaGreat
namespace Go.Proofs.YtlefmmhlpgmbjaaGreat
set_option maxRecDepth 100000
open Go.RowKit Go.Shelf Go.Lib
def keepP (cs : List Chg) (p : Kv) : Bool := !(cs.any fun c => decide (c.key = p.1))
theorem filter_take {α : Type} {p : α -> Bool} {l : List α} {k : Nat} (h : k < l.length) : (l.take (k + 1)).filter p = (l.take k).filter p ++ if p l[k] then [l[k]] else [] := by
 rw [List.take_succ_eq_append_getElem h, List.filter_append, List.filter_cons, List.filter_nil]
def newP (cs : List Chg) : List Kv := (cs.filter Chg.hasNew).map fun c => (c.key, c.new)
theorem newP_take {cs : List Chg} {k : Nat} (h : k < cs.length) : newP (cs.take (k + 1)) = newP (cs.take k) ++ if cs[k].hasNew then [(cs[k].key, cs[k].new)] else [] := by
 unfold newP
 rw [filter_take h, List.map_append]
 split <;> rfl
theorem newP_len (cs : List Chg) : (newP cs).length <= cs.length := by unfold newP; rw [List.length_map]; exact List.length_filter_le _ _
set_option maxRecDepth 100000 in
set_option maxHeartbeats 4000000 in
theorem rn_After (l : List Kv) (lo : Option Addr) (lc : Nat) (cs : List Chg) (co : Option Addr) (cc : Nat) (w : World) (hl : KvsAt w lo l) (hls : SlW lo l.length lc) (hc : ChgsAt w co cs) (hcs : SlW co cs.length cc) (hll : l.length <= 100000) (hcl : cs.length <= 100000) (ha : Asc l) (hn : (cs.map Chg.key).Nodup) :
  Calls Tryz.prog 38 #[.slice lo l.length lc, .slice co cs.length cc] w fun e w' => ∃ v, e = .returned v /\ PairsR w' w.heap.size v (applyL l cs) /\ Below w.heap.size w w' := by
 obtain ⟨ip, hip, hz0, hz1, hz2⟩ := info_parts infoPair
 have Hi := zhI (zaI hip (zaI hz0 (zaI hz1 hz2)))
 clear hip hz0 hz1 hz2
 have hlen := slw_len hls
 have hclen := slw_len hcs
 have HN := zhI (zaI ha hn)
 clear ha hn
 go_enter Tryz.func38, Tryz.ntmps38
 go_wp2
 go_loopw [5, 12] (fun v i wr => ∃ (k : Nat) (o : Option Addr) (c : Nat), k <= l.length /\ i = .int .i64 k /\ v = .slice o ((l.take k).filter (keepP cs)).length c /\ wr.ownsRow w.heap.size 77 2 (.slice o ((l.take k).filter (keepP cs)).length c) ((l.take k).filter (keepP cs)).length (kvsC ((l.take k).filter (keepP cs))) /\ Below w.heap.size w wr) (fun _ i _ => l.length - (intOf i).toNat)
 case atStart => exact ⟨0, none, 0, Nat.zero_le _, rfl, rfl, World.ownsRow_nil _ _ _ _, Below.refl _ _⟩
 case round =>
  obtain ⟨k, o, c, hk, rfl, rfl, hown, hB⟩ := hrel
  have hz := hB.size
  by_cases hlt : k < l.length
  .
   obtain ⟨b, off, rfl, hgb, k0, k1⟩ := hl.cell hlt
   have c0 := (hB.cell hgb).trans k0
   have c1 := (hB.cell hgb).trans k1
   clear k0 k1
   have Hs := zhI (filter_take (p := keepP cs) hlt)
   have hFl : ((l.take k).filter (keepP cs)).length <= k := znT (List.length_filter_le _ _) (by rw [List.length_take]; omega)
   obtain ⟨F, hF⟩ : ∃ F, (l.take k).filter (keepP cs) = F := ⟨_, rfl⟩
   rw [hF] at hown Hs hFl |-
   obtain ⟨⟨ky, vl⟩, hx⟩ : ∃ x, l[k] = x := ⟨_, rfl⟩
   rw [hx] at c0 c1 Hs
   obtain ⟨m, hm⟩ : ∃ m, F.length = m := ⟨_, rfl⟩
   rw [hm] at hown hFl |-
   have Hm := zhI hm
   clear hF hx hm
   have xp := Bx.new wr #[.string ky, .string vl] 77
   have hbo := Below.one wr (.cells #[.string ky, .string vl] 77)
   have hBB := btr hB hbo
   have lB : b < wr.heap.size := znL hgb hB.size
   have hcon := contains_key cs co cc ky vl wr.heap.size _ (hc.below hBB) hcs xp
   obtain ⟨hit, hhit⟩ : ∃ h, (cs.any fun x => decide (x.key = ky)) = h := ⟨_, rfl⟩
   rw [hhit] at hcon
   have Hcon := zhI hcon
   have hkeep : keepP cs (ky, vl) = !hit := by unfold keepP; simp only; rw [hhit]
   have Hk := zhI hkeep
   have HB := zhI hBB
   have Ho := zhI hown
   clear hcon hhit hkeep hB hBB hown
   go_wp2_with fail
   refine Hcon.out.mono ?_
   rintro e w1 ⟨rfl, hb1⟩
   have xp1 := xp.belowAll hb1
   have hB1 := btr HB.out hb1
   have hown1 := ownsRow_belowAll (Ho.out.alloc (.cells #[.string ky, .string vl] 77)) hb1
   have hz1 := hB1.size
   have cP := xp1.cell
   have lP := xp1.lt
   clear Hcon c0 c1 lB xp hbo hb1 Ho HB
   cases hit with
   | true =>
    have Hs2 : Hid ((l.take (k + 1)).filter (keepP cs) = F) := zhI (by rw [Hs.out, Hk.out]; simp)
    clear Hs Hk
    go_wp2
    go_roundw
    case rel => exact ⟨k + 1, o, c, by omega, by go_num, by rw [Hs2.out, Hm.out], by rw [Hs2.out, Hm.out]; exact hown1, hB1⟩
    case measure => simp [intOf]; omega
   | false =>
    have Hs2 : Hid ((l.take (k + 1)).filter (keepP cs) = F ++ [(ky, vl)]) := zhI (by rw [Hs.out, Hk.out]; simp)
    clear Hs Hk
    have hown2 := hown1.alloc (.cells #[.string ky, .string vl] 77)
    have H1c : Hid (∀ u ∈ [Value.string ky, Value.string vl], u.oneCell' = true) := zhI (by intro u hu; simp at hu; rcases hu with rfl | rfl <;> rfl)
    have HRW : Hid (RowAt (· = w1.heap.size) (w1.alloc (.cells #[.string ky, .string vl] 77)) (some ⟨w1.heap.size, 0, none⟩) [.string ky, .string vl]) := zhI (RowAt.bx (Bx.new w1 #[.string ky, .string vl] 77))
    have HB := zhI hB1
    clear hB1
    go_wp2_with (at_builtin; refine wpList_app rfl _ _ 41 rfl w.heap.size 77 ip _ 2 32 Tryz.underlying41 Hi.out.1 Hi.out.2.1 Hi.out.2.2.1 Hi.out.2.2.2 rfl (by decide) (.slice o m c) m (kvsC F) rfl hown2 (some ⟨w1.heap.size, 0, none⟩) 1 1 [.string ky, .string vl] rfl (by intro e; cases e) rfl HRW.out H1c.out (by unfold maxLen; omega) (by omega) (by simp; omega) ?_; intro v3 w3 hown3 hg3; obtain ⟨o3, c3, rfl⟩ := own_slice hown3)
    go_roundw
    case rel =>
     have el : (F ++ [(ky, vl)]).length = m + 1 := by rw [zlA, Hm.out]; rfl
     have ev : kvsC (F ++ [(ky, vl)]) = kvsC F ++ [.string ky, .string vl] := by rw [kvsC_app]; rfl
     refine ⟨k + 1, o3, c3, by omega, by go_num, by rw [Hs2.out, el], by rw [Hs2.out, el, ev]; exact hown3, ?_⟩
     exact Below.grownOwn (HB.out.alloc hz1 _) hown2 hg3 (by simp; omega)
    case measure => simp [intOf]; omega
  .
   have hF0 : (l.take k).filter (keepP cs) = l.filter (keepP cs) := by rw [List.take_of_length_le (by omega)]
   have hFl : (l.filter (keepP cs)).length <= l.length := List.length_filter_le _ _
   have hAf : afterL l cs = l.filter (keepP cs) ++ newP cs := rfl
   rw [hF0] at hown |-
   obtain ⟨G, hG⟩ : ∃ G, l.filter (keepP cs) = G := ⟨_, rfl⟩
   rw [hG] at hown hFl hAf |-
   have HAf := zhI hAf
   clear hG hF0 hAf
   have HST : Hid (wr.ownsRow w.heap.size 77 2 (.slice o (G ++ newP (cs.take 0)).length c) (G ++ newP (cs.take 0)).length (kvsC (G ++ newP (cs.take 0)))) := zhI (by simpa [newP] using hown)
   have hE0 : (G ++ newP (cs.take 0)).length = G.length := by simp [newP]
   have HE0 := zhI hE0
   clear hown hE0 hk
   go_wp2
   go_loopw [5, 27] (fun v i wr => ∃ (k : Nat) (o : Option Addr) (c : Nat), k <= cs.length /\ i = .int .i64 k /\ v = .slice o (G ++ newP (cs.take k)).length c /\ wr.ownsRow w.heap.size 77 2 (.slice o (G ++ newP (cs.take k)).length c) (G ++ newP (cs.take k)).length (kvsC (G ++ newP (cs.take k))) /\ Below w.heap.size w wr) (fun _ i _ => cs.length - (intOf i).toNat)
   case atStart => exact ⟨0, o, c, Nat.zero_le _, rfl, by rw [HE0.out], HST.out, hB⟩
   case round =>
    clear HST HE0 hB hz hlt
    obtain ⟨k, o, c, hk, rfl, rfl, hown, hB⟩ := hrel
    have hz := hB.size
    by_cases hlt : k < cs.length
    .
     obtain ⟨b, off, rfl, hgb, k0, k1, k2, k3, k4⟩ := hc.cell hlt
     have c0 := (hB.cell hgb).trans k0
     have c1 := (hB.cell hgb).trans k1
     have c2 := (hB.cell hgb).trans k2
     have c3 := (hB.cell hgb).trans k3
     have c4 := (hB.cell hgb).trans k4
     clear k0 k1 k2 k3 k4
     have Hs := zhI (newP_take hlt)
     have hFl2 : (G ++ newP (cs.take k)).length <= l.length + k := by
      rw [zlA]
      have := newP_len (cs.take k)
      rw [List.length_take] at this
      omega
     obtain ⟨Q, hQ⟩ : ∃ Q, newP (cs.take k) = Q := ⟨_, rfl⟩
     rw [hQ] at hown Hs hFl2 |-
     obtain ⟨F, hF⟩ : ∃ F, G ++ Q = F := ⟨_, rfl⟩
     rw [hF] at hown hFl2 |-
     have HF := zhI hF
     obtain ⟨x, hx⟩ : ∃ x, cs[k] = x := ⟨_, rfl⟩
     rw [hx] at c0 c1 c2 c3 c4 Hs
     obtain ⟨m, hm⟩ : ∃ m, F.length = m := ⟨_, rfl⟩
     rw [hm] at hown hFl2 |-
     have Hm := zhI hm
     clear hF hx hm hQ
     have hbo := Below.one wr (.cells #[.string x.key, .bool x.hasOld, .bool x.hasNew, .string x.old, .string x.new] 71)
     have hBB := btr hB hbo
     have hownB := hown.alloc (.cells #[.string x.key, .bool x.hasOld, .bool x.hasNew, .string x.old, .string x.new] 71)
     have lB : b < wr.heap.size := znL hgb hB.size
     cases hnw : x.hasNew with
     | false =>
      have Hs2 : Hid (G ++ newP (cs.take (k + 1)) = F) := zhI (by rw [Hs.out, hnw, <- HF.out]; simp)
      rw [hnw] at c2 hownB hBB
      clear Hs hnw hbo
      go_wp2
      go_roundw
      case rel => exact ⟨k + 1, o, c, by omega, by go_num, by rw [Hs2.out, Hm.out], by rw [Hs2.out, Hm.out]; exact hownB, hBB⟩
      case measure => simp [intOf]; omega
     | true =>
      have Hs2 : Hid (G ++ newP (cs.take (k + 1)) = F ++ [(x.key, x.new)]) := zhI (by rw [Hs.out, hnw, <- HF.out]; simp)
      rw [hnw] at c2 hownB hBB hbo
      clear Hs hnw
      obtain ⟨W1, hW1⟩ : ∃ W1, wr.alloc (.cells #[.string x.key, .bool x.hasOld, .bool true, .string x.old, .string x.new] 71) = W1 := ⟨_, rfl⟩
      have xC : Bx W1 wr.heap.size #[.string x.key, .bool x.hasOld, .bool true, .string x.old, .string x.new] 71 := by subst hW1; exact Bx.new wr _ _
      rw [hW1] at hownB hBB hbo
      have hown2 := hownB.alloc (.cells #[.string x.key, .string x.new] 77)
      have H1c : Hid (∀ u ∈ [Value.string x.key, Value.string x.new], u.oneCell' = true) := zhI (by intro u hu; simp at hu; rcases hu with rfl | rfl <;> rfl)
      have HRW : Hid (RowAt (· = W1.heap.size) (W1.alloc (.cells #[.string x.key, .string x.new] 77)) (some ⟨W1.heap.size, 0, none⟩) [.string x.key, .string x.new]) := zhI (RowAt.bx (Bx.new W1 #[.string x.key, .string x.new] 77))
      have hz1 := hBB.size
      have HB := zhI hBB
      have cC := xC.cell
      have lC := xC.lt
      clear hBB xC hbo
      go_wp2_with (at_builtin; refine wpList_app rfl _ _ 41 rfl w.heap.size 77 ip _ 2 32 Tryz.underlying41 Hi.out.1 Hi.out.2.1 Hi.out.2.2.1 Hi.out.2.2.2 rfl (by decide) (.slice o m c) m (kvsC F) rfl hown2 (some ⟨W1.heap.size, 0, none⟩) 1 1 [.string x.key, .string x.new] rfl (by intro e; cases e) rfl HRW.out H1c.out (by unfold maxLen; omega) (by omega) (by simp; omega) ?_; intro v3 w3 hown3 hg3; obtain ⟨o3, c3, rfl⟩ := own_slice hown3)
      go_roundw
      case rel =>
       have el : (F ++ [(x.key, x.new)]).length = m + 1 := by rw [zlA, Hm.out]; rfl
       have ev : kvsC (F ++ [(x.key, x.new)]) = kvsC F ++ [.string x.key, .string x.new] := by rw [kvsC_app]; rfl
       refine ⟨k + 1, o3, c3, by omega, by go_num, by rw [Hs2.out, el], by rw [Hs2.out, el, ev]; exact hown3, ?_⟩
       exact Below.grownOwn (HB.out.alloc hz1 _) hown2 hg3 (by simp; omega)
      case measure => simp [intOf]; omega
    .
     have hF0 : G ++ newP (cs.take k) = afterL l cs := by rw [HAf.out, List.take_of_length_le (by omega)]
     rw [hF0] at hown |-
     have hal := afterL_len l cs
     have hso := sort_pairs hown (by omega) (afterL_nodup HN.out.1 HN.out.2) (m := applyL l cs) (applyL_asc HN.out.1) (fun x => afterL_mem HN.out.1 HN.out.2 x)
     obtain ⟨S, hS⟩ : ∃ S, applyL l cs = S := ⟨_, rfl⟩
     obtain ⟨T, hT⟩ : ∃ T, afterL l cs = T := ⟨_, rfl⟩
     rw [hS, hT] at hso
     rw [hT] at hown hal |-
     obtain ⟨m, hm⟩ : ∃ m, T.length = m := ⟨_, rfl⟩
     rw [hm] at hso hal hown |-
     have Hso := zhI hso
     have HS := zhI hS
     have Hown := zhI hown
     clear hso hS hT hown hF0 HAf
     go_wp2_with fail
     refine Hso.out.mono ?_
     rintro e w2 ⟨rfl, hml, hown2, hg2⟩
     have hB2 := Below.grownOwn hB Hown.out hg2 hz
     have Hml := zhI hml
     have Hown2 := zhI hown2
     clear hml hown2 Hso
     go_wp2
     go_ret
     exact ⟨_, rfl, by rw [HS.out, Hml.out]; have := Hown2.out; rw [Hml.out] at this; exact this, hB2⟩
end Go.Proofs.YtlefmmhlpgmbjaaGreat
