/- Plain: what the program loads is what the reference loads and finds well formed. Lazy's law where one operation of the head (a pure one, q) may also stand behind the first operation behind the head. What btree.Commit returns, plain. What a valid index's tree and free pages are; contents at an optional tree. Plain laws: a stream of records reads as the records, and what reads as records is their stream. No function of the program is named here. Plain laws: what a list of operations makes of a valid disk. No function of the program is named here. -/
import Derived.Test.YtlefmmhlpgmbjaaGreatQ16
import Derived.Test.YtlefmmhlpgmbjaaGreatQ13
import Derived.Test.YtlefmmhlpgmbjaaGreatQ19
import Derived.Test.YtlefmmhlpgmbjaaGreatQ01
import Derived.Test.YtlefmmhlpgmbjaaGreatQ04
import Derived.Test.YtlefmmhlpgmbjaaGreatQ05
namespace Go.Proofs.YtlefmmhlpgmbjaaGreat
set_option maxRecDepth 100000
open Go.RowKit
theorem depL_same {l : List Nd} {h : Nat} (h0 : l ≠ []) (hl : ∀ k ∈ l, k.dep = h + 1) : depL (l.map Nd.dep) = h + 2 := by
 cases l with
 | nil => exact absurd rfl h0
 | cons k r =>
  have hk := hl k (by simp)
  rw [List.map_cons, depL, hk, if_neg, if_neg (by omega)]
  simp only [List.any_eq_true, not_exists, not_and, List.mem_map]
  rintro x ⟨c, hc, rfl⟩
  simpa using hl c (by simp [hc])
theorem Tm.dep : ∀ {n : Nd} {a b h : Nat}, Tm a b h n -> n.dep = h + 1 := by
 intro n
 induction n using Nd.ind with
 | h ps kids page ih =>
  intro a b h t
  cases t with
  | lf => rfl
  | inn _ _ h _ _ g2 g0 g8 hk =>
   rw [Nd.dep_eq]
   exact depL_same (show kids ≠ [] from fun e => by rw [e] at g0; simp at g0) fun k hk' => ih k hk' (hk k hk')
theorem Tm.not_small' {h : Nat} {n : Nd} (t : Tm 2 4 h n) : n.small = false := by
 unfold Nd.small
 cases h with
 | zero => obtain ⟨hk, h1, _, _⟩ := t.lf'; rw [if_pos hk]; simpa using h1
 | succ h => obtain ⟨_, h0, h1, _, _⟩ := t.inn'; rw [if_neg h0]; simpa using h1
theorem Tm.smallB : ∀ {n : Nd} {a b h : Nat}, Tm a b h n -> n.smallB = false := by
 intro n
 induction n using Nd.ind with
 | h ps kids page ih =>
  intro a b h t
  rw [Nd.smallB_eq]
  cases t with
  | lf => rfl
  | inn _ _ h _ _ g2 g0 g8 hk =>
   simp only [List.any_eq_false, Nd.kids]
   intro k hk'
   rw [(hk k hk').not_small', ih k hk' (hk k hk')]
   decide
theorem depL_pos {l : List Nat} (h0 : l ≠ []) {h : Nat} (h1 : depL l = h + 1) : ∃ m, h = m + 1 /\ ∀ d ∈ l, d = m + 1 := by
 cases l with
 | nil => exact absurd rfl h0
 | cons d r =>
  rw [depL] at h1
  split at h1
  .
   cases h1
  .
   rename_i hr
   split at h1
   .
    cases h1
   .
    rename_i hd
    refine ⟨d - 1, by omega, fun x hx => ?_⟩
    rcases zmC.1 hx with rfl | hx
    .
     omega
    .
     simp only [List.any_eq_true, not_exists, not_and] at hr
     have := hr x hx
     have : x = d := by simpa using this
     omega
theorem Shp.tm : ∀ {n : Nd} {h : Nat}, Shp n -> n.dep = h + 1 -> n.smallB = false -> Tm 1 2 h n := by
 intro n
 induction n using Nd.ind with
 | h ps kids page ih =>
  intro h s hd hs
  cases s with
  | lf _ _ h1 h3 hk =>
   have : h = 0 := by have : (Nd.mk ps [] page).dep = 1 := rfl; omega
   subst this
   exact .lf _ _ _ _ h1 h3 hk
  | inn _ _ h2 h8 hk =>
   have hne : kids ≠ [] := fun e => by rw [e] at h2; simp at h2
   rw [Nd.dep_eq] at hd
   simp only [Nd.kids] at hd
   obtain ⟨m, rfl, hm⟩ := depL_pos (by simpa using hne) hd
   rw [Nd.smallB_eq] at hs
   simp only [List.any_eq_false, Nd.kids] at hs
   refine .inn _ _ _ _ _ h2 (by omega) h8 fun k hk' => ?_
   have h5 := hs k hk'
   simp only [Bool.or_eq_true, not_or, Bool.not_eq_true] at h5
   exact ((ih k hk' (hk k hk') (hm _ (List.mem_map.2 ⟨k, hk', rfl⟩)) h5.2).mono (Nat.le_refl _) (by decide : 2 <= 2) |> fun t => by
    have hsm := h5.1
    unfold Nd.small at hsm
    cases m with
    | zero => obtain ⟨a1, a2, a3, a4⟩ := t.lf'; rw [if_pos a1] at hsm; exact .mk_lf a1 (by simpa using hsm) a3 a4
    | succ m => obtain ⟨a1, a0, a2, a3, a4⟩ := t.inn'; rw [if_neg a0] at hsm; exact .mk_inn a1 a0 (by simpa using hsm) a3 a4)
theorem formedB_iff {n : Nd} (s : Shp n) : formedB n = true ↔ Asc n.prs /\ ∃ h, Tm 1 2 h n := by
 unfold formedB
 simp only [Bool.and_eq_true, Bool.not_eq_true', decide_eq_true_eq]
 rw [asc_iff]
 constructor
 .
  rintro ⟨⟨h1, h2⟩, h3⟩
  obtain ⟨h, hh⟩ : ∃ h, n.dep = h + 1 := ⟨n.dep - 1, by omega⟩
  exact ⟨h1, h, s.tm hh h3⟩
 .
  rintro ⟨h1, h, t⟩
  exact ⟨⟨h1, by rw [t.dep]; omega⟩, t.smallB⟩
theorem kidPgs_len (s : List UInt8) (n : Nat) : (kidPgs s n).length = n := by simp [kidPgs]
theorem kidsV_W {g : Int -> List Int -> Option (Nd × Nat × List Int)} {g' : Int -> List Int -> Option (Nd × List Int)} (hg : ∀ p u n k u', g p u = some (n, k, u') -> g' p u = some (n, u')) :
  ∀ {l : List Int} {o : Option Nat} {u u' : List Int} {ns : List Nd} {k : Nat}, kidsV g l o u = some (ns, k, u') -> kidsW g' l u = some (ns, u') /\ (l = [] -> k = o.getD 0) /\ (l ≠ [] -> (o = none \/ o = some k) /\ ∀ n ∈ ns, ∃ p u1 u2, g p u1 = some (n, k, u2))
 | [], o, u, u', ns, k, h => by
  simp only [kidsV, Option.some.injEq, Prod.mk.injEq] at h
  obtain ⟨rfl, rfl, rfl⟩ := h
  exact ⟨rfl, fun _ => rfl, fun h => absurd rfl h⟩
 | p :: r, o, u, u', ns, k, h => by
  rw [kidsV] at h
  split at h
  .
   cases h
  .
   rename_i n k1 u1 hx
   split at h
   .
    cases h
   .
    rename_i ho
    obtain ⟨⟨m, k2, u2⟩, hm, e⟩ := Option.map_eq_some_iff.1 h
    simp only [Prod.mk.injEq] at e
    obtain ⟨rfl, rfl, rfl⟩ := e
    obtain ⟨i1, i2, i3⟩ := kidsV_W hg hm
    have hk : k1 = k2 := by
     by_cases hr : r = []
     .
      exact (i2 hr).symm
     .
      rcases (i3 hr).1 with h | h
      .
       cases h
      .
       simpa using h
    subst hk
    refine ⟨?_, fun h => (by cases h), fun _ => ⟨?_, ?_⟩⟩
    .
     rw [kidsW, hg _ _ _ _ _ hx]
     simp only [i1, Option.map_some]
    .
     rcases o with _ | o
     .
      exact .inl rfl
     .
      right
      simp only [ne_eq, reduceCtorEq, not_false_eq_true, true_and, Decidable.not_not] at ho
      exact ho
    .
     intro x hx'
     rcases zmC.1 hx' with rfl | hx'
     .
      exact ⟨_, _, _, hx⟩
     .
      by_cases hr : r = []
      .
       subst hr
       simp only [kidsV, Option.some.injEq, Prod.mk.injEq] at hm
       rw [<- hm.1] at hx'
       cases hx'
      .
       exact (i3 hr).2 x hx'
theorem kidsW_V {g : Int -> List Int -> Option (Nd × Nat × List Int)} {g' : Int -> List Int -> Option (Nd × List Int)} {k : Nat} {Q : Nd -> Prop} (hg : ∀ p u n u', Q n -> g' p u = some (n, u') -> g p u = some (n, k, u')) :
  ∀ {l : List Int} {o : Option Nat} {u u' : List Int} {ns : List Nd}, (∀ n ∈ ns, Q n) -> (o = none \/ o = some k) -> kidsW g' l u = some (ns, u') -> kidsV g l o u = some (ns, if l = [] then o.getD 0 else k, u')
 | [], o, u, u', ns, hq, ho, h => by
  simp only [kidsW, Option.some.injEq, Prod.mk.injEq] at h
  obtain ⟨rfl, rfl⟩ := h
  rfl
 | p :: r, o, u, u', ns, hq, ho, h => by
  rw [kidsW] at h
  split at h
  .
   cases h
  .
   rename_i n u1 hx
   obtain ⟨⟨m, u2⟩, hm, e⟩ := Option.map_eq_some_iff.1 h
   simp only [Prod.mk.injEq] at e
   obtain ⟨rfl, rfl⟩ := e
   rw [kidsV, hg _ _ _ _ (hq n (by simp)) hx]
   simp only
   rw [if_neg (by rcases ho with rfl | rfl <;> simp)]
   rw [kidsW_V hg (o := some k) (fun x hx' => hq x (by simp [hx'])) (.inr rfl) hm]
   simp only [Option.map_some, Option.getD_some, ite_self, if_neg (List.cons_ne_nil _ _)]
theorem loadP_R {d : Dsk} {frm til : Int} : ∀ (f : Nat) {root : Bool} {page : Int} {used u : List Int} {n : Nd} {k : Nat}, loadP d frm til f root page used = some (n, k, u) ->
  loadR d frm til f page used = some (n, u) /\ ∃ h, k = h + 1 /\ Tm (if root then 1 else 2) (if root then 2 else 4) h n
 | 0, _, _, _, _, _, _, h => by cases h
 | f + 1, root, page, used, u, n, k, h => by
  rw [loadP] at h
  rw [loadR]
  split at h
  .
   cases h
  .
   rename_i hp
   rw [if_neg hp]
   split at h
   .
    rename_i h76
    rw [if_pos h76]
    split at h
    .
     cases h
    .
     rename_i hc
     rw [if_neg (by omega)]
     split at h
     .
      cases h
     .
      rename_i ps hps
      try (rw [hps]; simp only)
      split at h
      .
       rename_i he
       rw [if_pos he]
       simp only [Option.some.injEq, Prod.mk.injEq] at h
       obtain ⟨rfl, rfl, rfl⟩ := h
       obtain ⟨e1, e2⟩ := leafP_ok hps
       refine ⟨rfl, 0, rfl, .lf _ _ _ _ ?_ (by omega) e2⟩
       cases root
       .
        simp only [true_and] at hc; simp only [Bool.false_eq_true, if_false]; omega
       .
        simp only [if_true]; omega
      .
       cases h
   .
    rename_i h76
    rw [if_neg h76]
    split at h
    .
     cases h
    .
     rename_i hc
     rw [not_or, not_or, not_or] at hc
     obtain ⟨c1, c2, c3, c4⟩ := hc
     rw [if_neg (by rintro (h | h | h); exact c1 h; omega; omega)]
     split at h
     .
      cases h
     .
      rename_i kids k1 u1 hk
      obtain ⟨i1, i2, i3⟩ := kidsV_W (g' := loadR d frm til f) (fun p u n k u' hg => (loadP_R f hg).1) hk
      rw [i1]
      simp only
      split at h
      .
       rename_i he
       rw [if_pos he]
       simp only [Option.some.injEq, Prod.mk.injEq] at h
       obtain ⟨rfl, rfl, rfl⟩ := h
       obtain ⟨e1, e2⟩ := kidsV_ok hk
       have hlen : kids.length = ((pageL d page).getD 1 0).toNat := by rw [e1]; simp [kidPgs]
       have hne : kidPgs ((pageL d page).drop 2) ((pageL d page).getD 1 0).toNat ≠ [] := fun e => by
        have := congrArg List.length e
        rw [kidPgs_len, List.length_nil] at this
        omega
       obtain ⟨-, i4⟩ := i3 hne
       have hex : ∀ n ∈ kids, ∃ h, k1 = h + 1 /\ Tm 2 4 h n := fun n hn => by
        obtain ⟨p, u2, u3, hg⟩ := i4 n hn
        exact (loadP_R f hg).2
       have hk0 : kids ≠ [] := fun e => by rw [e, List.length_nil] at hlen; omega
       obtain ⟨c, r, rfl⟩ := List.exists_cons_of_ne_nil hk0
       obtain ⟨h, rfl, -⟩ := hex c (by simp)
       refine ⟨rfl, h + 1, rfl, .inn _ _ _ _ _ ?_ (by simp) (by omega) fun n hn => ?_⟩
       .
        cases root
        .
         simp only [true_and] at c4; simp only [Bool.false_eq_true, if_false]; omega
        .
         simp only [if_true]; omega
       .
        obtain ⟨h', e, t⟩ := hex n hn
        obtain rfl : h' = h := by omega
        exact t
      .
       cases h
theorem kidsW_all {g : Int -> List Int -> Option (Nd × List Int)} : ∀ {l : List Int} {u u' : List Int} {ns : List Nd}, kidsW g l u = some (ns, u') -> ns.length = l.length /\ ∀ n ∈ ns, ∃ p u1 u2, g p u1 = some (n, u2)
 | [], u, u', ns, h => by
  simp only [kidsW, Option.some.injEq, Prod.mk.injEq] at h
  obtain ⟨rfl, rfl⟩ := h
  exact ⟨rfl, fun n hn => by cases hn⟩
 | p :: r, u, u', ns, h => by
  rw [kidsW] at h
  split at h
  .
   cases h
  .
   rename_i n u1 hx
   obtain ⟨⟨m, u2⟩, hm, e⟩ := Option.map_eq_some_iff.1 h
   simp only [Prod.mk.injEq] at e
   obtain ⟨rfl, rfl⟩ := e
   obtain ⟨i1, i2⟩ := kidsW_all hm
   refine ⟨by simp [i1], fun x hx' => ?_⟩
   rcases zmC.1 hx' with rfl | hx'
   .
    exact ⟨_, _, _, hx⟩
   .
    exact i2 x hx'
theorem loadR_shp {d : Dsk} {frm til : Int} : ∀ (f : Nat) {page : Int} {used u : List Int} {n : Nd}, loadR d frm til f page used = some (n, u) -> Shp n
 | 0, _, _, _, _, h => by cases h
 | f + 1, page, used, u, n, h => by
  rw [loadR] at h
  split at h
  .
   cases h
  .
   split at h
   .
    split at h
    .
     cases h
    .
     rename_i hc
     split at h
     .
      cases h
     .
      rename_i ps hps
      split at h
      .
       simp only [Option.some.injEq, Prod.mk.injEq] at h
       obtain ⟨rfl, -⟩ := h
       obtain ⟨e1, e2⟩ := leafP_ok hps
       exact .lf _ _ (by omega) (by omega) e2
      .
       cases h
   .
    split at h
    .
     cases h
    .
     rename_i hc
     rw [not_or, not_or] at hc
     obtain ⟨c1, c2, c3⟩ := hc
     split at h
     .
      cases h
     .
      rename_i kids u1 hk
      split at h
      .
       simp only [Option.some.injEq, Prod.mk.injEq] at h
       obtain ⟨rfl, -⟩ := h
       obtain ⟨e1, e2⟩ := kidsW_all hk
       have hlen : kids.length = ((pageL d page).getD 1 0).toNat := by rw [e1]; simp [kidPgs]
       exact .inn _ _ (by omega) (by omega) fun x hx => by
        obtain ⟨p, u2, u3, hg⟩ := e2 x hx
        exact loadR_shp f hg
      .
       cases h
theorem loadR_P {d : Dsk} {frm til : Int} : ∀ (f : Nat) {root : Bool} {page : Int} {used u : List Int} {n : Nd} {h : Nat}, loadR d frm til f page used = some (n, u) -> Tm (if root then 1 else 2) (if root then 2 else 4) h n ->
  loadP d frm til f root page used = some (n, h + 1, u)
 | 0, _, _, _, _, _, _, h, _ => by cases h
 | f + 1, root, page, used, u, n, h, hl, t => by
  rw [loadR] at hl
  rw [loadP]
  split at hl
  .
   cases hl
  .
   rename_i hp
   rw [if_neg hp]
   split at hl
   .
    rename_i h76
    rw [if_pos h76]
    split at hl
    .
     cases hl
    .
     rename_i hc
     split at hl
     .
      cases hl
     .
      rename_i ps hps
      obtain ⟨e1, e2⟩ := leafP_ok hps
      split at hl
      .
       rename_i he
       simp only [Option.some.injEq, Prod.mk.injEq] at hl
       obtain ⟨rfl, rfl⟩ := hl
       obtain rfl : h = 0 := t.leaf.2 rfl
       obtain ⟨-, t1, t3, -⟩ := t.lf'
       simp only [Nd.ps] at t1 t3
       rw [if_neg (by
        rintro (h | h | ⟨h1, h2⟩)
        .
         omega
        .
         omega
        .
         subst h1; simp only [Bool.false_eq_true, if_false] at t1; omega)]
       try (rw [hps]; simp only)
       rw [if_pos he]
      .
       cases hl
   .
    rename_i h76
    rw [if_neg h76]
    split at hl
    .
     cases hl
    .
     rename_i hc
     rw [not_or, not_or] at hc
     obtain ⟨c1, c2, c3⟩ := hc
     split at hl
     .
      cases hl
     .
      rename_i kids u1 hk
      split at hl
      .
       rename_i he
       simp only [Option.some.injEq, Prod.mk.injEq] at hl
       obtain ⟨rfl, rfl⟩ := hl
       obtain ⟨e1, e2⟩ := kidsW_all hk
       have hlen : kids.length = ((pageL d page).getD 1 0).toNat := by rw [e1]; simp [kidPgs]
       have hk0 : kids ≠ [] := fun e => by rw [e, List.length_nil] at hlen; omega
       obtain ⟨h, rfl⟩ : ∃ m, h = m + 1 := by
        cases h with
        | zero => exact absurd (t.leaf.1 rfl) hk0
        | succ m => exact ⟨m, rfl⟩
       obtain ⟨-, -, t2, t8, tk⟩ := t.inn'
       simp only [Nd.kids] at t2 t8 tk
       have hne : kidPgs ((pageL d page).drop 2) ((pageL d page).getD 1 0).toNat ≠ [] := fun e => by
        have := congrArg List.length e
        rw [kidPgs_len, List.length_nil] at this
        omega
       rw [if_neg (by
        rintro (h | h | h | ⟨h1, h2⟩)
        .
         exact c1 h
        .
         omega
        .
         omega
        .
         subst h1; simp only [Bool.false_eq_true, if_false] at t2; omega)]
       rw [kidsW_V (g := loadP d frm til f false) (k := h + 1) (Q := Tm 2 4 h) (fun p u n u' hq hg => loadR_P f hg hq) (o := none) tk (.inl rfl) hk]
       simp only [if_neg hne]
       rw [if_pos he]
      .
       cases hl
theorem treeP_X (d : Dsk) (frm til : Int) (r : Nat) : treeP d frm til r = treeX d frm til r := by
 unfold treeP treeX
 split
 .
  rfl
 .
  cases hR : loadR d frm til (fuelX frm til) r [] with
  | none =>
   simp only
   cases hP : loadP d frm til (fuelX frm til) true r [] with
   | none => rfl
   | some x =>
    obtain ⟨n, k, u⟩ := x
    have := (loadP_R _ hP).1
    rw [hR] at this
    cases this
  | some y =>
   obtain ⟨n, u⟩ := y
   have hs := loadR_shp _ hR
   simp only
   cases hP : loadP d frm til (fuelX frm til) true r [] with
   | none =>
    simp only
    rw [if_neg]
    intro hf
    obtain ⟨-, h, t⟩ := (formedB_iff hs).1 hf
    have := loadR_P _ (root := true) hR t
    rw [hP] at this
    cases this
   | some x =>
    obtain ⟨n', k, u'⟩ := x
    obtain ⟨e, h, -, t⟩ := loadP_R _ hP
    rw [hR] at e
    simp only [Option.some.injEq, Prod.mk.injEq] at e
    obtain ⟨rfl, rfl⟩ := e
    simp only
    by_cases ha : ascK n.prs = true
    .
     rw [if_pos ha, if_pos ((formedB_iff hs).2 ⟨(asc_iff _).1 ha, h, t⟩)]
    .
     rw [if_neg ha, if_neg fun hf => ha ((asc_iff _).2 ((formedB_iff hs).1 hf).1)]
theorem readP_X (d : Dsk) (frm til : Int) : readP d frm til = readX d frm til := by unfold readP readX; rw [treeP_X]; rfl
theorem openP_X (d : Dsk) (frm til : Int) : openP d frm til = openX d frm til := by unfold openP openX; rw [readP_X]; rfl
theorem validP_X (x : Ix) : validP x = validX x := by unfold validP validX; rw [readP_X]; rfl
theorem treeX_tm {d : Dsk} {frm til : Int} {r : Nat} {t : Option Nd} {u : List Int} (h : treeX d frm til r = some (t, u)) : OTm t := by
 unfold treeX at h
 split at h
 .
  simp only [Option.some.injEq, Prod.mk.injEq] at h
  obtain ⟨rfl, -⟩ := h
  intro n e; cases e
 .
  split at h
  .
   cases h
  .
   rename_i n u1 hl
   split at h
   .
    rename_i hf
    simp only [Option.some.injEq, Prod.mk.injEq] at h
    obtain ⟨rfl, -⟩ := h
    intro m e
    cases e
    obtain ⟨h1, h2⟩ := (formedB_iff (loadR_shp _ hl)).1 hf
    exact ⟨h2, h1⟩
   .
    cases h
theorem validX_tm {x : Ix} {t : Option Nd} (h : validX x = some t) : OTm t := by
 unfold validX at h
 split at h
 .
  cases h
 .
  split at h
  .
   cases h
  .
   rename_i y t' hr
   split at h
   .
    simp only [Option.some.injEq] at h
    subst h
    unfold readX at hr
    split at hr
    .
     cases hr
    .
     split at hr
     .
      cases hr
     .
      rename_i t2 u2 ht
      simp only [Option.some.injEq, Prod.mk.injEq] at hr
      rw [<- hr.2]
      exact treeX_tm ht
   .
    cases h
section
variable {P : Program} {ops : Array Oper} {md : Region.Mode} {W0 : World} {an : Anns}
def AOd (P : Program) (ops : Array Oper) (md : Region.Mode) (an : Anns) (W0 : World) (n q : Nat) (dl : Array Bool) (L : Array Bool -> Recs -> Act -> Prop) : Nat -> Array Bool -> Recs -> Act -> Prop
 | 0, listed, ξ, a => L listed ξ a
 | f + 1, listed, ξ, a => Region.ready md ops listed ≠ [] /\ (listed ≠ dl -> ∀ i ∈ Region.ready md ops listed, i < n) /\ (listed = dl -> q ∈ Region.ready md ops listed) /\
  ∀ i ∈ Region.ready md ops listed, i < n -> ∀ o, ops[i]? = some o -> StepK P ops md an W0 i o ξ a (AOd P ops md an W0 n q dl L f (listed.setIfInBounds i true))
def lateB (md : Region.Mode) (ops : Array Oper) (n q : Nat) : Bool := (List.range ops.size).all fun t => decide (t < n) || (List.range n).all fun i => decide (i = q) || (pastB md ops 8 [t]).contains i
structure ClosedD (md : Region.Mode) (ops : Array Oper) (n : Nat) (listed : Array Bool) : Prop extends Closed md ops n listed where
 head : ∀ j, n <= j -> listed.getD j false = false
theorem ClosedD.set {n i : Nat} {listed : Array Bool} (inv : ClosedD md ops n listed) (hi : i ∈ Region.ready md ops listed) (hn : i < n) : ClosedD md ops n (listed.setIfInBounds i true) :=
 ⟨inv.toClosed.set hi, fun j hj => by rw [getD_set_ne false (by omega)]; exact inv.head j hj⟩
theorem AO_firstD {n i q : Nat} {dl : Array Bool} {oi : Oper} {S : Option Rec -> Value -> Prop} {L : Array Bool -> Recs -> Act -> Prop} (hi : ops[i]? = some oi) (hsel : ∀ (j : Nat) (o : Oper) cs b, ops[j]? = some o -> o.op ≠ .select cs b)
  (hs : lateB md ops n q = true) (hin : i < n) (hdl : dl.size = ops.size) (hdq : ∀ j, dl.getD j false = (decide (j < n) && decide (j ≠ q))) (hqn : q < n) (hdone : ∀ listed ξ a, L listed ξ a -> ∀ j ∈ Region.ready md ops listed, n <= j) :
  ∀ (f : Nat) (listed : Array Bool) (ξ : Recs) (a : Act), ClosedD md ops n listed ->
   (∀ j oj, ops[j]? = some oj -> j ≠ i -> listed.getD j true = false -> (∀ e ∈ oj.after, Region.binds md e = true -> e.on ≠ i) -> oi.apart ops oj = true) ->
   i ∈ Region.ready md ops listed -> Outs P ops md an W0 i oi ξ a S ->
   (∀ ρ v, S ρ v -> AOd P ops md an W0 n q dl L f (listed.setIfInBounds i true) (upr ξ i ρ) (a.put oi.dst v)) -> AOd P ops md an W0 n q dl L (f + 1) listed ξ a := by
 intro f
 have late : ∀ (listed : Array Bool), ClosedD md ops n listed -> i ∈ Region.ready md ops listed -> ∀ j ∈ Region.ready md ops listed, n <= j -> i = q /\ listed = dl := by
  intro listed inv hr j hj hn
  have hlt : j < ops.size := by obtain ⟨_, oj, hoj, _⟩ := mem_ready.1 hj; exact (Array.getElem?_eq_some_iff.1 hoj).1
  have h1 := List.all_eq_true.1 hs j (List.mem_range.2 hlt)
  simp only [Bool.or_eq_true, decide_eq_true_eq] at h1
  have hall : ∀ k, k < n -> k ≠ q -> listed.getD k false = true := by
   intro k hk hkq
   rcases h1 with h1 | h1
   .
    omega
   .
    have h2 := List.all_eq_true.1 h1 k (List.mem_range.2 hk)
    simp only [Bool.or_eq_true, decide_eq_true_eq] at h2
    rcases h2 with h2 | h2
    .
     exact absurd h2 hkq
    .
     rcases reach_listed hj inv.closed h2 with h3 | h3
     .
      omega
     .
      exact h3
  have hiq : i = q := by
   rcases Nat.decEq i q with h | h
   .
    have := hall i hin h
    rw [getD_both (mem_ready.1 hr).1] at this
    cases this
   .
    exact h
  refine ⟨hiq, ?_⟩
  have key : ∀ k, listed.getD k false = dl.getD k false := by
   intro k
   rw [hdq]
   by_cases hk : k < n
   .
    by_cases hkq : k = q
    .
     subst hkq; subst hiq
     rw [getD_both (mem_ready.1 hr).1]
     simp
    .
     rw [hall k hk hkq]; simp [hk, hkq]
   .
    rw [inv.head k (by omega)]; simp [hk]
  apply Array.ext
  .
   rw [inv.size, hdl]
  .
   intro k h1 h2
   have := key k
   simpa [Array.getD, h1, h2] using this
 have only : ∀ (listed : Array Bool), listed = dl -> ∀ j ∈ Region.ready md ops listed, j < n -> j = q := by
  intro listed e j hj hn
  subst e
  rcases Nat.decEq j q with h | h
  .
   have h0 := (mem_ready.1 hj).1
   have := hdq j
   rw [getD_both h0] at this
   simp [hn, h] at this
  .
   exact h
 have lt_of : ∀ (listed : Array Bool), ClosedD md ops n listed -> i ∈ Region.ready md ops listed -> listed ≠ dl -> ∀ j ∈ Region.ready md ops listed, j < n := by
  intro listed inv hr hne j hj
  rcases Nat.lt_or_ge j n with h | h
  .
   exact h
  .
   exact absurd (late listed inv hr j hj h).2 hne
 induction f with
 | zero =>
  intro listed ξ a inv _ hr hy H
  refine ⟨fun h => (by rw [h] at hr; cases hr), lt_of listed inv hr, fun e => by rw [<- only listed e i hr hin]; exact hr, fun j hj hjn oj hoj => ?_⟩
  by_cases hji : j = i
  .
   subst hji
   obtain rfl : oj = oi := Option.some.inj (hoj.symm.trans hi)
   exact ⟨S, hy, H⟩
  .
   obtain ⟨ρ, v, hs⟩ := hy.some
   have := hdone _ _ _ (H ρ v hs) j (ready_mono hj hji)
   omega
 | succ f ih =>
  intro listed ξ a inv hfree hr hy H
  refine ⟨fun h => (by rw [h] at hr; cases hr), lt_of listed inv hr, fun e => by rw [<- only listed e i hr hin]; exact hr, fun j hj hjn oj hoj => ?_⟩
  by_cases hji : j = i
  .
   subst hji
   obtain rfl : oj = oi := Option.some.inj (hoj.symm.trans hi)
   exact ⟨S, hy, H⟩
  .
   obtain ⟨hjun, oj', hoj', hall⟩ := mem_ready.1 hj
   obtain rfl : oj' = oj := Option.some.inj (hoj'.symm.trans hoj)
   have hun := (mem_ready.1 hr).1
   have hnot : ∀ e ∈ oj'.after, Region.binds md e = true -> e.on ≠ i := fun e he hb heq => by
    have h1 := hall e he hb
    rw [heq, getD_both hun] at h1
    cases h1
   have hri : reachB md ops i j = false := by
    cases h : reachB md ops i j with
    | false => rfl
    | true =>
     rcases reach_listed hr inv.closed h with h2 | h2
     .
      exact absurd h2 hji
     .
      rw [getD_both hjun] at h2; cases h2
   have hrj : reachB md ops j i = false := by
    cases h : reachB md ops j i with
    | false => rfl
    | true =>
     rcases reach_listed hj inv.closed h with h2 | h2
     .
      exact absurd h2.symm hji
     .
      rw [getD_both hun] at h2; cases h2
   have hfree' : ∀ k ok, ops[k]? = some ok -> k ≠ i -> (listed.setIfInBounds j true).getD k true = false ->
     (∀ e ∈ ok.after, Region.binds md e = true -> e.on ≠ i) -> oi.apart ops ok = true := fun k ok hk hki hun hno => by
    refine hfree k ok hk hki ?_ hno
    by_cases hjk : j = k
    .
     subst hjk; exact hjun
    .
     rw [getD_set_ne true hjk] at hun; exact hun
   refine (StepK.swap (Ne.symm hji) (hfree j oj' hoj hji hjun hnot) (fun cs b => hsel i oi cs b hi) (fun cs b => hsel j oj' cs b hoj) hri hrj hy fun ρ v hs => (H ρ v hs).2.2.2 j (ready_mono hj hji) hjn oj' hoj).mono ?_
   rintro ξ' a' ⟨h1, h2⟩
   refine ih (listed.setIfInBounds j true) ξ' a' (inv.set hj hjn) hfree' (ready_mono hr (Ne.symm hji)) h1 fun ρ v hs => ?_
   rw [Array.setIfInBounds_comm _ _ hji]
   exact h2 ρ v hs
theorem AO_lexD {n q : Nat} {dl : Array Bool} {Lq : Recs -> Act -> Prop} (hsel : Region.noSelect ops = true) (hs : lateB md ops n q = true) (hdl : dl.size = ops.size) (hdq : ∀ j, dl.getD j false = (decide (j < n) && decide (j ≠ q))) (hqn : q < n) (hno : n <= ops.size) (done : Array Bool) (hdn : (Region.ready md ops done).all (fun j => decide (n <= j)) = true) :
  ∀ (l : List Oper) (k : Nat) (listed : Array Bool) (ξ : Recs) (a : Act), (∀ j, j < l.length -> l[j]? = ops[k + j]?) -> k + l.length = n -> ClosedD md ops n listed -> setTo listed l.length k = done ->
  lazyHead md ops n l.length k listed = true -> LW P ops md an W0 Lq l k ξ a -> AOd P ops md an W0 n q dl (fun listed' ξ' a' => listed' = done /\ Lq ξ' a') l.length listed ξ a
 | [], k, listed, ξ, a, _, _, _, hd, _, h => ⟨hd, h⟩
 | o :: l, k, listed, ξ, a, hl, hk, inv, hd, hB, h => by
  have h0 : ops[k]? = some o := by simpa using (hl 0 (by simp)).symm
  simp only [zlC, lazyHead, Bool.and_eq_true] at hB
  obtain ⟨⟨hr, hf⟩, hB'⟩ := hB
  have hkn : k < n := by simp only [zlC] at hk; omega
  have hr' : k ∈ Region.ready md ops listed := by simpa using hr
  obtain ⟨S, hS, hK⟩ := h
  refine AO_firstD h0 (Region.noSelect_spec hsel) hs hkn hdl hdq hqn (fun listed' _ a' hL j hj => ?_) l.length listed ξ a inv (Region.free_spec h0 hf) hr' hS fun ρ v hs' => ?_
  .
   rw [hL.1] at hj; exact of_decide_eq_true (List.all_eq_true.1 hdn j hj)
  .
   exact AO_lexD hsel hs hdl hdq hqn hno done hdn l (k + 1) _ _ _ (fun j hj => by have := hl (j + 1) (by simp; omega); simpa [Nat.add_assoc, Nat.add_comm 1 j] using this) (by simp only [zlC] at hk; omega) (inv.set hr' hkn) (by simpa [setTo] using hd) hB' (hK ρ v hs')
theorem wpAny_of_AOd {n q g : Nat} {dl : Array Bool} {oq : Oper} {L : Array Bool -> Recs -> Act -> Prop} {Q' : Exit -> Act -> World -> Prop} (hoq : ops[q]? = some oq) (hqn : q < n) (hsel : Region.noSelect ops = true) (hfr : Region.free md ops dl q = true) (hnq : an q = none) (hgq : oq.guard = none)
  (hQ : ∀ c a w v, Q' (.panic c) (a.put oq.dst v) w -> Q' (.panic c) a w) (hp : ∀ (ρ : Operand -> Value) w w' v, (execOp ρ oq).run P w = .ok (.value v) w -> (execOp ρ oq).run P w' = .ok (.value v) w')
  (hL : ∀ listed ξ a w, L listed ξ a -> Good an W0 ξ w -> wpAny P md ops Q' g listed a w) :
  ∀ (f : Nat) (listed : Array Bool) (ξ : Recs) (a : Act) (w : World), AOd P ops md an W0 n q dl L f listed ξ a -> Good an W0 ξ w -> wpAny P md ops Q' (f + g) listed a w
 | 0, listed, ξ, a, w, h, hg => by rw [Nat.zero_add]; exact hL _ _ _ _ h hg
 | f + 1, listed, ξ, a, w, h, hg => by
  rw [show f + 1 + g = (f + g) + 1 by omega]
  obtain ⟨h0, h1, h2, h3⟩ := h
  by_cases he : listed = dl
  .
   have hq := h2 he
   obtain ⟨S, hS, hK⟩ := h3 q hq hqn oq hoq
   cases hS with
   | skip hw => unfold Region.wanted at hw; rw [hgq] at hw; cases hw
   | quiet v hw hn hr =>
    refine wpAny_take (i := q) (v := v) hoq hsel (by rw [he]; exact hfr) (by simpa using hq) (fun c a w => hQ c a w v) (.inl ⟨hw, fun w' => hp _ w w' v (hr w ⟨⟨w, hg.below⟩, rfl⟩)⟩) ?_
    exact wpAny_of_AOd hoq hqn hsel hfr hnq hgq hQ hp hL f _ _ _ _ (hK none v ⟨rfl, rfl⟩) hg
   | lzy A hw hn hl => rw [hnq] at hn; cases hn
  .
   refine ⟨fun h => absurd h h0, fun i hi => ?_⟩
   obtain ⟨_, oi, hoi, _⟩ := mem_ready.1 hi
   obtain ⟨S, hS, hK⟩ := h3 i hi (h1 he i hi) oi hoi
   unfold wpOp
   simp only [hoi]
   cases hS with
   | skip hw =>
    rw [if_neg (by rw [hw]; exact Bool.false_ne_true)]
    exact wpAny_of_AOd hoq hqn hsel hfr hnq hgq hQ hp hL f _ _ _ _ (hK none undef ⟨rfl, rfl⟩) hg
   | quiet v hw hn hr =>
    rw [if_pos hw]
    left
    unfold Oper.wp
    rw [hr w ⟨⟨w, hg.below⟩, rfl⟩]
    exact wpAny_of_AOd hoq hqn hsel hfr hnq hgq hQ hp hL f _ _ _ _ (hK none v ⟨rfl, rfl⟩) hg
   | lzy A hw hn hl =>
    rw [if_pos hw]
    left
    refine wp_of_lz (hl w hg.below fun j _ => hg.fact j) ?_
    rintro v w' ⟨hb, x, rfl, hΦ⟩
    exact wpAny_of_AOd hoq hqn hsel hfr hnq hgq hQ hp hL f _ _ _ _ (hK _ _ ⟨_, rfl, rfl⟩) (hg.add hb hn hΦ)
def lazyLateB (md : Region.Mode) (ops : Array Oper) (n q : Nat) (dl : Array Bool) : Bool := Region.noSelect ops && lateB md ops n q && lazyHead md ops n n 0 (Array.replicate ops.size false) && Region.free md ops dl q && decide (dl.size = ops.size) && decide (q < n) && decide (n <= ops.size) && ((List.range ops.size).all fun j => dl.getD j false == (decide (j < n) && decide (j ≠ q)))
theorem wp_region_late {id : Nat} {Q : Exit -> Act -> World -> Prop} {a : Act} {w : World} {l : List Oper} (n q g : Nat) (dl done : Array Bool) (an : Anns) (oq : Oper) (hm : P.follows .mixedOrders = true) (hoq : l.toArray[q]? = some oq) (hn : l.length = n + g) (hd : setTo (Array.replicate l.length false) n 0 = done) (hB : lazyLateB .any l.toArray n q dl = true)
  (hnq : an q = none) (hgq : oq.guard = none) (hQ : ∀ c a w v, Q (.panic c) (a.put oq.dst v) w -> Q (.panic c) a w) (hp : ∀ (ρ : Operand -> Value) w w' v, (execOp ρ oq).run P w = .ok (.value v) w -> (execOp ρ oq).run P w' = .ok (.value v) w')
  (h : LW P l.toArray .any an w (fun ξ a' => ∀ w', Good an w ξ w' -> wpAny P .any l.toArray Q g done a' w') (l.take n) 0 (fun _ => none) a) : (Code.region id l.toArray true).wp P Q a w := by
 simp only [lazyLateB, Bool.and_eq_true, decide_eq_true_eq] at hB
 obtain ⟨⟨⟨⟨⟨⟨⟨hsel, hs⟩, hlex⟩, hfr⟩, hdl⟩, hqn⟩, hno⟩, hall⟩ := hB
 have hdq : ∀ j, dl.getD j false = (decide (j < n) && decide (j ≠ q)) := by
  intro j
  by_cases hj : j < l.toArray.size
  .
   have := List.all_eq_true.1 hall j (List.mem_range.2 hj)
   simpa using this
  .
   have : dl.getD j false = false := by simp [Array.getD, show ¬ j < dl.size by omega]
   rw [this]
   simp; omega
 have htl : (l.take n).length = n := by simp; omega
 have inv0 : ClosedD .any l.toArray n (Array.replicate l.toArray.size false) := ⟨⟨by simp, fun j oj _ hl => (by rw [getD_replicate_false] at hl; cases hl)⟩, fun j _ => getD_replicate_false _ _⟩
 have hdn := lazyHead_done _ _ _ hlex
 have H := AO_lexD (md := .any) hsel hs hdl hdq hqn hno _ hdn (l.take n) 0 _ _ a (fun j hj => by
  have hj' : j < n := by rw [htl] at hj; exact hj
  simp [hj']) (by simpa using htl) inv0 (by rw [htl]) (by rw [htl]; exact hlex) h
 refine wp_region_any hm ?_
 simp only [List.size_toArray] at H
 have := wpAny_of_AOd (g := g) (Q' := Q) (w := { w with drawn := w.drawn + 1 }) hoq hqn hsel hfr hnq hgq hQ hp (fun listed ξ a' w' hL hg => ?_) _ _ _ _ H (Good.start an ((Below.refl _ w).drew))
 .
  rw [htl] at this
  rw [List.size_toArray, hn]
  simpa [hn] using this
 .
  rw [hL.1, hd]
  exact hL.2 w' hg
theorem extract_pure {o : Oper} (x : Operand) (k : Nat) (h : o.op = .extract x k) (ρ : Operand -> Value) (w w' : World) (v : Value) (hr : (execOp ρ o).run P w = .ok (.value v) w) : (execOp ρ o).run P w' = .ok (.value v) w' := by
 unfold execOp at hr |-
 rw [h] at hr |-
 dsimp only at hr |-
 rw [Sem.run_bind] at hr |-
 cases hx : ρ x with
 | tuple vs =>
  rw [hx] at hr
  unfold Instr.extract at hr |-
  cases hv : vs[k]? with
  | none => simp [hv, Result.andThen] at hr
  | some u =>
   simp only [hv, Sem.run_pure, Result.andThen_ok] at hr |-
   injection hr with h1 _
   rw [h1]
 | _ =>
  rw [hx] at hr
  unfold Instr.extract at hr
  simp [Result.andThen] at hr
end
def clashO (t : Option Nd) (c : Chg) : Bool := ((getO t c.key).2 != c.hasOld) || decide ((getO t c.key).1 ≠ c.old)
def knownO : Option Nd -> ByteArray -> Option Int
 | none => fun _ => none
 | some n => contL (fun _ => none) n.pre
def planP (x : Ix) (t : Option Nd) (l : List Chg) : Option (Option Nd × Plc) :=
 match l.foldl chg1 (t.map Nd.er) with
 | none => some (none, ⟨x.free, []⟩)
 | some n => (placeN (fun s => knownO t (bs s)) n ⟨x.free, []⟩).map fun y => (some y.1, y.2)
def commitP (x : Ix) (l : List Chg) : Ix × Int :=
 match validP x with
 | none => (zeroX, 1)
 | some t =>
  if chgsE none l ≠ 0 then (zeroX, chgsE none l)
  else if l.any (clashO t) then (zeroX, 15)
  else if l = [] then (x, 0)
  else match planP x t l with
   | none => (zeroX, 17)
   | some (n, p) =>
    if x.ver = 1099511627776 then (zeroX, 17)
    else if (perfP x.disk (commitOps x p.ws (rootN n))).2 ≠ 0 then ({ x with disk := (perfP x.disk (commitOps x p.ws (rootN n))).1 }, (perfP x.disk (commitOps x p.ws (rootN n))).2)
    else (⟨(perfP x.disk (commitOps x p.ws (rootN n))).1, x.frm, x.til, x.ver + 1, rootN n, otherX x.frm x.til (usedN n)⟩, 0)
theorem perfP_two (d : Dsk) : ∀ (a b : List DOp), perfP d (a ++ b) = if (perfP d a).2 ≠ 0 then perfP d a else perfP (perfP d a).1 b := by
 intro a
 induction a generalizing d with
 | nil => intro b; simp [perfP]
 | cons o a ih =>
  intro b
  rw [List.cons_append, perfP, perfP]
  by_cases h : (opP d o).2 ≠ 0
  .
   rw [if_pos h, if_pos h, if_pos h]
  .
   rw [if_neg h, if_neg h, ih]
theorem placeN_pg (look : List UInt8 -> Option Int) : ∀ (n : Nd) (p : Plc), placeN look n.er p = placeN look n p := by
 intro n
 induction n using Nd.ind with
 | h ps kids page ih =>
  intro p
  have hK : ∀ (l : List Nd) (p : Plc), (∀ k ∈ l, ∀ p, placeN look k.er p = placeN look k p) -> placeK look (l.map Nd.er) p = placeK look l p := by
   intro l
   induction l with
   | nil => intro p _; rfl
   | cons k l ihl =>
    intro p h
    rw [List.map_cons, placeK, placeK, h k (by simp)]
    split
    .
     rfl
    .
     rw [ihl _ fun x hx => h x (by simp [hx])]
  rw [placeN_eq, placeN_eq, Nd.er_kids, Nd.er_ps]
  simp only [Nd.kids, Nd.ps]
  rw [hK kids p ih]
def RetXV (w : World) (r : Ix × Int) (e : Ending) (w' : World) : Prop := ∃ v, e = .returned (.tuple #[v, .int .i64 r.2]) /\ IxT w' v r.1 /\ Below w.heap.size w w'
theorem commitP_bad {x : Ix} {l : List Chg} (h : validP x = none) : commitP x l = (zeroX, 1) := by unfold commitP; rw [h]
theorem commitP_chg {x : Ix} {l : List Chg} {t : Option Nd} (h : validP x = some t) (hc : chgsE none l ≠ 0) : commitP x l = (zeroX, chgsE none l) := by unfold commitP; rw [h]; simp only; rw [if_pos hc]
theorem commitP_clash {x : Ix} {l : List Chg} {t : Option Nd} (h : validP x = some t) (hc : chgsE none l = 0) (hl : l.any (clashO t) = true) : commitP x l = (zeroX, 15) := by unfold commitP; rw [h]; simp only; rw [if_neg (by simpa using hc), if_pos hl]
theorem commitP_nil {x : Ix} {t : Option Nd} (h : validP x = some t) : commitP x [] = (x, 0) := by unfold commitP; rw [h]; simp [chgsE]
theorem commitP_full {x : Ix} {l : List Chg} {t : Option Nd} (h : validP x = some t) (hc : chgsE none l = 0) (hl : l.any (clashO t) = false) (h0 : l ≠ []) (hp : planP x t l = none \/ x.ver = 1099511627776) : commitP x l = (zeroX, 17) := by
 unfold commitP; rw [h]; simp only; rw [if_neg (by simpa using hc), if_neg (by rw [hl]; decide), if_neg h0]
 split
 .
  rfl
 .
  rename_i n p hpl
  rcases hp with hp | hp
  .
   rw [hp] at hpl; cases hpl
  .
   rw [if_pos hp]
theorem commitP_some {x : Ix} {l : List Chg} {t : Option Nd} {n : Option Nd} {p : Plc} (h : validP x = some t) (hc : chgsE none l = 0) (hl : l.any (clashO t) = false) (h0 : l ≠ []) (hp : planP x t l = some (n, p)) (hv : x.ver ≠ 1099511627776) {D : Dsk} {er : Int} (hD : perfP x.disk (commitOps x p.ws (rootN n)) = (D, er)) :
  commitP x l = if er ≠ 0 then ({ x with disk := D }, er) else (⟨D, x.frm, x.til, x.ver + 1, rootN n, otherX x.frm x.til (usedN n)⟩, 0) := by
 unfold commitP; rw [h]; simp only; rw [if_neg (by simpa using hc), if_neg (by rw [hl]; decide), if_neg h0, hp]
 simp only
 rw [if_neg hv, hD]
theorem loadP_all {d : Dsk} {frm til : Int} (h0 : 0 <= frm) (h1 : til <= 1000000) : ∀ (f : Nat) {root : Bool} {page : Int} {used u : List Int} {n : Nd} {k : Nat}, loadP d frm til f root page used = some (n, k, u) -> ∀ m ∈ n.pre, GoodN frm til m
 | 0, _, _, _, _, _, _, h => by cases h
 | f + 1, root, page, used, u, n, k, h => by
  have hself := (loadP_ok h0 h1 _ h).1
  rw [loadP] at h
  split at h
  .
   cases h
  .
   split at h
   .
    split at h
    .
     cases h
    .
     split at h
     .
      cases h
     .
      split at h
      .
       simp only [Option.some.injEq, Prod.mk.injEq] at h
       obtain ⟨rfl, -, -⟩ := h
       intro m hm
       rw [Nd.pre_eq] at hm
       simp only [Nd.kids, List.map_nil, List.flatten_nil, zmS] at hm
       rw [hm]; exact hself
      .
       cases h
   .
    split at h
    .
     cases h
    .
     split at h
     .
      cases h
     .
      rename_i kids k1 u1 hk
      split at h
      .
       simp only [Option.some.injEq, Prod.mk.injEq] at h
       obtain ⟨rfl, -, -⟩ := h
       intro m hm
       rw [Nd.pre_eq] at hm
       rcases zmC.1 hm with hm | hm
       .
        rw [hm]; exact hself
       .
        obtain ⟨q, hq, hmq⟩ := List.mem_flatten.1 hm
        obtain ⟨c, hc, rfl⟩ := List.mem_map.1 hq
        obtain ⟨p, u2, k2, u3, hg⟩ := (kidsV_ok hk).2 c hc
        exact loadP_all h0 h1 f hg m hmq
      .
       cases h
structure ValidI (x : Ix) (t : Option Nd) : Prop where
 chk0 : chk x.disk = 0
 fit : fits5 x.disk x.frm x.til = true
 read : readP x.disk x.frm x.til = some (x, t)
 ex : ∃ u, treeP x.disk x.frm x.til x.root.toNat = some (t, u) /\ x.free = otherX x.frm x.til u /\ 0 <= x.root
 ver : 1 <= x.ver /\ x.ver <= 1099511627776
theorem headX_ver (d : Dsk) (frm til : Int) : (headX d frm til).1 <= 1099511627776 := by
 unfold headX
 cases h1 : hdrX (pageL d frm) frm til 0 with
 | none => cases h2 : hdrX (pageL d (frm + 1)) frm til 1 with
  | none => simp [pickH]
  | some b => obtain ⟨v, n⟩ := b; have := hdrX_bd h2; simp [pickH]; omega
 | some a => obtain ⟨v, n⟩ := a; have := hdrX_bd h1; cases h2 : hdrX (pageL d (frm + 1)) frm til 1 with
  | none => simp [pickH]; omega
  | some b => obtain ⟨v2, n2⟩ := b; have := hdrX_bd h2; simp only [pickH]; split <;> omega
theorem validP_I {x : Ix} {t : Option Nd} (h : validP x = some t) : ValidI x t := by
 obtain ⟨d, frm, til, ver, root, free⟩ := x
 unfold validP at h
 split at h
 .
  cases h
 .
  rename_i hf
  obtain ⟨hc, hf5⟩ := fitX_zero (by simpa using hf)
  split at h
  .
   cases h
  .
   rename_i y t' hr
   split at h
   .
    rename_i he
    cases h
    have hr0 := hr
    unfold readP at hr
    split at hr
    .
     cases hr
    .
     rename_i hv0
     split at hr
     .
      cases hr
     .
      rename_i t'' u ht
      simp only [Option.some.injEq, Prod.mk.injEq] at hr
      obtain ⟨rfl, rfl⟩ := hr
      simp only at he hv0 ht hr0
      obtain ⟨e1, e2, e3⟩ := he
      subst e1 e2 e3
      refine ⟨hc, hf5, hr0, ⟨u, by simpa using ht, rfl, Int.natCast_nonneg _⟩, ?_⟩
      have := headX_ver d frm til
      simp only
      omega
   .
    cases h
theorem otherX_mem {frm til : Int} {u : List Int} {g : Int} (h : g ∈ otherX frm til u) : frm + 2 <= g /\ g < til /\ g ∉ u := by
 unfold otherX pgsX at h
 obtain ⟨h1, h2⟩ := List.mem_filter.1 h
 obtain ⟨i, hi, rfl⟩ := List.mem_map.1 h1
 rw [List.mem_range] at hi
 simp at h2
 exact ⟨by omega, by omega, h2⟩
theorem ValidI.good {x : Ix} {t : Option Nd} (h : ValidI x t) : 0 <= x.frm /\ x.til <= 1000000 /\ x.frm + 3 <= x.til /\ (∀ n, t = some n -> ∀ m ∈ n.pre, GoodN x.frm x.til m) /\ ∀ g ∈ x.free, x.frm + 2 <= g /\ g < x.til := by
 obtain ⟨f1, f2, f3, f4, f5⟩ := fits5_true h.fit
 have hr := rangedB_true (chk_zero h.chk0).1
 obtain ⟨u, hu, hfr, hr0⟩ := h.ex
 refine ⟨f2, by omega, by omega, fun n hn => ?_, fun g hg => ?_⟩
 .
  subst hn
  unfold treeP at hu
  split at hu
  .
   cases hu
  .
   split at hu
   .
    cases hu
   .
    rename_i n' k u' hl
    split at hu
    .
     simp only [Option.some.injEq, Prod.mk.injEq] at hu
     obtain ⟨rfl, -⟩ := hu
     exact loadP_all f2 (by omega) _ hl
    .
     cases hu
 .
  rw [hfr] at hg
  have := otherX_mem hg
  omega
theorem GoodN.enc {frm til : Int} {m : Nd} (h : GoodN frm til m) (h0 : 0 <= frm) (h1 : til <= 1000000) : EncOk m /\ PgOk m.page := by
 obtain ⟨g1, g2, g3, g4, g5⟩ := h
 exact ⟨g5, by unfold PgOk; omega⟩
theorem contL_val {l : List Nd} : ∀ {f : ByteArray -> Option Int} {s : ByteArray} {g : Int}, contL f l s = some g -> f s = some g \/ ∃ m ∈ l, bs (encD m) = s /\ m.page = g := by
 induction l with
 | nil => intro f s g h; exact .inl h
 | cons x l ih =>
  intro f s g h
  rcases ih (f := putF f (bs (encD x)) x.page) h with h | ⟨m, hm, h1, h2⟩
  .
   unfold putF at h
   split at h
   .
    rename_i e
    exact .inr ⟨x, by simp, e.symm, by simpa using h⟩
   .
    exact .inl h
  .
   exact .inr ⟨m, by simp [hm], h1, h2⟩
theorem Tm.cnt {n : Nd} : ∀ {h : Nat}, Tm 2 4 h n -> n.pre.length + 1 <= n.prs.length := by
 induction n using Nd.ind with
 | h ps kids page ih =>
  intro h t
  cases t with
  | lf _ _ _ _ g1 g3 hk => rw [Nd.pre_eq, Nd.prs_leaf rfl]; simpa [Nd.kids, Nd.ps] using g1
  | inn _ _ h _ _ g2 g0 g8 hk =>
   have hne : kids ≠ [] := fun e => by rw [e] at g0; simp at g0
   rw [Nd.pre_eq, Nd.prs_inner (n := .mk [] kids page) hne]
   simp only [Nd.kids, zlC]
   have key : ∀ l : List Nd, (∀ k ∈ l, k.pre.length + 1 <= k.prs.length) -> (l.map Nd.pre).flatten.length + l.length <= (l.map Nd.prs).flatten.length := by
    intro l
    induction l with
    | nil => intro _; simp
    | cons k l ihl =>
     intro hl
     have h1 := hl k (by simp)
     have h2 := ihl fun x hx => hl x (by simp [hx])
     simp only [List.map_cons, List.flatten_cons, zlA, zlC]
     omega
   have := key kids fun k hk' => ih k hk' (hk k hk')
   omega
theorem Tm.cnt1 {n : Nd} {h : Nat} (t : Tm 1 2 h n) : n.pre.length <= n.prs.length := by
 cases h with
 | zero =>
  obtain ⟨hk, h1, h3, ho⟩ := t.lf'
  rw [Nd.pre_eq, Nd.prs_leaf hk, hk]
  simpa using h1
 | succ h =>
  obtain ⟨hp, h0, h1, h3, ho⟩ := t.inn'
  rw [Nd.pre_eq, Nd.prs_inner h0, zlC]
  have key : ∀ l : List Nd, (∀ k ∈ l, k.pre.length + 1 <= k.prs.length) -> (l.map Nd.pre).flatten.length + l.length <= (l.map Nd.prs).flatten.length := by
   intro l
   induction l with
   | nil => intro _; simp
   | cons k l ihl =>
    intro hl
    have h1 := hl k (by simp)
    have h2 := ihl fun x hx => hl x (by simp [hx])
    simp only [List.map_cons, List.flatten_cons, zlA, zlC]
    omega
  have := key n.kids fun k hk' => (ho k hk').cnt
  omega
theorem chgsE_ok : ∀ {l : List Chg} {p : Option Chg}, chgsE p l = 0 -> ∀ c ∈ l, KvOk (c.key, c.new) /\ c.old.size <= 80
 | [], _, _, c, hc => by cases hc
 | x :: l, p, h, c, hc => by
  rw [chgsE] at h
  split at h
  .
   rename_i hx; exact absurd h hx
  .
   rename_i hx
   rcases zmC.1 hc with rfl | hc
   .
    have hx0 : chgE p c = 0 := by simpa using hx
    unfold chgE at hx0
    split at hx0
    .
     cases hx0
    .
     rename_i h1
     exact ⟨⟨by simp only; omega, by simp only; omega⟩, by omega⟩
   .
    exact chgsE_ok h c hc
theorem OTm.er {o : Option Nd} (h : OTm o) : OTm (o.map Nd.er) := by
 intro n hn
 cases o with
 | none => cases hn
 | some m =>
  cases hn
  obtain ⟨⟨k, h1⟩, h2⟩ := h m rfl
  exact ⟨⟨k, Tm.er_iff.2 h1⟩, by rw [Nd.er_prs]; exact h2⟩
theorem pairsO_asc {o : Option Nd} (h : OTm o) : Asc (pairsO o) := by
 cases o with
 | none => exact List.Pairwise.nil
 | some n => exact (h n rfl).2
theorem fold_law : ∀ {l : List Chg} {o : Option Nd}, OTm o -> (∀ c ∈ l, KvOk (c.key, c.new)) -> OTm (l.foldl chg1 o) /\ (pairsO (l.foldl chg1 o)).length <= (pairsO o).length + l.length
 | [], o, h, _ => ⟨h, by simp⟩
 | c :: l, o, h, hk => by
  obtain ⟨h1, h2⟩ := chg1_law h (fun _ => hk c (by simp))
  obtain ⟨h3, h4⟩ := fold_law (l := l) h1 fun x hx => hk x (by simp [hx])
  refine ⟨h3, ?_⟩
  have h5 : (pairsO (chg1 o c)).length <= (pairsO o).length + 1 := by
   rw [h2]
   split
   .
    exact (withP_len (pairsO_asc h) _).2.1
   .
    have := (withoutP_len (pairsO_asc h) c.key).2; omega
  rw [List.foldl_cons, zlC]
  omega
theorem bt_contents_none (kb : Nat) (w : World) : Calls Tryz.prog 73 #[.pointer none, .map (some kb)] w fun e w' => e = .returned (.tuple #[]) /\ w' = w := by
 go_enter Tryz.func73, Tryz.ntmps73
 go_wp2
 refine bodyPost_ret (v := .tuple #[]) (by simp [results, Tryz.results73, go_sem]) rfl ?_
 exact ⟨rfl, rfl⟩
theorem bt_contentsO (base kb : Nat) (o : Option AT) (w : World) (h : ∀ t, o = some t -> Lies base w t /\ EncAll t.nd /\ t.nd.pre.length <= 900000) (hM : MapS w kb 0 (fun _ => none)) :
  Calls Tryz.prog 73 #[rootV o, .map (some kb)] w fun e w' => e = .returned (.tuple #[]) /\ (∃ m, MapS w' kb m (knownO (ndO o))) /\ w.grownBy w' (some kb) := by
 cases o with
 | none =>
  refine (bt_contents_none kb w).mono ?_
  rintro e w' ⟨rfl, rfl⟩
  exact ⟨rfl, ⟨0, hM⟩, grownBy_below' (Below.refl _ _) _⟩
 | some t =>
  obtain ⟨h1, h2, h3⟩ := h t rfl
  refine (bt_contents base kb t w 0 _ h1 h2 hM (by omega)).mono ?_
  rintro e w' ⟨rfl, a1, a2⟩
  exact ⟨rfl, ⟨_, a1⟩, a2⟩
def GoodOp (d : Dsk) : DOp -> Prop
 | .wr i data => 0 <= i /\ i < d.pages.length /\ (data.size : Int) = d.size
 | .fl => True
theorem GoodOp.of {d e : Dsk} {o : DOp} (h : GoodOp d o) (h1 : e.pages.length = d.pages.length) (h2 : e.size = d.size) : GoodOp e o := by
 cases o with
 | wr i data => obtain ⟨a, b, c⟩ := h; exact ⟨a, by rw [h1]; exact b, by rw [h2]; exact c⟩
 | fl => exact trivial
def Shape (d e : Dsk) : Prop := chk e = 0 /\ e.size = d.size /\ e.pages.length = d.pages.length
theorem Shape.refl {d : Dsk} (h : chk d = 0) : Shape d d := ⟨h, rfl, rfl⟩
theorem Shape.trans {a b c : Dsk} (h : Shape a b) (k : Shape b c) : Shape a c := ⟨k.1, k.2.1.trans h.2.1, k.2.2.trans h.2.2⟩
theorem pageL_nat {d : Dsk} (h : chk d = 0) {k : Nat} (hk : k < d.pages.length) : pageL d k = (contentD d k hk).data.toList := by
 unfold pageL
 rw [readD_ok h hk]
theorem opP_stop {d : Dsk} {o : DOp} (h : chk d = 0) (g : GoodOp d o) (hl : d.left = 0) : opP d o = (d, 18) := by
 cases o with
 | wr i data =>
  obtain ⟨a, b, c⟩ := g
  unfold opP writeD
  simp only
  rw [if_neg (by simp [h]), if_neg (by omega), if_neg (by simp [c]), if_pos hl]
 | fl => unfold opP flushD; simp only; rw [if_neg (by simp [h]), if_pos hl]
theorem opP_wr {d : Dsk} {i : Int} {data : ByteArray} (h : chk d = 0) (g : GoodOp d (.wr i data)) (hl : d.left ≠ 0) : opP d (.wr i data) = ({ opD d with cache := d.cache ++ [⟨i, data⟩] }, 0) := by
 obtain ⟨a, b, c⟩ := g
 unfold opP writeD
 simp only
 rw [if_neg (by simp [h]), if_neg (by omega), if_neg (by simp [c]), if_neg hl]
theorem opP_fl {d : Dsk} (h : chk d = 0) (hl : d.left ≠ 0) : opP d .fl = (⟨d.size, contentsD d, [], (opD d).left⟩, 0) := by
 unfold opP flushD
 simp only
 rw [if_neg (by simp [h]), if_neg hl]
theorem opP_shape {d : Dsk} {o : DOp} (h : chk d = 0) (g : GoodOp d o) : Shape d (opP d o).1 := by
 by_cases hl : d.left = 0
 .
  rw [opP_stop h g hl]; exact .refl h
 .
  cases o with
  | wr i data =>
   rw [opP_wr h g hl]
   exact ⟨write_chk h g.1 g.2.1 g.2.2, rfl, rfl⟩
  | fl =>
   rw [opP_fl h hl]
   exact ⟨flush_chk h _ (opD_left (chk_zero h).2.2.2), rfl, contentsD_len d⟩
theorem opP_page {d : Dsk} {o : DOp} (h : chk d = 0) (g : GoodOp d o) (hl : d.left ≠ 0) {k : Nat} (hk : k < d.pages.length) :
  pageL (opP d o).1 k = match o with | .wr i data => if i = k then data.data.toList else pageL d k | .fl => pageL d k := by
 have hs := opP_shape h g
 have hk' : k < (opP d o).1.pages.length := by rw [hs.2.2]; exact hk
 rw [pageL_nat hs.1 hk', pageL_nat h hk]
 cases o with
 | wr i data =>
  simp only
  rw [content_write hk _ (by rw [opP_wr h g hl]) hk']
  split <;> rfl
 | fl =>
  simp only
  rw [content_flush hk _ (by rw [opP_fl h hl]) hk']
theorem perf_stop {d : Dsk} {ops : List DOp} (h : chk d = 0) (g : ∀ o ∈ ops, GoodOp d o) (hl : d.left = 0) (hne : ops ≠ []) : perfP d ops = (d, 18) := by
 cases ops with
 | nil => exact absurd rfl hne
 | cons o r => rw [perfP, opP_stop h (g o (by simp)) hl, if_pos (by simp)]
theorem perf_shape : ∀ {ops : List DOp} {d : Dsk}, chk d = 0 -> (∀ o ∈ ops, GoodOp d o) -> Shape d (perfP d ops).1 /\ ((perfP d ops).2 = 0 \/ (perfP d ops).2 = 18)
 | [], d, h, _ => ⟨.refl h, .inl rfl⟩
 | o :: r, d, h, g => by
  rw [perfP]
  have hs := opP_shape h (g o (by simp))
  split
  .
   rename_i he
   refine ⟨hs, .inr ?_⟩
   by_cases hl : d.left = 0
   .
    rw [opP_stop h (g o (by simp)) hl]
   .
    exfalso
    apply he
    cases o with
    | wr i data => rw [opP_wr h (g _ (by simp)) hl]
    | fl => rw [opP_fl h hl]
  .
   have := perf_shape (ops := r) hs.1 (fun o' ho' => (g o' (by simp [ho'])).of hs.2.2 hs.2.1)
   exact ⟨hs.trans this.1, this.2⟩
theorem perf_app : ∀ (a b : List DOp) (d : Dsk), perfP d (a ++ b) = if (perfP d a).2 ≠ 0 then perfP d a else perfP (perfP d a).1 b
 | [], b, d => by simp [perfP]
 | o :: r, b, d => by
  rw [List.cons_append, perfP, perfP, perf_app r b]
  by_cases h : (opP d o).2 ≠ 0
  .
   rw [if_pos h, if_pos h, if_pos h]
  .
   rw [if_neg h, if_neg h]
theorem perf_on {d : Dsk} {o : DOp} {r : List DOp} (h : (opP d o).2 = 0) : perfP d (o :: r) = perfP (opP d o).1 r := by rw [perfP, if_neg (by simp [h])]
theorem perf_else : ∀ {ops : List DOp} {d : Dsk} {k : Nat}, chk d = 0 -> (∀ o ∈ ops, GoodOp d o) -> k < d.pages.length -> (∀ i data, DOp.wr i data ∈ ops -> i ≠ k) -> pageL (perfP d ops).1 k = pageL d k
 | [], _, _, _, _, _, _ => rfl
 | o :: r, d, k, h, g, hk, hn => by
  have hs := opP_shape h (g o (by simp))
  have hp : pageL (opP d o).1 k = pageL d k := by
   by_cases hl : d.left = 0
   .
    rw [opP_stop h (g o (by simp)) hl]
   .
    rw [opP_page h (g o (by simp)) hl hk]
    cases o with
    | wr i data => exact if_neg (hn i data (by simp))
    | fl => rfl
  rw [perfP]
  split
  .
   exact hp
  .
   rw [perf_else (ops := r) hs.1 (fun o' ho' => (g o' (by simp [ho'])).of hs.2.2 hs.2.1) (by rw [hs.2.2]; exact hk) (fun i data hm => hn i data (by simp [hm]))]
   exact hp
theorem perf_hit : ∀ {ops : List DOp} {d : Dsk} {k : Nat} {D : List UInt8}, chk d = 0 -> (∀ o ∈ ops, GoodOp d o) -> k < d.pages.length -> (perfP d ops).2 = 0 -> (∀ i data, DOp.wr i data ∈ ops -> i = k -> data.data.toList = D) ->
  (pageL d k = D \/ ∃ i data, DOp.wr i data ∈ ops /\ i = k) -> pageL (perfP d ops).1 k = D
 | [], d, k, D, _, _, _, _, _, h => by
  rcases h with h | ⟨i, data, h, _⟩
  .
   exact h
  .
   cases h
 | o :: r, d, k, D, h, g, hk, he, hn, hh => by
  have hl : d.left ≠ 0 := by
   intro hl
   rw [perf_stop h g hl (by simp)] at he
   cases he
  have hs := opP_shape h (g o (by simp))
  have he0 : (opP d o).2 = 0 := by
   cases o with
   | wr i data => rw [opP_wr h (g _ (by simp)) hl]
   | fl => rw [opP_fl h hl]
  rw [perf_on he0] at he |-
  refine perf_hit hs.1 (fun o' ho' => (g o' (by simp [ho'])).of hs.2.2 hs.2.1) (by rw [hs.2.2]; exact hk) he (fun i data hm => hn i data (by simp [hm])) ?_
  rw [opP_page h (g o (by simp)) hl hk]
  cases o with
  | wr i data =>
   simp only
   by_cases hi : i = k
   .
    rw [if_pos hi]; exact .inl (hn i data (by simp) hi)
   .
    rw [if_neg hi]
    refine hh.imp id ?_
    rintro ⟨i', data', hm, e⟩
    rcases zmC.1 hm with hm | hm
    .
     exact absurd (by cases hm; exact e) hi
    .
     exact ⟨i', data', hm, e⟩
  | fl =>
   refine hh.imp id ?_
   rintro ⟨i', data', hm, e⟩
   rcases zmC.1 hm with hm | hm
   .
    cases hm
   .
    exact ⟨i', data', hm, e⟩
abbrev wrO (x : PW) : DOp := .wr x.page x.data
theorem perf_ws : ∀ (ws : List PW) {d : Dsk}, chk d = 0 -> (∀ x ∈ ws, GoodOp d (wrO x)) ->
  (∃ j, j <= ws.length /\ (perfP d (ws.map wrO)).1.cache = d.cache ++ ws.take j /\ (perfP d (ws.map wrO)).1.pages = d.pages /\
   (((perfP d (ws.map wrO)).2 = 0 /\ j = ws.length /\ (d.left = -1 -> (perfP d (ws.map wrO)).1.left = -1)) \/ ((perfP d (ws.map wrO)).2 = 18 /\ (perfP d (ws.map wrO)).1.left = 0 /\ d.left ≠ -1)))
 | [], d, _, _ => ⟨0, by simp, by simp [perfP], rfl, .inl ⟨rfl, rfl, fun h => h⟩⟩
 | x :: r, d, h, g => by
  by_cases hl : d.left = 0
  .
   rw [perf_stop h (fun o ho => by obtain ⟨y, hy, rfl⟩ := List.mem_map.1 ho; exact g y hy) hl (by simp)]
   exact ⟨0, by simp, by simp, rfl, .inr ⟨rfl, hl, by omega⟩⟩
  .
   have hg := g x (by simp)
   have hs := opP_shape h hg
   have he := opP_wr h hg hl
   obtain ⟨j, hj, h1, h2, h3⟩ := perf_ws r hs.1 (fun y hy => (g y (by simp [hy])).of hs.2.2 hs.2.1)
   rw [List.map_cons, perf_on (by rw [he])]
   have hc : (opP d (wrO x)).1.cache = d.cache ++ [x] := by rw [he]
   have hp : (opP d (wrO x)).1.pages = d.pages := by rw [he]; rfl
   have hL : (opP d (wrO x)).1.left = (opD d).left := by rw [he]
   refine ⟨j + 1, by simpa using hj, by rw [h1, hc]; simp, h2.trans hp, ?_⟩
   rw [hL] at h3
   have hl' : d.left = -1 ↔ (opD d).left = -1 := by
    have := (chk_zero h).2.2.2
    unfold opD
    simp only
    split <;> omega
   rcases h3 with ⟨a, b, c⟩ | ⟨a, b, c⟩
   .
    exact .inl ⟨a, by simp [b], fun e => c (hl'.1 e)⟩
   .
    exact .inr ⟨a, b, fun e => c (hl'.1 e)⟩
end Go.Proofs.YtlefmmhlpgmbjaaGreat
