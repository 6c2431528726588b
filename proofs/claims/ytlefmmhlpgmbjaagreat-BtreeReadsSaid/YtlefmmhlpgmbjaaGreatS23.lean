/- quiltref42.depth, small, smallBelow, pairs. quiltref42.formed, others. quiltref42.load with all its fuel; plain laws of what it loads. Lists of changes in memory; btree.checkChanges. -/
import Derived.Test.YtlefmmhlpgmbjaaGreatS07
import Derived.Test.YtlefmmhlpgmbjaaGreatS09
import Derived.Test.YtlefmmhlpgmbjaaGreatS04
import Derived.Laws.Cover1
import Derived.Test.YtlefmmhlpgmbjaaGreatS22
import Derived.Test.YtlefmmhlpgmbjaaGreatS06
import Derived.Test.YtlefmmhlpgmbjaaGreatS01
namespace Go.Proofs.YtlefmmhlpgmbjaaGreat
set_option maxRecDepth 100000
open Go.RowKit
theorem Nd.indk {P : Nd -> Prop} (h : ∀ n : Nd, (∀ k ∈ n.kids, P k) -> P n) (n : Nd) : P n := Nd.ind (fun ps kids page ih => h (.mk ps kids page) ih) n
inductive Hb : Nat -> Nd -> Prop
 | mk (h : Nat) (n : Nd) (hk : ∀ k ∈ n.kids, Hb h k) : Hb (h + 1) n
theorem Hb.kid {h : Nat} {n : Nd} (t : Hb h n) : ∃ g, h = g + 1 /\ ∀ k ∈ n.kids, Hb g k := by
 cases t with | mk h _ hk => exact ⟨h, rfl, hk⟩
theorem znb {l : List Nat} {h : Nat} (hl : ∀ d ∈ l, d <= h) : depL l <= h + 1 := by
 cases l with
 | nil => simp [depL]
 | cons d r =>
  have := hl d (by simp);simp only [depL];split
  . omega
  . split <;> omega
theorem Hb.dep : ∀ {n : Nd} {h : Nat}, Hb h n -> n.dep <= h := by
 intro n
 induction n using Nd.indk with
 | h n ih => intro h t;obtain ⟨g, rfl, hk⟩ := t.kid;rw [n.dep_eq];exact znb fun d hd => by obtain ⟨k, hm, rfl⟩ := List.mem_map.1 hd;exact ih k hm (hk k hm)
theorem zmt {l : List Nat} {j : Nat} (hj : j < l.length) (hne : l[j] ≠ l[0]'(by omega)) : depL l = 0 := by
 cases l with
 | nil => simp at hj
 | cons d r =>
  simp only [depL];cases j with
  | zero => simp at hne
  | succ j => rw [if_pos];rw [List.any_eq_true];exact ⟨r[j]'(by simp at hj; omega), List.getElem_mem _, by simpa using hne⟩
theorem znc {l : List Nat} (h0 : 0 < l.length) (h : ∀ j (hj : j < l.length), l[j] = l[0]) : depL l = if l[0] = 0 then 0 else l[0] + 1 := by
 cases l with
 | nil => simp at h0
 | cons d r =>
  simp only [depL];rw [if_neg (c := r.any (· != d) = true)]
  . rfl
  . rw [List.any_eq_true];rintro ⟨x, hx, hne⟩;obtain ⟨j, hj, rfl⟩ := List.getElem_of_mem hx;have := h (j + 1) (by simp; omega);simp at this hne;exact hne this
theorem NdC.kidB {w wr : World} {po ko : Option Addr} {pc kc : Nat} {n : Nd} (h : NdC w (ndC po pc ko kc n) n) (hB : Below w.heap.size w wr) {i : Nat} (hi : i < n.kids.length) :
  ∃ g off p1 c1 k1 d1, ko = some ⟨g, off, none⟩ /\ g < wr.heap.size /\ n.kids.length <= kc /\ wr.cell? ⟨g, off + i * 3, none⟩ = some (.slice p1 n.kids[i].ps.length c1) /\ wr.cell? ⟨g, off + i * 3 + 1, none⟩ = some (.slice k1 n.kids[i].kids.length d1) /\
   wr.cell? ⟨g, off + i * 3 + 2, none⟩ = some (.int .i64 n.kids[i].page) /\ NdC wr (ndC p1 c1 k1 d1 n.kids[i]) n.kids[i] := by
 obtain ⟨g, off, p1, c1, k1, d1, e, hg, hle, e0, e1, e2, hN⟩ := h.kid hi;exact ⟨g, off, p1, c1, k1, d1, e, znL hg hB.size, hle, by rw [hB.cell hg]; exact e0, by rw [hB.cell hg]; exact e1, by rw [hB.cell hg]; exact e2, hN.stays hB⟩
theorem zd0 {o : Option Addr} {n c : Nat} (h : SlW o n c) : n <= c /\ n <= maxLen := by
 rcases h with ⟨_, rfl, rfl⟩ | ⟨_, _, h1, h2⟩
 . exact ⟨Nat.le_refl _, Nat.zero_le _⟩
 . exact ⟨h1, znT h1 h2⟩
theorem NdC.lens {w : World} {po ko : Option Addr} {pc kc : Nat} {n : Nd} (h : NdC w (ndC po pc ko kc n) n) : SlW po n.ps.length pc /\ SlW ko n.kids.length kc /\ RowAt (· < w.heap.size) w po (kvsC n.ps) := by
 generalize hcs : ndC po pc ko kc n = cs at h;cases h with | mk ps kids page po' pc' ko' kc' KC h1 h2 h3 h4 h5 h6 =>
  obtain ⟨rfl, rfl, rfl, rfl⟩ : po = po' /\ pc = pc' /\ ko = ko' /\ kc = kc' := by simp only [ndC, Nd.ps, Nd.kids, Nd.page, List.cons.injEq, Value.slice.injEq, and_true, true_and] at hcs;exact ⟨hcs.1.1, hcs.1.2, hcs.2.1, hcs.2.2⟩
  exact ⟨h1, h3, h2⟩
set_option maxHeartbeats 4000000 in
theorem zlW : ∀ (n : Nd) (h : Nat) (po ko : Option Addr) (pc kc : Nat) (w : World), NdC w (ndC po pc ko kc n) n -> Hb h n -> h <= 1000000 ->
  Calls Tryz.prog 97 #[.agg (ndC po pc ko kc n).toArray] w fun e w' => e = .returned (.int .i64 n.dep) /\ Below w.heap.size w w' := by
 intro n
 induction n using Nd.indk with
 | h n ih =>
 intro h po ko pc kc w hN hb hh;obtain ⟨hg, rfl, hkb⟩ := hb.kid;have hd := n.dep_eq;obtain ⟨m, hm⟩ : ∃ m, n.kids.length = m := ⟨_, rfl⟩;have hE : ndC po pc ko kc n = [.slice po n.ps.length pc, .slice ko m kc, .int .i64 n.page] := by unfold ndC; rw [hm]
 obtain ⟨q, hq⟩ : ∃ q, n.ps.length = q := ⟨_, rfl⟩;obtain ⟨pg, hpg⟩ : ∃ q, n.page = q := ⟨_, rfl⟩;rw [hq, hpg] at hE;obtain ⟨D, hD⟩ : ∃ D, n.dep = D := ⟨_, rfl⟩;rw [hD] at hd |-;have hml := (zd0 hN.lens.2.1).2;unfold maxLen at hml;rw [hm] at hml;have Hd := zhI hd;have Hm := zhI hm;have Hh := zhI hN;have Hkb := zhI hkb;have hih : ∀ i (hi : i < n.kids.length) po ko pc kc W, NdC W (ndC po pc ko kc n.kids[i]) n.kids[i] -> Calls Tryz.prog 97 #[.agg (ndC po pc ko kc n.kids[i]).toArray] W fun e w' => e = .returned (.int .i64 n.kids[i].dep) /\ Below W.heap.size W w' :=
  fun i hi po ko pc kc W hN => ih _ (List.getElem_mem hi) hg po ko pc kc W hN (Hkb.out _ (List.getElem_mem hi)) (by omega)
 have hdl : ∀ i (hi : i < n.kids.length), n.kids[i].dep <= 1000000 := fun i hi => by have := (Hkb.out _ (List.getElem_mem hi)).dep; omega
 have Hih := zhI hih;have Hdl := zhI hdl;have x0 : Bx (w.alloc (.cells #[.slice po q pc, .slice ko m kc, .int .i64 pg] 95)) w.heap.size #[.slice po q pc, .slice ko m kc, .int .i64 pg] 95 := Bx.new w _ _;rw [hE];clear hd hm hN hkb hE hq hpg hD hih hdl ih hb;have cX := x0.cell;have lX := x0.lt
 by_cases h0 : m = 0
 .
  subst h0;have hr : D = 1 := by rw [Hd.out, List.eq_nil_of_length_eq_zero Hm.out]; rfl
  subst hr;go_enter Tryz.func97, Tryz.ntmps97;go_wp2;go_ret;exact ⟨rfl, Below.one _ _⟩
 .
  have hm0 : ((m : Int) == 0) = false := by simp; omega
  have h0n : 0 < n.kids.length := by rw [Hm.out]; omega
  obtain ⟨d0, hd0⟩ : ∃ d, (n.kids[0]'h0n).dep = d := ⟨_, rfl⟩;have hd0l : d0 <= 1000000 := by rw [<- hd0]; exact Hdl.out 0 h0n
  have Hd0 := zhI hd0;have hB1 : Below w.heap.size w (w.alloc (.cells #[.slice po q pc, .slice ko m kc, .int .i64 pg] 95)) := Below.one _ _;obtain ⟨g, off, p1, c1, k1, d1, rfl, hgl, hle, e0, e1, e2, hNk⟩ := Hh.out.kidB hB1 h0n;have hcall := Hih.out 0 h0n p1 k1 c1 d1 _ hNk;rw [hd0] at hcall;unfold ndC at hcall;have Hcall := zhI hcall;simp only [Nat.zero_mul, Nat.add_zero] at e0 e1 e2;rw [Hm.out] at hle;clear hcall hNk hd0;go_enter Tryz.func97, Tryz.ntmps97;go_wp2_with fail;refine Hcall.out.mono ?_;rintro e w1 ⟨rfl, hb1⟩;have hB := hB1.trans (Below.mono hb1 hB1.size);have x1 := x0.belowAll hb1;clear cX lX e0 e1 e2 hb1 hB1 x0 Hcall hgl;go_wp2
  go_loopw [4] (fun i wr => ∃ k : Nat, 1 <= k /\ k <= m /\ i = .int .i64 k /\ Hid (∀ j (hj : j < n.kids.length), j < k -> n.kids[j].dep = d0) /\ Bx wr w.heap.size #[.slice po q pc, .slice (some ⟨g, off, none⟩) m kc, .int .i64 pg] 95 /\ Below w.heap.size w wr) (fun i _ => m - (intOf i).toNat)
  case atStart => exact ⟨1, by omega, by omega, rfl, zhI (fun j hj hj1 => by
   obtain rfl : j = 0 := by omega
   exact Hd0.out), x1, hB⟩
  case round =>
   clear x1 hB;obtain ⟨k, hk1, hk, rfl, H, x, hB⟩ := hrel;have cX := x.cell;have lX := x.lt;have hz := hB.size
   by_cases hlt : k < m
   .
    have hlk : k < n.kids.length := by rw [Hm.out]; exact hlt
    obtain ⟨g', off', p1, c1, k1, d1, eg, hgl, -, e0, e1, e2, hNk⟩ := Hh.out.kidB hB hlk;obtain ⟨rfl, rfl⟩ : g = g' /\ off = off' := by simpa using eg
    have hcall := Hih.out k hlk p1 k1 c1 d1 _ hNk;obtain ⟨dk, hdk⟩ : ∃ d, (n.kids[k]'hlk).dep = d := ⟨_, rfl⟩;have hdkl : dk <= 1000000 := by rw [<- hdk]; exact Hdl.out k hlk
    rw [hdk] at hcall;unfold ndC at hcall;have Hcall := zhI hcall;have Hdk := zhI hdk;have HB := zhI hB;have Hx := zhI x;clear hcall hNk hdk eg hB x;cases ht : ((dk : Int) != (d0 : Int))
    .
     have HP : Hid (∀ j (hj : j < n.kids.length), j < k + 1 -> n.kids[j].dep = d0) := zhI (fun j hj hj1 => by
      by_cases e : j = k
      . subst e;rw [Hdk.out];have := ht; simp at this; omega
      . exact H.out j hj (by omega))
     go_wp2_with fail;refine Hcall.out.mono ?_;rintro e w2 ⟨rfl, hb2⟩;have HR := zhI (zaI (Hx.out.belowAll hb2) (Below.then HB.out hb2 hz));clear HB Hcall Hx e0 e1 e2 cX lX hb2;go_wp2;go_roundw
     case rel => exact ⟨k + 1, by omega, by omega, by go_num, HP, HR.out.1, HR.out.2⟩
     case measure => simp [intOf]; omega
    .
     have hr : D = 0 := by rw [Hd.out];refine zmt (j := k) (by simp; exact hlk) ?_;simp only [List.getElem_map, Hdk.out, Hd0.out];have := ht; simp at this; omega
     subst hr;go_wp2_with fail;refine Hcall.out.mono ?_;rintro e w2 ⟨rfl, hb2⟩;have HR := zhI (Below.then HB.out hb2 hz);clear HB Hcall Hx e0 e1 e2 cX lX hb2;go_wp2;go_ret;exact ⟨rfl, HR.out⟩
   .
    obtain rfl : k = m := by omega
    have hr : D = if d0 = 0 then 0 else d0 + 1 := by
     rw [Hd.out, znc (by simp; omega)]
     . simp only [List.getElem_map, Hd0.out]
     . intro j hj;simp only [List.getElem_map, Hd0.out];exact H.out j (by simpa using hj) (by rw [List.length_map, Hm.out] at hj; omega)
    by_cases hz0 : d0 = 0
    . subst hz0;rw [if_pos rfl] at hr;subst hr;go_wp2;go_ret;exact ⟨rfl, hB⟩
    .
     rw [if_neg hz0] at hr;subst hr;have hz1 : ((d0 : Int) == 0) = false := by simp; omega
     go_wp2;go_ret;exact ⟨by simp, hB⟩
theorem zdO {α : Type} {l : List α} : l = [] ↔ l.length = 0 := List.length_eq_zero_iff.symm
set_option maxHeartbeats 1000000 in
theorem zlO (n : Nd) (po ko : Option Addr) (pc kc : Nat) (w : World) (hN : NdC w (ndC po pc ko kc n) n) :
  Calls Tryz.prog 136 #[.agg (ndC po pc ko kc n).toArray] w fun e w' => e = .returned (.bool n.small) /\ Below w.heap.size w w' := by
 have hml := (zd0 hN.lens.2.1).2;have hpl := (zd0 hN.lens.1).2;unfold maxLen at hml hpl;obtain ⟨b, hb⟩ : ∃ b, n.small = b := ⟨_, rfl⟩;rw [hb];unfold ndC
 by_cases h0 : n.kids.length = 0
 .
  have hb2 : decide (n.ps.length < 2) = b := by rw [<- hb, Nd.small, if_pos (zdO.2 h0)]
  rw [h0];obtain ⟨q, hq⟩ : ∃ q, n.ps.length = q := ⟨_, rfl⟩;rw [hq] at hb2 |-;clear hb h0 hq hN;have hb3 : decide ((q : Int) < 2) = b := by rw [<- hb2]; simp; omega
  have Hb3 := zhI hb3;clear hb2 hb3;go_enter Tryz.func136, Tryz.ntmps136;go_wp2;go_ret;exact ⟨by rw [<- Hb3.out]; rfl, Below.one _ _⟩
 .
  have hb2 : decide (n.kids.length < 4) = b := by rw [<- hb, Nd.small, if_neg (fun e => h0 (zdO.1 e))]
  obtain ⟨q, hq⟩ : ∃ q, n.kids.length = q := ⟨_, rfl⟩;rw [hq] at hb2 h0 |-;have hm0 : ((q : Int) == 0) = false := by simp; omega
  have hb3 : decide ((q : Int) < 4) = b := by rw [<- hb2]; simp; omega
  have Hb3 := zhI hb3;clear hb h0 hq hN hb2 hb3;go_enter Tryz.func136, Tryz.ntmps136;go_wp2;go_ret;exact ⟨by rw [<- Hb3.out]; rfl, Below.one _ _⟩
set_option maxHeartbeats 4000000 in
theorem zgd : ∀ (n : Nd) (po ko : Option Addr) (pc kc : Nat) (w : World), NdC w (ndC po pc ko kc n) n ->
  Calls Tryz.prog 98 #[.agg (ndC po pc ko kc n).toArray] w fun e w' => e = .returned (.bool n.smallB) /\ Below w.heap.size w w' := by
 intro n
 induction n using Nd.indk with
 | h n ih =>
 intro po ko pc kc w hN;have hd := n.smallB_eq;obtain ⟨m, hm⟩ : ∃ m, n.kids.length = m := ⟨_, rfl⟩;have hE : ndC po pc ko kc n = [.slice po n.ps.length pc, .slice ko m kc, .int .i64 n.page] := by unfold ndC; rw [hm]
 obtain ⟨q, hq⟩ : ∃ q, n.ps.length = q := ⟨_, rfl⟩;obtain ⟨pg, hpg⟩ : ∃ q, n.page = q := ⟨_, rfl⟩;rw [hq, hpg] at hE;obtain ⟨D, hD⟩ : ∃ D, n.smallB = D := ⟨_, rfl⟩;rw [hD] at hd |-;have hml := (zd0 hN.lens.2.1);unfold maxLen at hml;rw [hm] at hml;obtain ⟨hmc, hml⟩ := hml;have Hd := zhI hd;have Hm := zhI hm;have Hh := zhI hN;have hih : ∀ i (hi : i < n.kids.length) po ko pc kc W, NdC W (ndC po pc ko kc n.kids[i]) n.kids[i] -> Calls Tryz.prog 98 #[.agg (ndC po pc ko kc n.kids[i]).toArray] W fun e w' => e = .returned (.bool n.kids[i].smallB) /\ Below W.heap.size W w' :=
  fun i hi po ko pc kc W hN => ih _ (List.getElem_mem hi) po ko pc kc W hN
 have Hih := zhI hih;have x0 : Bx (w.alloc (.cells #[.slice po q pc, .slice ko m kc, .int .i64 pg] 95)) w.heap.size #[.slice po q pc, .slice ko m kc, .int .i64 pg] 95 := Bx.new w _ _;rw [hE];clear hd hm hN hE hq hpg hD hih ih;go_enter Tryz.func98, Tryz.ntmps98;go_wp2
 go_loopw [3] (fun i wr => ∃ k : Nat, k <= m /\ i = .int .i64 k /\ Hid (∀ j (hj : j < n.kids.length), j < k -> (n.kids[j].small || n.kids[j].smallB) = false) /\ Bx wr w.heap.size #[.slice po q pc, .slice ko m kc, .int .i64 pg] 95 /\ Below w.heap.size w wr) (fun i _ => m - (intOf i).toNat)
 case atStart => exact ⟨0, by omega, rfl, zhI (fun j hj hj1 => by omega), x0, Below.one _ _⟩
 case round =>
  clear x0;obtain ⟨k, hk, rfl, H, x, hB⟩ := hrel;have cX := x.cell;have lX := x.lt;have hz := hB.size
  by_cases hlt : k < m
  .
   have hlk : k < n.kids.length := by rw [Hm.out]; exact hlt
   obtain ⟨g, off, p1, c1, k1, d1, rfl, hgl, -, e0, e1, e2, hNk⟩ := Hh.out.kidB hB hlk;have hcall := zlO n.kids[k] p1 k1 c1 d1 _ hNk;have hcall2 : ∀ W, Below wr.heap.size wr W -> _ := fun W hb => Hih.out k hlk p1 k1 c1 d1 W (hNk.stays hb);obtain ⟨s1, hs1⟩ : ∃ d, (n.kids[k]'hlk).small = d := ⟨_, rfl⟩;obtain ⟨s2, hs2⟩ : ∃ d, (n.kids[k]'hlk).smallB = d := ⟨_, rfl⟩;rw [hs1] at hcall;rw [hs2] at hcall2;unfold ndC at hcall hcall2;have Hcall := zhI hcall;have Hcall2 := zhI hcall2;have Hs := zhI (zaI hs1 hs2);have HB := zhI hB;have Hx := zhI x;clear hcall hcall2 hNk hs1 hs2 hB x;have hTrue : (s1 || s2) = true -> Hid (D = true) := fun h => zhI (by
    rw [Hd.out, List.any_eq_true];exact ⟨_, List.getElem_mem hlk, by rw [Hs.out.1, Hs.out.2]; exact h⟩)
   cases s1 with
   | true => have HP := hTrue rfl;clear hTrue;go_wp2_with fail;refine Hcall.out.mono ?_;rintro e w2 ⟨rfl, hb2⟩;have HR := zhI (Below.then HB.out hb2 hz);clear HB Hcall Hcall2 Hx e0 e1 e2 cX lX hb2;go_wp2;go_ret;exact ⟨by rw [HP.out]; rfl, HR.out⟩
   | false =>
    go_wp2_with fail;refine Hcall.out.mono ?_;rintro e w2 ⟨rfl, hb2⟩;have f0 : w2.cell? ⟨g, off + k * 3, none⟩ = _ := (hb2.cell hgl).trans e0;have f1 : w2.cell? ⟨g, off + k * 3 + 1, none⟩ = _ := (hb2.cell hgl).trans e1;have f2 : w2.cell? ⟨g, off + k * 3 + 2, none⟩ = _ := (hb2.cell hgl).trans e2;have hgl2 := znL hgl hb2.size;have hx2 := Hx.out.belowAll hb2;have hB2 := Below.then HB.out hb2 hz;have Hcall3 := zhI (Hcall2.out w2 hb2);have HR := zhI (zaI hx2 hB2);clear HB Hcall Hcall2 Hx e0 e1 e2 cX lX hb2;have cX := hx2.cell;have lX := hx2.lt;clear hx2 hB2;go_wp2_with fail;refine Hcall3.out.mono ?_;rintro e w3 ⟨rfl, hb3⟩;have HR3 := zhI (zaI (HR.out.1.belowAll hb3) (Below.then HR.out.2 hb3 (by have := HR.out.2.size; omega)));clear f0 f1 f2 cX lX hb3 Hcall3 HR;cases s2 with
    | true => have HP := hTrue rfl;clear hTrue;go_wp2;go_ret;exact ⟨by rw [HP.out]; rfl, HR3.out.2⟩
    | false =>
     have HP : Hid (∀ j (hj : j < n.kids.length), j < k + 1 -> (n.kids[j].small || n.kids[j].smallB) = false) := zhI (fun j hj hj1 => by
      by_cases e : j = k
      . subst e;rw [Hs.out.1, Hs.out.2]; rfl
      . exact H.out j hj (by omega))
     clear hTrue;go_wp2;go_roundw
     case rel => exact ⟨k + 1, by omega, by go_num, HP, HR3.out.1, HR3.out.2⟩
     case measure => simp [intOf]; omega
  .
   obtain rfl : k = m := by omega
   have hr : Hid (D = false) := zhI (by
    rw [Hd.out, List.any_eq_false];intro x hx;obtain ⟨j, hj, rfl⟩ := List.getElem_of_mem hx;rw [H.out j hj (by rw [Hm.out] at hj; exact hj)]
    simp)
   go_wp2;go_ret;exact ⟨by rw [hr.out]; rfl, hB⟩
def prsK (n : Nd) (k : Nat) : List Kv := ((n.kids.take k).map Nd.prs).flatten
theorem zkl {n : Nd} {k : Nat} (h : k < n.kids.length) : prsK n (k + 1) = prsK n k ++ n.kids[k].prs := by
 unfold prsK;rw [List.take_succ_eq_append_getElem h, List.map_append, List.flatten_append]; simp
theorem zlw {n : Nd} {k : Nat} (h : n.kids.length = k) (h0 : k ≠ 0) : prsK n k = n.prs := by
 unfold prsK;rw [List.take_of_length_le (by omega), Nd.prs_inner (fun e => h0 (by rw [<- h, e]; rfl))]
theorem zmL {n : Nd} {k : Nat} (h0 : n.kids.length ≠ 0) : (prsK n k).length <= n.prs.length := by
 rw [Nd.prs_inner (fun e => h0 (by rw [e]; rfl))];unfold prsK
 conv => rhs; rw [<- List.take_append_drop k n.kids, List.map_append, List.flatten_append, zlA]
 omega
set_option maxHeartbeats 4000000 in
theorem zic : ∀ (n : Nd) (po ko : Option Addr) (pc kc : Nat) (w : World), NdC w (ndC po pc ko kc n) n -> n.prs.length <= 1000000 ->
  Calls Tryz.prog 64 #[.agg (ndC po pc ko kc n).toArray] w fun e w' => ∃ o c, e = .returned (.slice o n.prs.length c) /\ SlW o n.prs.length c /\ RowAt (· < w'.heap.size) w' o (kvsC n.prs) /\ Below w.heap.size w w' := by
 intro n
 induction n using Nd.indk with
 | h n ih =>
 intro po ko pc kc w hN hpr;obtain ⟨ip, hip, hz0, hz1, hz2⟩ := info_parts zbo;have Hi := zhI (zaI hip (zaI hz0 (zaI hz1 hz2)));clear hip hz0 hz1 hz2;obtain ⟨m, hm⟩ : ∃ m, n.kids.length = m := ⟨_, rfl⟩;have hE : ndC po pc ko kc n = [.slice po n.ps.length pc, .slice ko m kc, .int .i64 n.page] := by unfold ndC; rw [hm]
 obtain ⟨q, hq⟩ : ∃ q, n.ps.length = q := ⟨_, rfl⟩;obtain ⟨pg, hpg⟩ : ∃ q, n.page = q := ⟨_, rfl⟩;rw [hq, hpg] at hE;have hml := (zd0 hN.lens.2.1);unfold maxLen at hml;rw [hm] at hml;obtain ⟨hmc, hml⟩ := hml;have Hm := zhI hm;have Hq := zhI hq;have Hh := zhI hN;obtain ⟨T, hT⟩ : ∃ T, n.prs.length = T := ⟨_, rfl⟩;have Hpr : Hid (n.prs.length <= 1000000) := zhI hpr;rw [hT] at hpr |-;have HT := zhI hT;have hih : ∀ i (hi : i < n.kids.length) po ko pc kc W, NdC W (ndC po pc ko kc n.kids[i]) n.kids[i] -> n.kids[i].prs.length <= 1000000 -> Calls Tryz.prog 64 #[.agg (ndC po pc ko kc n.kids[i]).toArray] W fun e w' => ∃ o c, e = .returned (.slice o n.kids[i].prs.length c) /\ SlW o n.kids[i].prs.length c /\ RowAt (· < w'.heap.size) w' o (kvsC n.kids[i].prs) /\ Below W.heap.size W w' :=
  fun i hi po ko pc kc W hN hp => ih _ (List.getElem_mem hi) po ko pc kc W hN hp
 have Hih := zhI hih;have x0 : Bx (w.alloc (.cells #[.slice po q pc, .slice ko m kc, .int .i64 pg] 95)) w.heap.size #[.slice po q pc, .slice ko m kc, .int .i64 pg] 95 := Bx.new w _ _;rw [hE];clear hm hN hE hq hpg hT hih ih
 by_cases h0 : m = 0
 .
  subst h0;have hk : n.kids = [] := zdO.2 Hm.out;have hpp := Nd.prs_leaf hk;have hqt : q = T := by rw [<- Hq.out, <- HT.out, hpp]
  have Hpp := zhI hpp;subst hqt;clear hk hpp;have cX := x0.cell;have lX := x0.lt;go_enter Tryz.func64, Tryz.ntmps64;go_wp2;go_ret;refine ⟨_, _, rfl, by have := Hh.out.lens.1; rw [Hq.out] at this; exact this, ?_, Below.one _ _⟩;rw [Hpp.out];exact (Hh.out.lens.2.2.below (Below.one _ _)).mono fun b hb => by simp; omega
 .
  have hm0 : ((m : Int) == 0) = false := by simp; omega
  have cX := x0.cell;have lX := x0.lt;go_enter Tryz.func64, Tryz.ntmps64;go_wp2;clear cX lX
  go_loopw [3, 4] (fun v i wr => ∃ (k : Nat) (o : Option Addr) (c : Nat), k <= m /\ i = .int .i64 k /\ v = .slice o (prsK n k).length c /\ wr.ownsRow w.heap.size 77 2 (.slice o (prsK n k).length c) (prsK n k).length (kvsC (prsK n k)) /\ Bx wr w.heap.size #[.slice po q pc, .slice ko m kc, .int .i64 pg] 95 /\ Below w.heap.size w wr) (fun _ i _ => m - (intOf i).toNat)
  case atStart => refine ⟨0, _, _, by omega, rfl, rfl, zb2 _ _ _ _ _ (by simp) (by omega), x0.alloc _, (Below.one _ _).alloc (by simp) _⟩
  case round =>
   clear x0;obtain ⟨k, o, c, hk, rfl, rfl, hown, x, hB⟩ := hrel;have cX := x.cell;have lX := x.lt;have hz := hB.size
   by_cases hlt : k < m
   .
    have hlk : k < n.kids.length := by rw [Hm.out]; exact hlt
    obtain ⟨g, off, p1, c1, k1, d1, rfl, hgl, -, e0, e1, e2, hNk⟩ := Hh.out.kidB hB hlk;have hs := zkl hlk;have hle := zmL (k := k + 1) (by rw [Hm.out]; exact h0 : n.kids.length ≠ 0);rw [HT.out, hs, zlA] at hle;have hcall := Hih.out k hlk p1 k1 c1 d1 _ hNk (by omega);obtain ⟨C, hC⟩ : ∃ d, (n.kids[k]'hlk).prs = d := ⟨_, rfl⟩;obtain ⟨F, hF⟩ : ∃ d, prsK n k = d := ⟨_, rfl⟩;rw [hC] at hcall hle hs;rw [hF] at hown hle hs |-;obtain ⟨cl, hcl⟩ : ∃ d, C.length = d := ⟨_, rfl⟩;obtain ⟨fl, hfl⟩ : ∃ d, F.length = d := ⟨_, rfl⟩;rw [hcl] at hcall hle;rw [hfl] at hown hle |-;unfold ndC at hcall;have Hcall := zhI hcall;have Hs := zhI (zaI hs (zaI hcl hfl));have HB := zhI hB;have Hx := zhI x;have Hown := zhI hown;clear hcall hNk hs hB x hown hC hF hcl hfl;go_wp2_with fail;refine Hcall.out.mono ?_;rintro e w2 ⟨so, sc, rfl, hsl, hrow, hb2⟩;have hown2 := zae Hown.out hb2;have hx2 := Hx.out.belowAll hb2;have hB2 := Below.then HB.out hb2 hz;have hz2 := hB2.size;have Hrow := zhI (zaI hsl.nil hrow);have HR := zhI (zaI hx2 (zaI hB2 hown2));clear HB Hcall Hx Hown e0 e1 e2 cX lX hb2 hsl hrow hx2 hB2 hown2;go_wp2_with (at_builtin; refine zau rfl _ _ 41 rfl w.heap.size 77 ip _ 2 32 Tryz.underlying41 Hi.out.1 Hi.out.2.1 Hi.out.2.2.1 Hi.out.2.2.2 rfl (by decide) (.slice o fl c) fl (kvsC F) rfl HR.out.2.2 so cl sc (kvsC C) rfl Hrow.out.1 (by rw [zcu, Hs.out.2.1]) Hrow.out.2 (zb4 _) (by unfold maxLen; omega) (by omega) (by omega) ?_; intro v3 w3 hown3 hg3; obtain ⟨o3, c3, rfl⟩ := zaR hown3);go_roundw
    case rel =>
     have el : (prsK n (k + 1)).length = fl + cl := by rw [Hs.out.1, zlA, Hs.out.2.1, Hs.out.2.2]
     refine ⟨k + 1, o3, c3, by omega, by go_num, by rw [el], ?_, HR.out.1.grown hg3 (fun e => zab HR.out.2.2 HR.out.1 (by decide) e.symm), Below.grownOwn HR.out.2.1 HR.out.2.2 hg3 hz2⟩;rw [el, Hs.out.1, zbP];exact hown3
    case measure => simp [intOf]; omega
   .
    obtain rfl : k = m := by omega
    rw [zlw Hm.out h0, HT.out] at hown |-;have Hown := zhI hown;clear hown;go_wp2;go_ret;obtain ⟨o', c', e, hs, hrow, -⟩ := zai Hown.out;obtain ⟨rfl, rfl⟩ : o = o' /\ c = c' := by simpa using e
    exact ⟨_, _, rfl, hs, hrow.mono fun b hb => hb.2, hB⟩
theorem zim {l : List Kv} : ascK l = true ↔ ∀ i (h : i + 1 < l.length), kLt l[i].1 l[i + 1].1 = true := by
 induction l with
 | nil => simp [ascK]
 | cons a l ih =>
  cases l with
  | nil => simp [ascK]
  | cons b r =>
   rw [ascK, Bool.and_eq_true, ih];constructor
   .
    rintro ⟨h1, h2⟩ i hi;cases i with
    | zero => exact h1
    | succ i => exact h2 i (by simp at hi |-; omega)
   . intro h;exact ⟨h 0 (by simp), fun i hi => h (i + 1) (by simp at hi |-; omega)⟩
theorem zfJ {w : World} {S : Nat -> Prop} {o : Option Addr} {l : List Kv} (h : RowAt S w o (kvsC l)) {i : Nat} (hi : i < l.length) :
  ∃ g off, o = some ⟨g, off, none⟩ /\ S g /\ w.cell? ⟨g, off + i * 2, none⟩ = some (.string l[i].1) /\ w.cell? ⟨g, off + i * 2 + 1, none⟩ = some (.string l[i].2) := by
 have hl := zcu l;obtain ⟨c0, c1⟩ := zec hi;have h0 : i * 2 < (kvsC l).length := by omega
 have h1 : i * 2 + 1 < (kvsC l).length := by omega
 obtain ⟨g, off, rfl, hc, hg⟩ := h (i * 2) h0;obtain ⟨g', off', e', hc', -⟩ := h (i * 2 + 1) h1;obtain ⟨rfl, rfl⟩ : g = g' /\ off = off' := by simpa using e'
 refine ⟨g, off, rfl, hg, ?_, ?_⟩
 . rw [hc, <- List.getElem?_eq_getElem h0, c0]
 . rw [Nat.add_assoc, hc', <- List.getElem?_eq_getElem h1, c1]
set_option maxHeartbeats 4000000 in
theorem zg6 (n : Nd) (h : Nat) (po ko : Option Addr) (pc kc : Nat) (w : World) (hN : NdC w (ndC po pc ko kc n) n) (hb : Hb h n) (hh : h <= 1000000) (hpr : n.prs.length <= 1000000) :
  Calls Tryz.prog 56 #[.agg (ndC po pc ko kc n).toArray] w fun e w' => e = .returned (.bool (zcl n)) /\ Below w.heap.size w w' := by
 have hcp : ∀ W, Below w.heap.size w W -> _ := fun W hb => zic n po ko pc kc W (hN.stays hb) hpr;have hcd : ∀ W, Below w.heap.size w W -> _ := fun W hb' => zlW n h po ko pc kc W (hN.stays hb') hb hh;have hcs : ∀ W, Below w.heap.size w W -> _ := fun W hb => zgd n po ko pc kc W (hN.stays hb);obtain ⟨l, hl⟩ : ∃ l, n.prs = l := ⟨_, rfl⟩;obtain ⟨dd, hd⟩ : ∃ l, n.dep = l := ⟨_, rfl⟩;obtain ⟨sb, hs⟩ : ∃ l, n.smallB = l := ⟨_, rfl⟩;obtain ⟨r, hr⟩ : ∃ r, zcl n = r := ⟨_, rfl⟩;have hdl : dd <= 1000000 := by have := hb.dep; omega
 have hr2 : (ascK l && decide (0 < dd) && !sb) = r := by rw [<- hr, <- hl, <- hd, <- hs]; rfl
 obtain ⟨T, hT⟩ : ∃ l', l.length = l' := ⟨_, rfl⟩;have hpr2 : T <= 1000000 := by rw [<- hT, <- hl]; exact hpr
 rw [hl, hT] at hcp;rw [hd] at hcd;rw [hs] at hcs;rw [hr];unfold ndC at hcp hcd hcs |-;obtain ⟨q, hq⟩ : ∃ q, n.ps.length = q := ⟨_, rfl⟩;obtain ⟨mk, hmk⟩ : ∃ q, n.kids.length = q := ⟨_, rfl⟩;obtain ⟨pg, hpg⟩ : ∃ q, n.page = q := ⟨_, rfl⟩;rw [hq, hmk, hpg] at hcp hcd hcs |-;have Hcp := zhI hcp;have Hcd := zhI hcd;have Hcs := zhI hcs;have Hr := zhI hr2;have HT := zhI hT;clear hcp hcd hcs hl hd hs hr hr2 hT hpr hq hmk hpg hN hb hh;have x0 : Bx (w.alloc (.cells #[.slice po q pc, .slice ko mk kc, .int .i64 pg] 95)) w.heap.size #[.slice po q pc, .slice ko mk kc, .int .i64 pg] 95 := Bx.new w _ _;have cX := x0.cell;have lX := x0.lt;go_enter Tryz.func56, Tryz.ntmps56;go_wp2_with fail;refine (Hcp.out _ (Below.one _ _)).mono ?_;rintro e w2 ⟨o, c, rfl, hsl, hrow, hb2⟩;have hx2 := x0.belowAll hb2;have hB2 := (Below.one w (.cells #[.slice po q pc, .slice ko mk kc, .int .i64 pg] 95)).trans (Below.mono hb2 (by simp));have hTc := (zd0 hsl).1;clear Hcp hb2 hsl cX lX x0;go_wp2
 go_loopw [4] (fun i wr => ∃ k : Nat, 1 <= k /\ i = .int .i64 k /\ (k <= T \/ k = 1) /\ Hid (∀ j (hj : j + 1 < l.length), j + 1 < k -> kLt l[j].1 l[j + 1].1 = true) /\ Below w2.heap.size w2 wr) (fun i _ => T - (intOf i).toNat)
 case atStart => exact ⟨1, by omega, rfl, .inr rfl, zhI (fun j hj hj1 => by omega), Below.refl _ _⟩
 case round =>
  obtain ⟨k, hk1, rfl, hk, H, hB⟩ := hrel
  by_cases hlt : k < T
  .
   obtain ⟨j, rfl⟩ : ∃ j, k = j + 1 := ⟨k - 1, by omega⟩;have hlt1 : j + 1 < l.length := by rw [HT.out]; exact hlt
   obtain ⟨g, off, rfl, hg, k1, -⟩ := zfJ hrow hlt1;obtain ⟨g', off', e', -, k0, -⟩ := zfJ hrow (show j < l.length by omega);obtain ⟨rfl, rfl⟩ : g = g' /\ off = off' := by simpa using e'
   have c0 := (hB.cell hg).trans k0;have c1 := (hB.cell hg).trans k1;have lB : g < wr.heap.size := znL hg hB.size;cases hord : kLt l[j].1 l[j + 1].1 with
   | true =>
    have HP : Hid (∀ i (hi : i + 1 < l.length), i + 1 < j + 1 + 1 -> kLt l[i].1 l[i + 1].1 = true) := zhI (fun i hi hi1 => by
     by_cases e : i = j
     . subst e; exact hord
     . exact H.out i hi (by omega))
    unfold kLt at hord;clear k0 k1 hrow e' H;go_upto_region 5 with fail
    go_quiet (fail);go_wp2;go_roundw
    case rel => exact ⟨j + 1 + 1, by omega, by go_num, .inl (by omega), HP, Below.drewN hB _⟩
    case measure => simp [intOf]; omega
   | false =>
    have HP : Hid (r = false) := zhI (by
     rw [<- Hr.out];have : ascK l = false := by
      cases h : ascK l
      . rfl
      . rw [zim.1 h j hlt1] at hord; cases hord
     rw [this]; rfl)
    unfold kLt at hord;have HB := zhI (Below.then hB2 hB (by have := hB2.size; omega));clear k0 k1 hrow e' H;go_upto_region 5 with fail
    go_quiet (fail);go_wp2;go_ret;exact ⟨by rw [HP.out]; rfl, Below.drewN HB.out _⟩
  .
   have HA : Hid (ascK l = true) := zhI (zim.2 fun j hj => H.out j hj (by rw [HT.out] at hj; omega));have HB := Below.then hB2 hB (by have := hB2.size; omega);have hx := hx2.belowAll hB;have cX := hx.cell;have lX := hx.lt;have hC1 := Hcd.out _ HB;clear H hrow hB hx2 hB2 Hcd;go_wp2_with fail;refine hC1.mono ?_;rintro e w3 ⟨rfl, hb3⟩;have hx3 := hx.belowAll hb3;have hB3 := Below.then HB hb3 HB.size;have hC2 := Hcs.out _ hB3;clear hx hb3 HB hC1 cX lX Hcs;have cX := hx3.cell;have lX := hx3.lt
   by_cases hd0 : 0 < dd
   .
    have hdi : (0 : Int) < (dd : Int) := by omega
    go_wp2_with fail;refine hC2.mono ?_;rintro e w4 ⟨rfl, hb4⟩;have HB4 := zhI (Below.then hB3 hb4 hB3.size);have HP : Hid ((!sb) = r) := zhI (by rw [<- Hr.out, HA.out, decide_eq_true hd0]; rfl);clear hC2 hb4 hB3 hx3 cX lX;go_wp2;go_ret;exact ⟨by rw [<- HP.out]; rfl, HB4.out⟩
   .
    obtain rfl : dd = 0 := by omega
    have HP : Hid (r = false) := zhI (by rw [<- Hr.out]; simp);have hdi : ¬ (0 : Int) < 0 := by omega
    go_wp2;go_ret;exact ⟨by rw [HP.out]; rfl, hB3⟩
set_option maxHeartbeats 4000000 in
theorem zdq (frm til : Int) (l : List Int) (lo : Option Addr) (lc : Nat) (w : World) {S : Nat -> Prop} (hs : SlW lo l.length lc) (hll : l.length <= 1000000) (hr : zas S w lo l) (hS : ∀ b, S b -> b < w.heap.size) (h0 : 0 <= frm) (ht : til <= 1000000) (hf : frm + 2 <= til) :
  Calls Tryz.prog 57 #[.int .i64 frm, .int .i64 til, .slice lo l.length lc] w fun e w' => ∃ o c, e = .returned (.slice o (zap frm til l).length c) /\
   w'.ownsRow w.heap.size 3 1 (.slice o (zap frm til l).length c) (zap frm til l).length (intsV (zap frm til l)) /\ Below w.heap.size w w' := by
 obtain ⟨ii, hi, hz0, hz1, hz2⟩ := info_parts zf5;have Hi := zhI (zaI hi (zaI hz0 (zaI hz1 hz2)));clear hi hz0 hz1 hz2;obtain ⟨M, hM0⟩ : ∃ M : Nat, til = frm + 2 + M := ⟨(til - frm - 2).toNat, by omega⟩;have hMn : (til - frm - 2).toNat = M := by omega
 have hM6 : M <= 1000000 := by omega
 have HMn := zhI hMn;have HM0 := zhI hM0;have hha : ∀ W x, Below w.heap.size w W -> Calls Tryz.prog 94 #[.slice lo l.length lc, .int .i64 x] W fun e w' => e = .returned (.bool (decide (x ∈ l))) /\ w' = W := fun W x hb =>
  zmp lo lc l x W (S := S) hs hll (hr.same fun b h => hb.block b (hS b h))
 obtain ⟨ln, hln⟩ : ∃ n, l.length = n := ⟨_, rfl⟩;rw [hln] at hha |-;have Hha := zhI hha;clear hM0 hMn hha hs hr hll hln hS;go_enter Tryz.func57, Tryz.ntmps57;go_wp2
 go_loopw [7, 8] (fun v i wr => ∃ (k : Nat) (o : Option Addr) (c : Nat), k <= M /\ i = .int .i64 (frm + 2 + k) /\ v = .slice o (freeK frm til l k).length c /\ wr.ownsRow w.heap.size 3 1 (.slice o (freeK frm til l k).length c) (freeK frm til l k).length (intsV (freeK frm til l k)) /\ Below w.heap.size w wr) (fun _ i _ => (til - intOf i).toNat)
 case atStart => exact ⟨0, _, _, Nat.zero_le _, by simp, rfl, zb2 _ _ _ _ _ rfl (Nat.le_refl _), Below.one _ _⟩
 case round =>
  obtain ⟨k, o, c, hk, rfl, rfl, hown, hB⟩ := hrel;have hz := hB.size;have hm0 := HM0.out
  by_cases hlt : k < M
  .
   have hlt' : frm + 2 + (k : Int) < til := by omega
   have hlk := Hha.out wr (frm + 2 + (k : Int)) hB;have Hs := zhI (zfr (frm := frm) (til := til) (l := l) (k := k) (by rw [HMn.out]; exact hlt));have hlen := zg7 frm til l k;obtain ⟨F, hF⟩ : ∃ F, freeK frm til l k = F := ⟨_, rfl⟩;rw [hF] at hown Hs hlen |-;obtain ⟨p, hp⟩ : ∃ p, frm + 2 + (k : Int) = p := ⟨_, rfl⟩;have hnx : wrap64 (p + 1) = p + 1 := IntWalk.wrap64_in _ (by omega);rw [hp] at hlk Hs hlt' |-;have Hp := zhI hp;obtain ⟨m, hm⟩ : ∃ m, F.length = m := ⟨_, rfl⟩;rw [hm] at hown hlen |-;have Hm := zhI hm;clear hF hp hm hm0;cases hb : decide (p ∈ l) with
   | true =>
    have hbe := of_decide_eq_true hb;rw [hb] at hlk;have Hs2 : Hid (freeK frm til l (k + 1) = F) := zhI (by rw [Hs.out, if_pos hbe, List.append_nil]);clear hb hbe Hs;go_wp2_with fail;refine hlk.mono ?_;rintro e w2 ⟨rfl, rfl⟩;go_wp2;go_roundw
    case rel => exact ⟨k + 1, o, c, by omega, by have := Hp.out; rw [hnx, show frm + 2 + ((k + 1 : Nat) : Int) = p + 1 by omega], by rw [Hs2.out, Hm.out], by rw [Hs2.out, Hm.out]; exact hown, hB⟩
    case measure => simp [intOf]; omega
   | false =>
    have hbe := of_decide_eq_false hb;rw [hb] at hlk;have Hs2 : Hid (freeK frm til l (k + 1) = F ++ [p]) := zhI (by rw [Hs.out, if_neg hbe]);clear hb hbe Hs;have hown2 := hown.alloc (.cells #[.int .i64 p] 3);have H1c : Hid (∀ u ∈ [Value.int .i64 p], u.oneCell' = true) := zhI (by intro u hu; simp at hu; subst hu; rfl);have HRW : Hid (RowAt (· = wr.heap.size) (wr.alloc (.cells #[.int .i64 p] 3)) (some ⟨wr.heap.size, 0, none⟩) [.int .i64 p]) := zhI (RowAt.bx (Bx.new wr #[.int .i64 p] 3));have HB := zhI hB;clear hB;go_wp2_with fail;refine hlk.mono ?_;rintro e w2 ⟨rfl, rfl⟩;go_wp2_with (at_builtin; refine zau rfl _ _ 31 rfl w.heap.size 3 ii _ 1 8 Tryz.underlying31 Hi.out.1 Hi.out.2.1 Hi.out.2.2.1 Hi.out.2.2.2 rfl (by decide) (.slice o m c) m (intsV F) rfl hown2 (some ⟨w2.heap.size, 0, none⟩) 1 1 [.int .i64 p] rfl (by intro e; cases e) rfl HRW.out H1c.out (by unfold maxLen; omega) (by omega) (by simp; omega) ?_; intro v3 w3 hown3 hg3; obtain ⟨o3, c3, rfl⟩ := zaR hown3);go_roundw
    case rel =>
     have el : (F ++ [p]).length = m + 1 := by rw [zlA, Hm.out]; rfl
     have ev : intsV (F ++ [p]) = intsV F ++ [.int .i64 p] := by simp [intsV]
     refine ⟨k + 1, o3, c3, by omega, by have := Hp.out; rw [hnx, show frm + 2 + ((k + 1 : Nat) : Int) = p + 1 by omega], by rw [Hs2.out, el], by rw [Hs2.out, el, ev]; exact hown3, ?_⟩;exact Below.grownOwn (HB.out.alloc hz _) hown2 hg3 (by simp; omega)
    case measure => simp [intOf]; omega
  .
   obtain rfl : k = M := by omega
   have hlt' : ¬ frm + 2 + (k : Int) < til := by omega
   have hall : freeK frm til l k = zap frm til l := by rw [<- zgt, HMn.out]
   rw [hall] at hown |-;have Ho := zhI hown;clear hown hm0 hall;go_wp2;go_ret;exact ⟨o, c, rfl, Ho.out, hB⟩
theorem zf6 {d : Dsk} {frm til : Int} : ∀ (f : Nat) {page : Int} {used u : List Int} {n : Nd}, loadR d frm til f page used = some (n, u) -> Hb f n
 | 0, _, _, _, _, h => by cases h
 | f + 1, page, used, u, n, h => by
  rw [loadR] at h;split at h
  . cases h
  .
   split at h
   .
    split at h
    . cases h
    .
     split at h
     . cases h
     .
      split at h
      . simp only [Option.some.injEq, Prod.mk.injEq] at h;obtain ⟨rfl, -⟩ := h;exact .mk _ _ fun k hk => by cases hk
      . cases h
   .
    split at h
    . cases h
    .
     split at h
     . cases h
     .
      rename_i kids u1 hk
      split at h
      . simp only [Option.some.injEq, Prod.mk.injEq] at h;obtain ⟨rfl, -⟩ := h;refine .mk _ _ fun x hx => ?_;obtain ⟨p, u2, u3, hg⟩ := (zbW hk).2 x hx;exact zf6 f hg
      . cases h
theorem zgK {g : Int -> List Int -> Option (Nd × List Int)} (hg : ∀ p u n u', g p u = some (n, u') -> n.prs.length + 3 * u.length <= 3 * u'.length) :
  ∀ {l : List Int} {u u' : List Int} {ns : List Nd}, kidsW g l u = some (ns, u') -> (ns.map Nd.prs).flatten.length + 3 * u.length <= 3 * u'.length
 | [], _, _, _, h => by simp only [kidsW, Option.some.injEq, Prod.mk.injEq] at h;obtain ⟨rfl, rfl⟩ := h;simp
 | p :: r, u, u', ns, h => by
  rw [kidsW] at h;split at h
  . cases h
  .
   rename_i n u1 hx
   obtain ⟨⟨m, u2⟩, hm, e⟩ := Option.map_eq_some_iff.1 h;simp only [Prod.mk.injEq] at e;obtain ⟨rfl, rfl⟩ := e;have h1 := hg _ _ _ _ hx;have h2 := zgK hg hm;simp only [List.map_cons, List.flatten_cons, zlA];omega
theorem zds {d : Dsk} {frm til : Int} : ∀ (f : Nat) {page : Int} {used u : List Int} {n : Nd}, loadR d frm til f page used = some (n, u) -> n.prs.length + 3 * used.length <= 3 * u.length
 | 0, _, _, _, _, h => by cases h
 | f + 1, page, used, u, n, h => by
  rw [loadR] at h;split at h
  . cases h
  .
   split at h
   .
    split at h
    . cases h
    .
     rename_i hc
     split at h
     . cases h
     .
      rename_i ps hps
      split at h
      . simp only [Option.some.injEq, Prod.mk.injEq] at h;obtain ⟨rfl, rfl⟩ := h;obtain ⟨e1, e2⟩ := zbn hps;rw [Nd.prs_leaf rfl];simp only [Nd.ps, zlA, zlC, List.length_nil];omega
      . cases h
   .
    split at h
    . cases h
    .
     rename_i hc
     split at h
     . cases h
     .
      rename_i kids u1 hk
      split at h
      .
       simp only [Option.some.injEq, Prod.mk.injEq] at h;obtain ⟨rfl, rfl⟩ := h;have hlen : kids.length = ((pageL d page).getD 1 0).toNat := by rw [(zbW hk).1]; simp [zar]
       have := zgK (fun p u n u' hg => zds f hg) hk;rw [Nd.prs_inner (by intro e; simp only [Nd.kids] at e; rw [e, List.length_nil] at hlen; omega)];simp only [Nd.kids];simp only [zlA, zlC, List.length_nil] at this;omega
      . cases h
theorem zkO (B0 : Nat) (d : Dsk) (frm til : Int) (hc : chk d = 0) (hfit : fits5 d frm til = true) : ∀ f, f <= 1000000 -> ziJ B0 d frm til f
 | 0, _ => zgx B0 d frm til
 | f + 1, h => zgR B0 d frm til f (zkO B0 d frm til hc hfit f (by omega)) hc hfit (by omega)
def zmU (o : Option (Nd × List Int)) (w : World) (e : Ending) (w' : World) : Prop :=
 Below w.heap.size w w' /\ ∃ po pn pc ko kn kc pg uo un uc, e = .returned (.tuple #[.agg #[.slice po pn pc, .slice ko kn kc, .int .i64 pg], .slice uo un uc, .bool o.isSome]) /\
  ∀ n u, o = some (n, u) -> un = u.length /\ pn = n.ps.length /\ kn = n.kids.length /\ pg = n.page /\ SlW uo u.length uc /\ zas (· < w'.heap.size) w' uo u /\ NdC w' (ndC po pc ko kc n) n /\ NdS (fun b => w.heap.size <= b /\ b < w'.heap.size) w' (ndC po pc ko kc n) n
theorem zcW (d : Dsk) (v : Value) (frm til page : Int) (w : World) (hD : DskV w v d) (hc : chk d = 0) (hfit : fits5 d frm til = true) (hp : PgOk page) :
  Calls Tryz.prog 55 #[v, .int .i64 frm, .int .i64 til, .int .i64 page, .slice none 0 0] w (zmU (loadR d frm til (fuelX frm til) page []) w) := by
 obtain ⟨f1, f2, f3, f4, f5⟩ := zax hfit;have hr := zag (zaq hc).1;refine (zkO w.heap.size d frm til hc hfit (fuelX frm til) (by unfold fuelX; omega) page [] v none 0 w hD (Nat.le_refl _) (World.ownsRow_nil _ _ _ _) ⟨List.nodup_nil, fun p hp => by cases hp⟩ (by unfold fuelX; simp; omega) hp).mono ?_;rintro e w' ⟨hg, po, pn, pc, ko, kn, kc, pg, uo, un, uc, rfl, h⟩;have hb : Below w.heap.size w w' := ⟨hg.os, hg.tape, hg.output, hg.size, fun k hk => hg.block k hk (by simp [Value.ownBlock])⟩;refine ⟨hb, _, _, _, _, _, _, _, _, _, _, rfl, fun n u ho => ?_⟩;obtain ⟨r1, r2, r3⟩ := h n u ho;obtain ⟨o', c', e, hs, hrow, -⟩ := zai r1;simp only [Value.slice.injEq] at e;obtain ⟨rfl, rfl, rfl⟩ := e;obtain ⟨p1, c1, p2, c2, e⟩ := r3.cells;simp only [ndC, List.cons.injEq, Value.slice.injEq, Value.int.injEq, and_true, true_and] at e;obtain ⟨⟨rfl, rfl, rfl⟩, ⟨rfl, rfl, rfl⟩, rfl⟩ := e;exact ⟨rfl, rfl, rfl, rfl, hs, zas.of_row (RowAt.mono hrow fun b hb => hb.2), r3.c fun b hb => hb.2.1, r3.same (fun _ _ => rfl) fun b hb => ⟨hb.1, hb.2.1⟩⟩
def chgC (c : Chg) : List Value := [.string c.key, .bool c.hasOld, .bool c.hasNew, .string c.old, .string c.new]
def chgsC (l : List Chg) : List Value := (l.map chgC).flatten
theorem zlS (l : List Chg) : ∀ x ∈ l.map chgC, x.length = 5 := by
 intro x hx;obtain ⟨c, _, rfl⟩ := List.mem_map.1 hx;rfl
theorem zkC (l : List Chg) : (chgsC l).length = l.length * 5 := by
 unfold chgsC
 induction l with
 | nil => rfl
 | cons p l ih => rw [List.map_cons, List.flatten_cons, zlA, ih, zlC]; simp [chgC]; omega
def zdn (w : World) (o : Option Addr) (l : List Chg) : Prop := RowAt (· < w.heap.size) w o (chgsC l)
theorem zdn.below {w w' : World} {o : Option Addr} {l : List Chg} (h : zdn w o l) (hb : Below w.heap.size w w') : zdn w' o l := (RowAt.below h hb).mono fun _ h => znL h hb.size
theorem zdn.cell {w : World} {o : Option Addr} {l : List Chg} (h : zdn w o l) {i : Nat} (hi : i < l.length) : ∃ g off, o = some ⟨g, off, none⟩ /\ g < w.heap.size /\ w.cell? ⟨g, off + i * 5, none⟩ = some (.string l[i].key) /\ w.cell? ⟨g, off + i * 5 + 1, none⟩ = some (.bool l[i].hasOld) /\
  w.cell? ⟨g, off + i * 5 + 2, none⟩ = some (.bool l[i].hasNew) /\ w.cell? ⟨g, off + i * 5 + 3, none⟩ = some (.string l[i].old) /\ w.cell? ⟨g, off + i * 5 + 4, none⟩ = some (.string l[i].new) := by
 have hl := zkC l;obtain ⟨g, off, rfl, -, hg⟩ := h (i * 5) (by omega);have hcell : ∀ r, r < 5 -> w.cell? ⟨g, off + (i * 5 + r), none⟩ = (chgC l[i])[r]? := by
  intro r hr;have hlt : i * 5 + r < (chgsC l).length := by omega
  obtain ⟨g', off', e', hc, -⟩ := h (i * 5 + r) hlt;obtain ⟨rfl, rfl⟩ : g = g' /\ off = off' := by simpa using e'
  rw [hc, <- List.getElem?_eq_getElem hlt];unfold chgsC;rw [flat_get (zlS l) i r hr, List.getElem?_map, List.getElem?_eq_getElem hi];rfl
 exact ⟨g, off, rfl, hg, hcell 0 (by omega), hcell 1 (by omega), hcell 2 (by omega), hcell 3 (by omega), hcell 4 (by omega)⟩
def prevC (l : List Chg) (k : Nat) : Option Chg := if k = 0 then none else l[k - 1]?
theorem zjl {l : List Chg} {k : Nat} (h : k < l.length) : chgsE (prevC l k) (l.drop k) = if chgE (prevC l k) l[k] ≠ 0 then chgE (prevC l k) l[k] else chgsE (prevC l (k + 1)) (l.drop (k + 1)) := by
 rw [List.drop_eq_getElem_cons h, chgsE];have : prevC l (k + 1) = some l[k] := by unfold prevC; rw [if_neg (by omega), Nat.add_sub_cancel, List.getElem?_eq_getElem h]
 rw [this]
theorem zfX : ByteArray.empty.toList = [] := by rw [ByteArray.toList_eq]; rfl
set_option maxRecDepth 100000 in
set_option maxHeartbeats 4000000 in
theorem zem (l : List Chg) (o : Option Addr) (cp : Nat) (w : World) (hs : SlW o l.length cp) (hl : l.length <= 1000000) (hrow : zdn w o l) :
  Calls Tryz.prog 72 #[.slice o l.length cp] w fun e w' => e = .returned (.int .i64 (chgsE none l)) /\ Below w.heap.size w w' := by
 obtain ⟨E, hE⟩ : ∃ E, chgsE none l = E := ⟨_, rfl⟩;rw [hE];have HE := zhI hE;obtain ⟨n, hn⟩ : ∃ n, l.length = n := ⟨_, rfl⟩;have hcap : n <= cp := by rcases hs with ⟨_, h, _⟩ | ⟨_, _, h, _⟩ <;> omega
 rw [hn] at hl |-;have Hn := zhI hn;have Hrow := zhI hrow;clear hE hn hs hrow;go_enter Tryz.func72, Tryz.ntmps72;go_wp2
 go_loopw [7] (fun t wr => ∃ k : Nat, k <= n /\ t = .int .i64 k /\ Below w.heap.size w wr /\ Hid (chgsE (prevC l k) (l.drop k) = E)) (fun t _ => n - (intOf t).toNat)
 case atStart => exact ⟨0, Nat.zero_le _, rfl, Below.refl _ _, HE⟩
 case round =>
  obtain ⟨k, hk, rfl, hB, HK⟩ := hrel;have hz := hB.size
  by_cases hlt : k < n
  .
   have hlk : k < l.length := by rw [Hn.out]; exact hlt
   have hE2 := HK.out;rw [zjl hlk] at hE2;obtain ⟨g, off, rfl, hg, c0, c1, c2, c3, c4⟩ := Hrow.out.cell hlk;obtain ⟨c, hc⟩ : ∃ c, l[k] = c := ⟨_, rfl⟩;rw [hc] at hE2 c0 c1 c2 c3 c4;have d0 : wr.cell? ⟨g, off + k * 5, none⟩ = some (.string c.key) := by rw [hB.cell hg]; exact c0
   have d1 : wr.cell? ⟨g, off + k * 5 + 1, none⟩ = some (.bool c.hasOld) := by rw [hB.cell hg]; exact c1
   have d2 : wr.cell? ⟨g, off + k * 5 + 2, none⟩ = some (.bool c.hasNew) := by rw [hB.cell hg]; exact c2
   have d3 : wr.cell? ⟨g, off + k * 5 + 3, none⟩ = some (.string c.old) := by rw [hB.cell hg]; exact c3
   have d4 : wr.cell? ⟨g, off + k * 5 + 4, none⟩ = some (.string c.new) := by rw [hB.cell hg]; exact c4
   have hpv : k ≠ 0 -> ∃ p, prevC l k = some p /\ wr.cell? ⟨g, off + (k - 1) * 5, none⟩ = some (.string p.key) := fun h0 => by
    have hlk1 : k - 1 < l.length := by omega
    obtain ⟨g', off', e', -, b0, -⟩ := Hrow.out.cell hlk1;obtain ⟨rfl, rfl⟩ : g = g' /\ off = off' := by simpa using e'
    refine ⟨l[k - 1], by unfold prevC; rw [if_neg h0, List.getElem?_eq_getElem hlk1], by rw [hB.cell hg]; exact b0⟩
   obtain ⟨key, hasO, old, hasN, new⟩ := c;simp only at d0 d1 d2 d3 d4;have gl : g < wr.heap.size := znL hg hz;have Hpv := zhI hpv;have hk0 : prevC l 0 = none := rfl;have HE2 := zhI hE2;have Hc := zhI hc;have HB : Hid (∀ W, Below wr.heap.size wr W -> Below w.heap.size w W) := zhI fun W hb => Below.then hB hb hz;clear hpv hE2 hc c0 c1 c2 c3 c4 hB HK hz HE
   by_cases q1 : 48 < key.size
   . have HC : Hid (chgE (prevC l k) ⟨key, hasO, old, hasN, new⟩ = 4) := zhI (by unfold chgE; rw [if_pos (.inl q1)]);go_wp2;go_ret;refine ⟨?_, HB.out _ (Below.one _ _)⟩;rw [<- HE2.out, if_pos (by rw [HC.out]; decide), HC.out]; rfl
   by_cases q2 : 80 < old.size
   . have HC : Hid (chgE (prevC l k) ⟨key, hasO, old, hasN, new⟩ = 4) := zhI (by unfold chgE; rw [if_pos (.inr (.inl q2))]);go_wp2;go_ret;refine ⟨?_, HB.out _ (Below.one _ _)⟩;rw [<- HE2.out, if_pos (by rw [HC.out]; decide), HC.out]; rfl
   by_cases q3 : 80 < new.size
   . have HC : Hid (chgE (prevC l k) ⟨key, hasO, old, hasN, new⟩ = 4) := zhI (by unfold chgE; rw [if_pos (.inr (.inr q3))]);go_wp2;go_ret;refine ⟨?_, HB.out _ (Below.one _ _)⟩;rw [<- HE2.out, if_pos (by rw [HC.out]; decide), HC.out]; rfl
   have q123 : ¬ (48 < key.size \/ 80 < old.size \/ 80 < new.size) := by omega
   have Hq := zhI q123;clear q123;go_upto_region 6 with fail
   have x1 := Bx.new wr #[.string key, .bool hasO, .bool hasN, .string old, .string new] 71;have hb1 := Below.one wr (.cells #[.string key, .bool hasO, .bool hasN, .string old, .string new] 71);obtain ⟨W1, hW1⟩ : ∃ W1, wr.alloc (.cells #[.string key, .bool hasO, .bool hasN, .string old, .string new] 71) = W1 := ⟨_, rfl⟩;rw [hW1] at x1 hb1 |-;obtain ⟨N, hN⟩ : ∃ N, wr.heap.size = N := ⟨_, rfl⟩;rw [hN] at x1 |-;have cX := x1.cell;have lX := x1.lt;have HX := zhI x1;have HB1 := zhI hb1;have cQ := Lat.cells W1
   by_cases h0 : k = 0
   .
    subst h0;have HO : Hid (chgE (prevC l 0) ⟨key, hasO, old, hasN, new⟩ = if (hasO = false /\ hasN = false) \/ (hasO = false /\ old ≠ ByteArray.empty) \/ (hasN = false /\ new ≠ ByteArray.empty) then 1 else 0) := zhI (by unfold chgE; rw [if_neg Hq.out]; simp only [hk0, Bool.false_eq_true, if_false]);clear d0 d1 d2 d3 d4 hW1 x1 hb1;refine zay (by kernel_rfl) (by kernel_rfl) ?_
    repeat (any_goals (first | go_big_quiet_skip | (go_big_quiet_want; go_big_quiet_op; first | go_big_quiet_on | go_big_quiet_call ((fail))) | quiet_step ((fail))))
    refine wpQuiet_nil ?_;rintro W2 ⟨⟨_, hbW⟩, rfl⟩;have xW := HX.out.belowAll hbW;clear cX lX cQ;have cX := xW.cell;have lX := xW.lt;have HbW := zhI hbW;clear hbW xW;cases hasO with
    | false =>
     cases hasN with
     | false => have HC : Hid (chgE (prevC l 0) ⟨key, false, old, false, new⟩ = 1) := zhI (by rw [HO.out, if_pos (.inl ⟨rfl, rfl⟩)]);go_wp2;go_ret;refine ⟨?_, HB.out _ (btr HB1.out (HbW.out))⟩;rw [<- HE2.out, if_pos (by rw [HC.out]; decide), HC.out]; rfl
     | true =>
      by_cases o1 : old = ByteArray.empty
      .
       subst o1;have HC : Hid (chgE (prevC l 0) ⟨key, false, ByteArray.empty, true, new⟩ = 0) := zhI (by rw [HO.out, if_neg (by simp)]);go_wp2;go_roundw
       case rel => exact ⟨0 + 1, by omega, by go_num, HB.out _ (btr HB1.out (HbW.out)), zhI (by rw [<- HE2.out, if_neg (by rw [HC.out]; decide)])⟩
       case measure => simp [intOf]; omega
      .
       have o2 : ¬ old.toList = [] := fun e => o1 (zaw (e.trans zfX.symm));have o3 : (old.toList == []) = false := by rw [beq_eq_false_iff_ne]; exact o2
       have HC : Hid (chgE (prevC l 0) ⟨key, false, old, true, new⟩ = 1) := zhI (by rw [HO.out, if_pos (.inr (.inl ⟨rfl, o1⟩))]);go_wp2;go_ret;refine ⟨?_, HB.out _ (btr HB1.out (HbW.out))⟩;rw [<- HE2.out, if_pos (by rw [HC.out]; decide), HC.out]; rfl
    | true =>
     cases hasN with
     | false =>
      by_cases o1 : new = ByteArray.empty
      .
       subst o1;have HC : Hid (chgE (prevC l 0) ⟨key, true, old, false, ByteArray.empty⟩ = 0) := zhI (by rw [HO.out, if_neg (by simp)]);go_wp2;go_roundw
       case rel => exact ⟨0 + 1, by omega, by go_num, HB.out _ (btr HB1.out (HbW.out)), zhI (by rw [<- HE2.out, if_neg (by rw [HC.out]; decide)])⟩
       case measure => simp [intOf]; omega
      .
       have o2 : ¬ new.toList = [] := fun e => o1 (zaw (e.trans zfX.symm));have o3 : (new.toList == []) = false := by rw [beq_eq_false_iff_ne]; exact o2
       have HC : Hid (chgE (prevC l 0) ⟨key, true, old, false, new⟩ = 1) := zhI (by rw [HO.out, if_pos (.inr (.inr ⟨rfl, o1⟩))]);go_wp2;go_ret;refine ⟨?_, HB.out _ (btr HB1.out (HbW.out))⟩;rw [<- HE2.out, if_pos (by rw [HC.out]; decide), HC.out]; rfl
     | true =>
      have HC : Hid (chgE (prevC l 0) ⟨key, true, old, true, new⟩ = 0) := zhI (by rw [HO.out, if_neg (by simp)]);go_wp2;go_roundw
      case rel => exact ⟨0 + 1, by omega, by go_num, HB.out _ (btr HB1.out (HbW.out)), zhI (by rw [<- HE2.out, if_neg (by rw [HC.out]; decide)])⟩
      case measure => simp [intOf]; omega
   .
    obtain ⟨p, hp1, hp2⟩ := Hpv.out h0;have e0 : W1.cell? ⟨g, off + (k - 1) * 5, none⟩ = some (.string p.key) := by rw [hb1.cell gl]; exact hp2
    have gl1 : g < W1.heap.size := znL gl hb1.size;have hk1 : (0 : Int) < k := by omega
    have hk0n : 0 < k := by omega
    have hk2 : (k : Int) - 1 < n := by omega
    have hk3 : (0 : Int) <= (k : Int) - 1 := by omega
    have hk4 : ((k : Int) - 1).toNat = k - 1 := by omega
    cases hlp : kLt p.key key with
    | false =>
     have q5 : Go.Op.bytesLess p.key.toList key.toList = false := hlp;have HC : Hid (chgE (prevC l k) ⟨key, hasO, old, hasN, new⟩ = 9) := zhI (by unfold chgE; rw [if_neg Hq.out, hp1]; simp [hlp]);clear d0 d1 d2 d3 d4 hW1 x1 hb1 hp1 hp2 hlp;refine zay (by kernel_rfl) (by kernel_rfl) ?_
     repeat (any_goals (first | go_big_quiet_skip | (go_big_quiet_want; go_big_quiet_op; first | go_big_quiet_on | go_big_quiet_call ((fail))) | quiet_step ((fail))))
     refine wpQuiet_nil ?_;rintro W2 ⟨⟨_, hbW⟩, rfl⟩;have xW := HX.out.belowAll hbW;clear cX lX cQ;have cX := xW.cell;have lX := xW.lt;have HbW := zhI hbW;clear hbW xW;go_wp2;go_ret;refine ⟨?_, HB.out _ (btr HB1.out (HbW.out))⟩;rw [<- HE2.out, if_pos (by rw [HC.out]; decide), HC.out]; rfl
    | true =>
     have q5 : Go.Op.bytesLess p.key.toList key.toList = true := hlp;have HO : Hid (chgE (prevC l k) ⟨key, hasO, old, hasN, new⟩ = if (hasO = false /\ hasN = false) \/ (hasO = false /\ old ≠ ByteArray.empty) \/ (hasN = false /\ new ≠ ByteArray.empty) then 1 else 0) := zhI (by unfold chgE; rw [if_neg Hq.out, hp1]; simp only [hlp, Bool.not_true, Bool.false_eq_true, if_false]);clear d0 d1 d2 d3 d4 hW1 x1 hb1 hp1 hp2 hlp;refine zay (by kernel_rfl) (by kernel_rfl) ?_
     repeat (any_goals (first | go_big_quiet_skip | (go_big_quiet_want; go_big_quiet_op; first | go_big_quiet_on | go_big_quiet_call ((fail))) | quiet_step ((fail))))
     refine wpQuiet_nil ?_;rintro W2 ⟨⟨_, hbW⟩, rfl⟩;have xW := HX.out.belowAll hbW;clear cX lX cQ;have cX := xW.cell;have lX := xW.lt;have HbW := zhI hbW;clear hbW xW;cases hasO with
     | false =>
      cases hasN with
      | false => have HC : Hid (chgE (prevC l k) ⟨key, false, old, false, new⟩ = 1) := zhI (by rw [HO.out, if_pos (.inl ⟨rfl, rfl⟩)]);go_wp2;go_ret;refine ⟨?_, HB.out _ (btr HB1.out (HbW.out))⟩;rw [<- HE2.out, if_pos (by rw [HC.out]; decide), HC.out]; rfl
      | true =>
       by_cases o1 : old = ByteArray.empty
       .
        subst o1;have HC : Hid (chgE (prevC l k) ⟨key, false, ByteArray.empty, true, new⟩ = 0) := zhI (by rw [HO.out, if_neg (by simp)]);go_wp2;go_roundw
        case rel => exact ⟨k + 1, by omega, by go_num, HB.out _ (btr HB1.out (HbW.out)), zhI (by rw [<- HE2.out, if_neg (by rw [HC.out]; decide)])⟩
        case measure => simp [intOf]; omega
       .
        have o2 : ¬ old.toList = [] := fun e => o1 (zaw (e.trans zfX.symm));have o3 : (old.toList == []) = false := by rw [beq_eq_false_iff_ne]; exact o2
        have HC : Hid (chgE (prevC l k) ⟨key, false, old, true, new⟩ = 1) := zhI (by rw [HO.out, if_pos (.inr (.inl ⟨rfl, o1⟩))]);go_wp2;go_ret;refine ⟨?_, HB.out _ (btr HB1.out (HbW.out))⟩;rw [<- HE2.out, if_pos (by rw [HC.out]; decide), HC.out]; rfl
     | true =>
      cases hasN with
      | false =>
       by_cases o1 : new = ByteArray.empty
       .
        subst o1;have HC : Hid (chgE (prevC l k) ⟨key, true, old, false, ByteArray.empty⟩ = 0) := zhI (by rw [HO.out, if_neg (by simp)]);go_wp2;go_roundw
        case rel => exact ⟨k + 1, by omega, by go_num, HB.out _ (btr HB1.out (HbW.out)), zhI (by rw [<- HE2.out, if_neg (by rw [HC.out]; decide)])⟩
        case measure => simp [intOf]; omega
       .
        have o2 : ¬ new.toList = [] := fun e => o1 (zaw (e.trans zfX.symm));have o3 : (new.toList == []) = false := by rw [beq_eq_false_iff_ne]; exact o2
        have HC : Hid (chgE (prevC l k) ⟨key, true, old, false, new⟩ = 1) := zhI (by rw [HO.out, if_pos (.inr (.inr ⟨rfl, o1⟩))]);go_wp2;go_ret;refine ⟨?_, HB.out _ (btr HB1.out (HbW.out))⟩;rw [<- HE2.out, if_pos (by rw [HC.out]; decide), HC.out]; rfl
      | true =>
       have HC : Hid (chgE (prevC l k) ⟨key, true, old, true, new⟩ = 0) := zhI (by rw [HO.out, if_neg (by simp)]);go_wp2;go_roundw
       case rel => exact ⟨k + 1, by omega, by go_num, HB.out _ (btr HB1.out (HbW.out)), zhI (by rw [<- HE2.out, if_neg (by rw [HC.out]; decide)])⟩
       case measure => simp [intOf]; omega
  .
   obtain rfl : k = n := by omega
   have hd : E = 0 := by rw [<- HK.out, List.drop_of_length_le (by rw [Hn.out]; exact Nat.le_refl _), chgsE]
   clear HE HK;go_wp2;go_ret;exact ⟨by rw [hd]; rfl, hB⟩
end Go.Proofs.YtlefmmhlpgmbjaaGreat
