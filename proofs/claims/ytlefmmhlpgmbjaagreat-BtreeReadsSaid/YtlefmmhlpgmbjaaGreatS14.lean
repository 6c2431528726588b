/- slices.Grow, Concat, Clone at pointers to nodes. Printed by wip/mk_catn.py from BCat. slices.Insert of one element, at pointers to nodes. Printed by wip/mk_insn.py from BIns. slices.Delete of one element. slices.Delete of one element, at pointers to nodes. Printed by wip/mk_deln.py from BDel. Trees without their pages; what a change of a tree in memory is; plain laws of insN. -/
import Derived.Test.YtlefmmhlpgmbjaaGreatS13
import Derived.Test.YtlefmmhlpgmbjaaGreatS09
import Derived.Lib.AppendZeros
import Derived.Test.YtlefmmhlpgmbjaaGreatS01
namespace Go.Proofs.YtlefmmhlpgmbjaaGreat
set_option maxRecDepth 100000
open Go.RowKit Go.Shelf
set_option maxRecDepth 100000 in
set_option maxHeartbeats 1000000 in
set_option maxHeartbeats 2000000 in
theorem zj9 (w : World) (m : Int) (n : Nat) (hm : m = n) (hn : n <= 3000) :
  Calls Tryz.prog 212 #[.slice none 0 0, .int .i64 m] w fun e w' => ∃ v, e = .returned v /\ w'.ownsRow w.heap.size 88 1 v 0 [] /\ Below w.heap.size w w' := by
 subst hm;obtain ⟨idg, hidg, hzd, hsd, hbyd⟩ := info_parts zdG;rcases Nat.eq_zero_or_pos n with rfl | hp
 .
  have h0 : ¬ (0 : Int) < ((0 : Nat) : Int) := by omega
  go_enter Tryz.func212, Tryz.ntmps212;go_wp2;go_ret;exact ⟨_, rfl, World.ownsRow_nil _ _ _ _, Below.refl _ _⟩
 .
  have hr := Lib.run_append_nil_zeros (P := Tryz.prog) w 127 3 127 88 idg _ .i64 .i64 Tryz.underlying127 Tryz.underlying3 hidg hzd n hp (by rw [hsd]; decide) (by omega) (by rw [hbyd]; omega);have hge := grownCap_ge w n 0 88;have hcm := grownCap_le_maxLen w n 0 88 (by unfold maxLen; omega);have hsz : (Builtin.zeroCells (Value.pointer none).cells n ++ Builtin.zeroCells (Value.pointer none).cells (grownCap w n 0 88 - n)).size = grownCap w n 0 88 * 1 := by rw [Array.size_append, size_zeroCells, size_zeroCells, <- Nat.add_mul];simp [Value.cells];omega
  have hp' : (0 : Int) < (n : Int) := by omega
  generalize grownCap w n 0 88 = c at *;have hc0 : 0 <= c := by omega
  have Hr := zhI hr;have Hsz := zhI hsz;have Hc := zhI hcm;clear hr hsz hcm hidg hzd hsd hbyd;go_enter Tryz.func212, Tryz.ntmps212;go_wp2_with (refine Lib.wpList_append_run _ rfl (.tmp 20) (.tmp 21) 127 3 rfl (.slice none 0 0) (.int .i64 n) rfl rfl _ _ Hr.out ?_);go_ret;refine ⟨_, rfl, ⟨by simp, .inr ⟨w.heap.size, c, _, rfl, Nat.le_refl _, heap_alloc_new w _, Nat.zero_le _, Hc.out, Hsz.out, by simp⟩⟩, ?_⟩;exact (Below.one w _).drew
set_option maxRecDepth 100000 in
set_option maxHeartbeats 2000000 in
theorem zk8 (base : Nat) (w : World) (g : Nat) (va vb : Value) (x : Bx w g #[va, vb] 127) (na nb : Nat) (xa xb : List Value) (hA : RowO w base 88 1 va na xa) (hB : RowO w base 88 1 vb nb xb) (h1a : ∀ u ∈ xa, u.oneCell' = true) (h1b : ∀ u ∈ xb, u.oneCell' = true) (la : na <= 1000) (lb : nb <= 1000) :
  Calls Tryz.prog 207 #[.slice (some ⟨g, 0, none⟩) 2 2] w fun e w' => ∃ v, e = .returned v /\ w'.ownsRow w.heap.size 88 1 v (na + nb) (xa ++ xb) /\ Below w.heap.size w w' := by
 have hA0 := hA;have hB0 := hB;obtain ⟨oa, ca, rfl, hsa, -⟩ := hA.at;obtain ⟨ob, cb, rfl, hsb, -⟩ := hB.at;obtain ⟨idg, hidg, hzd, hsd, hbyd⟩ := info_parts zdG;have Hidg := zhI (zaI hidg (zaI hzd (zaI hsd hbyd)));have HA := zhI hA0;have HB := zhI hB0;have HSa := zhI hsa.nil;have HSb := zhI hsb.nil;have X := zhI x;clear hA hB hA0 hB0 x hidg hzd hsd hbyd hsa hsb;go_enter Tryz.func207, Tryz.ntmps207;go_wp2
 go_loopw [3, 11] (fun s i wr => ((i = .int .i64 0 /\ s = .int .i64 0) \/ (i = .int .i64 1 /\ s = .int .i64 (na : Int)) \/ (i = .int .i64 2 /\ s = .int .i64 ((na : Int) + (nb : Int)))) /\ Below w.heap.size w wr) (fun _ i _ => 2 - (intOf i).toNat)
 case atStart => exact ⟨.inl ⟨rfl, rfl⟩, Below.refl _ _⟩
 case round =>
  obtain ⟨hi, hb⟩ := hrel;have xr := X.out.below hb X.out.lt;have c0 : wr.cell? ⟨g, 0, none⟩ = some (.slice oa na ca) := by rw [xr.cell]; rfl
  have c1 : wr.cell? ⟨g, 1, none⟩ = some (.slice ob nb cb) := by rw [xr.cell]; rfl
  rcases hi with ⟨rfl, rfl⟩ | ⟨rfl, rfl⟩ | ⟨rfl, rfl⟩
  .
   have h0 : ¬ ((na : Int) < 0) := by omega
   go_wp2;go_roundw
   case rel => exact ⟨.inr (.inl ⟨rfl, rfl⟩), hb⟩
   case measure => simp [intOf]
  .
   have h0 : ¬ ((na : Int) + (nb : Int) < 0) := by omega
   go_wp2;go_roundw
   case rel => exact ⟨.inr (.inr ⟨rfl, rfl⟩), hb⟩
   case measure => simp [intOf]
  .
   have hgr := zj9 wr ((na : Int) + (nb : Int)) (na + nb) (by omega) (by omega);have Hgr := zhI hgr;clear hgr c0 c1 xr;go_wp2_with fail;refine Hgr.out.mono ?_;rintro e w2 ⟨v2, rfl, ho2, hb2⟩;have hB2 := Below.then hb hb2 hb.size;have Ho2 := zhI (zaE ho2 hb.size);clear ho2 hb hb2 Hgr;go_wp2
   go_loopw [6, 27] (fun u i wr => (∃ (m : Nat) (l : List Value), ((i = .int .i64 0 /\ m = 0 /\ l = []) \/ (i = .int .i64 1 /\ m = na /\ l = xa) \/ (i = .int .i64 2 /\ m = na + nb /\ l = xa ++ xb)) /\ wr.ownsRow w.heap.size 88 1 u m l) /\ Below w.heap.size w wr) (fun _ i _ => 2 - (intOf i).toNat)
   case atStart => exact ⟨⟨0, [], .inl ⟨rfl, rfl, rfl⟩, Ho2.out⟩, hB2⟩
   case round =>
    clear Ho2;obtain ⟨⟨m, l, hi, ho⟩, hb⟩ := hrel;have xr := X.out.below hb X.out.lt;have c0 : wr.cell? ⟨g, 0, none⟩ = some (.slice oa na ca) := by rw [xr.cell]; rfl
    have c1 : wr.cell? ⟨g, 1, none⟩ = some (.slice ob nb cb) := by rw [xr.cell]; rfl
    have Ho := zhI ho;have hz := hb.size;clear ho;rcases hi with ⟨rfl, rfl, rfl⟩ | ⟨rfl, rfl, rfl⟩ | ⟨rfl, rfl, rfl⟩
    .
     obtain ⟨o', c', e', -, hr'⟩ := (HA.out.belowAt hb).at;obtain ⟨rfl, rfl⟩ : oa = o' /\ ca = c' := by simpa using e'
     have HR := zhI hr';have hl := zhI HA.out.1;clear hr' e';go_wp2_with (refine zau rfl (.tmp 31) (.tmp 32) 127 rfl w.heap.size 88 idg _ 1 8 Tryz.underlying127 Hidg.out.1 Hidg.out.2.1 Hidg.out.2.2.1 Hidg.out.2.2.2 rfl (by decide) _ _ _ rfl Ho.out oa na ca xa rfl HSa.out hl.out HR.out h1a (by simp [maxLen]; omega) (by omega) (by omega) ?_; intro v3 w3 ho3 hg3);have hb3 : Below w.heap.size w w3 := hb.grown hg3 hz (fun k e => (Ho.out.lt k e).1);rw [Nat.zero_add, List.nil_append] at ho3;go_roundw
     case rel => exact ⟨⟨na, xa, .inr (.inl ⟨rfl, rfl, rfl⟩), ho3⟩, hb3⟩
     case measure => simp [intOf]
    .
     obtain ⟨o', c', e', -, hr'⟩ := (HB.out.belowAt hb).at;obtain ⟨rfl, rfl⟩ : ob = o' /\ cb = c' := by simpa using e'
     have HR := zhI hr';have hl := zhI HB.out.1;clear hr' e';go_wp2_with (refine zau rfl (.tmp 31) (.tmp 32) 127 rfl w.heap.size 88 idg _ 1 8 Tryz.underlying127 Hidg.out.1 Hidg.out.2.1 Hidg.out.2.2.1 Hidg.out.2.2.2 rfl (by decide) _ _ _ rfl Ho.out ob nb cb xb rfl HSb.out hl.out HR.out h1b (by simp [maxLen]; omega) (by omega) (by omega) ?_; intro v3 w3 ho3 hg3);have hb3 : Below w.heap.size w w3 := hb.grown hg3 hz (fun k e => (Ho.out.lt k e).1);go_roundw
     case rel => exact ⟨⟨_, _, .inr (.inr ⟨rfl, rfl, rfl⟩), ho3⟩, hb3⟩
     case measure => simp [intOf]
    . clear c0 c1 xr;go_wp2;go_ret;exact ⟨_, rfl, Ho.out, hb⟩
set_option maxHeartbeats 1000000 in
theorem zdN {S : Nat -> Prop} (w : World) (a : Addr) (m c : Nat) (ys : List Value) (hl : ys.length = m * 1) (h : RowAt S w (some a) ys) (h1 : ∀ u ∈ ys, u.oneCell' = true) (hm : m <= 1000) :
  Calls Tryz.prog 164 #[.slice (some a) m c] w fun e w' => ∃ v, e = .returned v /\ w'.ownsRow w.heap.size 88 1 v m ys /\ Below w.heap.size w w' := by
 obtain ⟨i0, hi, hz0, hz1, hz2⟩ := info_parts zdG;have heql := fun (w : World) (a : Option Addr) (n c : Nat) => Lib.run_eql_slice_nil (P := Tryz.prog) w 127 88 a n c 0 0 Tryz.underlying127;go_enter Tryz.func164, Tryz.ntmps164;go_wp2_with (at_builtin; refine zau rfl _ _ 127 rfl w.heap.size 88 i0 _ 1 8 Tryz.underlying127 hi hz0 hz1 hz2 rfl (by decide) _ 0 [] rfl (World.ownsRow_made w #[] 0 (Nat.le_refl _) (by simp [maxLen]) rfl) _ m c ys rfl (by intro e; cases e) hl (h.below ((Below.refl _ _).alloc (Nat.le_refl _) _)) h1 (by unfold maxLen; omega) (by omega) (by simp) ?_; intro v' w1 hown hg);go_ret;simp only [Nat.zero_add, List.nil_append] at hown;exact ⟨_, rfl, hown, ((Below.refl _ _).alloc (Nat.le_refl _) _).grown hg (by simp) (by intro k hk; cases hk; exact Nat.le_refl _)⟩
theorem zlg (base : Nat) (v : Value) (n : Nat) (xs : List Value) (w : World) (h : RowO w base 88 1 v n xs) (i : Nat) (hi : i <= n) (tb : Nat) (ys : List Value) (hy : ys.length = 1) (hx : Bx w tb ys.toArray 88) (hne : v.ownBlock ≠ some tb)
  (h1x : ∀ u ∈ xs, u.oneCell' = true) (h1y : ∀ u ∈ ys, u.oneCell' = true) (hn : n <= 1000) (hbase : base <= w.heap.size) :
  Calls Tryz.prog 163 #[v, .int .i64 i, .slice (some ⟨tb, 0, none⟩) 1 1] w fun e w' => ∃ v', e = .returned v' /\ RowO w' base 88 1 v' (n + 1) (xs.take (i) ++ ys ++ xs.drop (i)) /\ w.grownBy w' v.ownBlock /\ (v'.ownBlock = v.ownBlock \/ v'.ownBlock = some w.heap.size) := by
 obtain ⟨i0, hi0, hz0, hz1, hz2⟩ := info_parts zdG
 by_cases hin : i = n
 .
  subst hin;obtain ⟨o, c, rfl, hsl, -⟩ := h.at;have hcap : i <= c := by rcases hsl with ⟨_, h, _⟩ | ⟨_, _, h, _⟩ <;> omega
  have hxl := h.1;obtain ⟨v', w', hr, h2, h3, h4⟩ := zd5 (P := Tryz.prog) w base 127 127 88 i0 _ 1 8 Tryz.underlying127 hi0 hz0 hz1 hz2 rfl (by decide) _ i xs h ⟨tb, 0, none⟩ 1 1 ys (by rw [hy]) (zdh hx) h1y (by omega) (by decide) hbase;have Hr := zhI hr;have Hres := zhI (zaI h2 (zaI h3 h4));clear hr h2 h3 h4 h
  by_cases hci : c = i
  . subst hci;go_enter Tryz.func163, Tryz.ntmps163;go_wp2_with (at_builtin; refine zaA rfl _ _ 127 127 rfl _ _ rfl rfl Hr.out ?_);go_ret;rw [List.take_of_length_le (by omega), List.drop_of_length_le (by omega), List.append_nil];exact ⟨v', rfl, Hres.out.1, Hres.out.2.1, Hres.out.2.2⟩
  . have hcap2 : i <= c := hcap;go_enter Tryz.func163, Tryz.ntmps163;go_wp2_with (at_builtin; refine zaA rfl _ _ 127 127 rfl _ _ rfl rfl Hr.out ?_);go_ret;rw [List.take_of_length_le (by omega), List.drop_of_length_le (by omega), List.append_nil];exact ⟨v', rfl, Hres.out.1, Hres.out.2.1, Hres.out.2.2⟩
 .
  have hin' : i < n := by omega
  rcases h.2 with ⟨rfl, h0⟩ | ⟨g, cap, cur, rfl, hb, hg, hnc, hcm, hs, htk⟩
  . omega
  have hxl := h.1;rw [Nat.mul_one] at htk hs hxl;have hmx : cap <= 9223372036854775807 := by unfold maxLen at hcm; omega
  have hi1 : ((i : Int) + 1) = ((i + 1 : Nat) : Int) := by omega
  have hdl : (xs.drop (i)).length = (n - i) := by rw [List.length_drop, hxl]
  have hds := fun j u hj => zcF (xs := xs) (k := 1) (n := n) hg (by rw [Nat.mul_one]; exact htk) (i) j u hj
  by_cases hroom : n + 1 <= cap
  .
   have z2 : ¬ ((i : Int) = (n : Int)) := by omega
   have z3 : ((i : Int) == (n : Int)) = false := by simp; omega
   have hw1 : IntKind.i64.wrap ((i : Int) + 1) = (i : Int) + 1 := IntWalk.i64_in _ (by omega);have b1 : (0 : Int) <= (i : Int) + 1 := by omega
   have b0 : i <= n := by omega
   have tn : ((i : Int) + 1).toNat = i + 1 := by omega
   have b2 : ¬ (cap = i + 1) := by omega
   have b3 : (i : Int) <= (n : Int) + 1 := by omega
   have b4 : ¬ (cap = i) := by omega
   have b5 : ¬ ((cap : Int) < (n : Int) + 1) := by omega
   have b6 : (n : Int) + 1 <= (cap : Int) := by omega
   have hsa : w.shape? tb = some (88, ys.toArray.size) := by unfold Bx at hx; simp [World.shape?, hx]
   have hsb : w.shape? g = some (88, cur.size) := by simp [World.shape?, hg]
   have hgt : tb ≠ g := fun e => hne (by rw [e]; rfl);have hov : ∀ lb cb, (callFunc 190 #[.slice (some ⟨tb, 0, none⟩) 1 1, .slice (some ⟨g, (i + 1), none⟩) lb cb]).run Tryz.prog w = .ok (.value (.bool false)) w := fun lb cb => by
    rw [run_callFunc_extern Tryz.func190 (by kernel_rfl) (by kernel_rfl) (by kernel_rfl) (e := Extern.SlicesOverlaps.overlaps #[127, 127] #[4]) (by kernel_rfl),
     Lib.run_overlaps_apart w 127 4 88 Tryz.underlying127 1 Tryz.sizeOf88 ⟨tb, 0, none⟩ ⟨g, (i + 1), none⟩ 1 1 lb cb hgt _ _ _ _ hsa hsb (by omega) (hx.free 0) (hx.free _)]
    rfl
   have Hds := zhI hds;have Hi0 := zhI (zaI hi0 (zaI hz0 (zaI hz1 hz2)));have HX := zhI (zaI h hx);clear hds hi0 hz0 hz1 hz2 hi1 hsa hsb hx h hi hin;go_enter Tryz.func163, Tryz.ntmps163;go_wp2_with (simp only [hov]);have hshift := zfs (C := cur.toList) (xs := xs) (ys := ys) (a := i) (m := n) (k := 1) htk (by rw [Array.length_toList]; omega) (by omega) hy hxl;have hc1 := za6 (P := Tryz.prog) w.drew 127 127 3 88 i0 1 Tryz.underlying127 Hi0.out.1 Hi0.out.2.2.1 g ((i + 1)) cur hg (n + 1 - (i + 1)) (cap - (i + 1)) ⟨g, i, none⟩ (n + 1 - i) (cap - i) (xs.drop (i))
    (by rw [Nat.mul_one, hdl, show Nat.min (n + 1 - i) (n + 1 - (i + 1)) = n - i from (Nat.min_eq_right (by omega)).trans (by omega)]) Hds.out (fun u hu => h1x u (List.mem_of_mem_drop hu)) (by rw [hdl]; omega)
   obtain ⟨D, hD⟩ : ∃ D, cur.toList.take ((i + 1)) ++ xs.drop (i) ++ cur.toList.drop ((i + 1) + (xs.drop (i)).length) = D := ⟨_, rfl⟩;rw [hD] at hc1 hshift;have hg1 : (w.drew.setRow g D.toArray).heap[g]? = some (.cells D.toArray 88 (0, 0)) := setRow_heap w.drew g cur _ _ _ hg;have hx1 : Bx (w.drew.setRow g D.toArray) tb ys.toArray 88 := (setRow_other w.drew g tb _ hgt).trans HX.out.2;have hc2 := za6 (P := Tryz.prog) (w.drew.setRow g D.toArray) 127 127 3 88 i0 1 Tryz.underlying127 Hi0.out.1 Hi0.out.2.2.1 g (i) D.toArray hg1 (n + 1 - i) (cap - i) ⟨tb, 0, none⟩ 1 1 ys
    (by rw [Nat.mul_one, hy, show Nat.min 1 (n + 1 - i) = 1 from Nat.min_eq_left (by omega)]) (zdh hx1) h1y (by rw [hy, List.size_toArray, hshift.2.2, Array.length_toList]; omega)
   rw [List.toList_toArray] at hc2;obtain ⟨E, hE⟩ : ∃ E, D.take (i) ++ ys ++ D.drop (i + ys.length) = E := ⟨_, rfl⟩;rw [hE] at hc2 hshift;have hg2 : ((w.drew.setRow g D.toArray).setRow g E.toArray).heap[g]? = some (.cells E.toArray 88 (0, 0)) := setRow_heap _ g _ _ _ _ hg1;have HF : Hid (RowO ((w.drew.setRow g D.toArray).setRow g E.toArray) base 88 1 (.slice (some ⟨g, 0, none⟩) (n + 1) cap) (n + 1) (xs.take (i) ++ ys ++ xs.drop (i)) /\ w.grownBy ((w.drew.setRow g D.toArray).setRow g E.toArray) (some g)) := zhI ⟨RowO.mk' (by rw [zlA, zlA, List.length_take, hy, hdl, hxl]; omega) hb hg2 hroom hcm (by rw [List.size_toArray, hshift.2.1, Array.length_toList]; rw [Nat.mul_one]; exact hs) (by rw [List.toList_toArray, show (n + 1) * 1 = n + 1 by omega]; exact hshift.1),
    ((⟨rfl, rfl, rfl, Nat.le_refl _, fun _ _ _ => rfl⟩ : w.grownBy w.drew (some g)).trans (zaF _ g _)).trans (zaF _ g _)⟩
   have Hc1 := zhI hc1;have Hc2 := zhI hc2;clear hshift hD hE hg1 hx1 hg2 hc1 hc2;refine zah #[false, false, false, false, false, false, false, false, false] 9 (by kernel_rfl) (by rfl) rfl ?_;refine wpAny_take (i := 0) (v := (.slice (some ⟨g, 0, none⟩) (n + 1) cap)) rfl (by kernel_rfl) (by kernel_rfl) (by kernel_rfl) (fun _ _ _ h => h) (Or.inl ⟨by rfl, fun w => by first | rfl | (go_simp; try with_reducible rfl)⟩) ?_;simp only [List.getElem_toArray, List.getElem_cons_zero, Act.put, zsP];refine wpAny_take (i := 1) (v := (.int .i64 i)) rfl (by kernel_rfl) (by kernel_rfl) (by kernel_rfl) (fun _ _ _ h => h) (Or.inl ⟨by rfl, fun w => by first | rfl | (go_simp; try with_reducible rfl)⟩) ?_;simp only [zgP, Act.put, zsP];refine wpAny_take (i := 2) (v := (.int .i64 1)) rfl (by kernel_rfl) (by kernel_rfl) (by kernel_rfl) (fun _ _ _ h => h) (Or.inl ⟨by rfl, fun w => by first | rfl | (go_simp; try with_reducible rfl)⟩) ?_;simp only [zgP, Act.put, zsP];refine wpAny_take (i := 3) (v := (.int .i64 ((i : Int) + 1))) rfl (by kernel_rfl) (by kernel_rfl) (by kernel_rfl) (fun _ _ _ h => h) (Or.inl ⟨by rfl, fun w => by first | rfl | (go_simp; try with_reducible rfl)⟩) ?_;simp only [zgP, Act.put, zsP];refine wpAny_take (i := 4) (v := (.slice (some ⟨g, (i + 1), none⟩) (n + 1 - (i + 1)) (cap - (i + 1)))) rfl (by kernel_rfl) (by kernel_rfl) (by kernel_rfl) (fun _ _ _ h => h) (Or.inl ⟨by rfl, fun w => by first | rfl | (go_simp; try with_reducible rfl)⟩) ?_;simp only [zgP, Act.put, zsP];refine wpAny_take (i := 5) (v := (.slice (some ⟨g, 0, none⟩) (n + 1) cap)) rfl (by kernel_rfl) (by kernel_rfl) (by kernel_rfl) (fun _ _ _ h => h) (Or.inl ⟨by rfl, fun w => by first | rfl | (go_simp; try with_reducible rfl)⟩) ?_;simp only [zgP, Act.put, zsP];refine wpAny_take (i := 6) (v := (.int .i64 i)) rfl (by kernel_rfl) (by kernel_rfl) (by kernel_rfl) (fun _ _ _ h => h) (Or.inl ⟨by rfl, fun w => by first | rfl | (go_simp; try with_reducible rfl)⟩) ?_;simp only [zgP, Act.put, zsP];refine wpAny_take (i := 7) (v := (.slice (some ⟨g, i, none⟩) (n + 1 - i) (cap - i))) rfl (by kernel_rfl) (by kernel_rfl) (by kernel_rfl) (fun _ _ _ h => h) (Or.inl ⟨by rfl, fun w => by first | rfl | (go_simp; try with_reducible rfl)⟩) ?_;simp only [zgP, Act.put, zsP];refine wpAny_ready (rs := [8]) (by kernel_rfl) (by simp) ?_;refine AllReady.cons rfl (fun K hK => ?_) AllReady.nil;refine wp_copy_run _ _ 127 127 rfl _ _ rfl rfl Hc1.out ?_;refine hK _ _ ?_;clear hK K;simp only [Act.put, zsP];refine wpAny_done (by kernel_rfl) ?_ _;have hc2 := Hc2.out;go_wp2;go_ret;exact ⟨_, rfl, HF.out.1, HF.out.2, .inl rfl⟩
  .
   obtain ⟨q, hq⟩ : ∃ q, n + 1 - i = q := ⟨_, rfl⟩;obtain ⟨N1, hN1⟩ : ∃ N1, w.heap.size = N1 := ⟨_, rfl⟩;have hgl : g < w.heap.size := (Array.getElem?_eq_some_iff.1 hg).1;have holds : (xs.take (i)).length = i := by rw [List.length_take]; omega
   have hfc := run_firstCells_some (P := Tryz.prog) w.drew i0.size i ⟨g, 0, none⟩ i cap (xs.take (i)) (by rw [hz1, Nat.mul_one]; exact holds) (fun j u hj => by
    have hjl := (List.getElem?_eq_some_iff.1 hj).1;rw [Addr.add_lit, Nat.zero_add];have h2 : xs[j]? = some u := by rw [List.getElem?_take] at hj; split at hj; exact hj; cases hj
    obtain ⟨hj2, hju⟩ := List.getElem?_eq_some_iff.1 h2;have h3 := zb7 htk hj2;show w.cell? _ = _;simp [World.cell?, hg];rw [<- Array.getElem?_toList, h3, hju])
   have ha := Lib.run_append_grow_zeros (P := Tryz.prog) w 127 3 127 88 i0 _ .i64 .i64 Tryz.underlying127 Tryz.underlying3 hi0 hz0 (some ⟨g, 0, none⟩) i cap (xs.take (i)) hfc q (by omega) (by rw [hz1]; decide) (by omega) (by omega) (by rw [hz2]; omega) (by rw [hz2]; exact growslice_fits (by omega) (by omega));rw [show i + q = n + 1 by omega] at ha;have hge := grownCap_ge w (n + 1) cap 88;have hcl := grownCap_le_maxLen w (n + 1) cap 88 (by unfold maxLen; omega);obtain ⟨C, hC⟩ : ∃ C, grownCap w (n + 1) cap 88 = C := ⟨_, rfl⟩;rw [hC] at ha hge hcl;have hCm : C <= 9223372036854775807 := by unfold maxLen at hcl; omega
   obtain ⟨Z, hZ⟩ : ∃ Z : List Value, (Builtin.zeroCells (Value.pointer none).cells q).toList ++ (Builtin.zeroCells (Value.pointer none).cells (C - (n + 1))).toList = Z := ⟨_, rfl⟩;have hZl : Z.length = C - i := by rw [<- hZ, zlA, Array.length_toList, Array.length_toList, size_zeroCells, size_zeroCells];simp [Value.cells];omega
   have hA : (xs.take (i)).toArray ++ Builtin.zeroCells (Value.pointer none).cells q ++ Builtin.zeroCells (Value.pointer none).cells (C - (n + 1)) = (xs.take (i) ++ Z).toArray := by apply Array.ext';rw [<- hZ];simp
   rw [hA, hN1] at ha;have hfr := zfC (xs := xs) (Z := Z) (ys := ys) (a := i) (m := n) (k := 1) (by omega) (by omega) hy hxl;obtain ⟨w1, hw1⟩ : ∃ w1, w.drew.alloc (.cells (xs.take (i) ++ Z).toArray 88) = w1 := ⟨_, rfl⟩;have hB1 : Below w.heap.size w w1 := by rw [<- hw1]; exact ((Below.refl _ w).drew).alloc (Nat.le_refl _) _
   have hg1 : w1.heap[N1]? = some (.cells (xs.take (i) ++ Z).toArray 88 (0, 0)) := by rw [<- hw1, <- hN1]; exact heap_alloc_new w.drew _
   have hx1 : Bx w1 tb ys.toArray 88 := hx.belowAll hB1;have hc2 := za6 (P := Tryz.prog) w1 127 127 3 88 i0 1 Tryz.underlying127 hi0 hz1 N1 (i) _ hg1 (n + 1 - i) (C - i) ⟨tb, 0, none⟩ 1 1 ys
    (by rw [Nat.mul_one, hy, show Nat.min 1 (n + 1 - i) = 1 from Nat.min_eq_left (by omega)]) (zdh hx1) h1y (by rw [hy, List.size_toArray, zlA, holds, hZl]; omega)
   rw [List.toList_toArray] at hc2;obtain ⟨D, hD⟩ : ∃ D, (xs.take (i) ++ Z).take (i) ++ ys ++ (xs.take (i) ++ Z).drop (i + ys.length) = D := ⟨_, rfl⟩;rw [hD] at hc2 hfr;have hg2 : (w1.setRow N1 D.toArray).drew.heap[N1]? = some (.cells D.toArray 88 (0, 0)) := setRow_heap w1 N1 _ _ _ _ hg1;have hgg : (w1.setRow N1 D.toArray).drew.heap[g]? = some (.cells cur 88 (0, 0)) := ((setRow_other w1 N1 g _ (by omega)).trans (hB1.block g hgl)).trans hg;have hc1 := za6 (P := Tryz.prog) (w1.setRow N1 D.toArray).drew 127 127 3 88 i0 1 Tryz.underlying127 hi0 hz1 N1 ((i + 1)) D.toArray hg2 (n + 1 - (i + 1)) (C - (i + 1)) ⟨g, i, none⟩ (n - i) (cap - i) (xs.drop (i))
    (by rw [Nat.mul_one, hdl, show Nat.min (n - i) (n + 1 - (i + 1)) = n - i from Nat.min_eq_left (by omega)]) (zcF (xs := xs) (k := 1) (n := n) hgg (by rw [Nat.mul_one]; exact htk) (i)) (fun u hu => h1x u (List.mem_of_mem_drop hu)) (by rw [hdl, List.size_toArray, hfr.2.2, hZl]; omega)
   rw [List.toList_toArray] at hc1;obtain ⟨E, hE⟩ : ∃ E, D.take ((i + 1)) ++ xs.drop (i) ++ D.drop ((i + 1) + (xs.drop (i)).length) = E := ⟨_, rfl⟩;rw [hE] at hc1 hfr;have hg3 : ((w1.setRow N1 D.toArray).drew.setRow N1 E.toArray).heap[N1]? = some (.cells E.toArray 88 (0, 0)) := setRow_heap _ N1 _ _ _ _ hg2;have HF : Hid (RowO ((w1.setRow N1 D.toArray).drew.setRow N1 E.toArray) base 88 1 (.slice (some ⟨N1, 0, none⟩) (n + 1) C) (n + 1) (xs.take (i) ++ ys ++ xs.drop (i)) /\ w.grownBy ((w1.setRow N1 D.toArray).drew.setRow N1 E.toArray) (some g)) := zhI ⟨RowO.mk' (by rw [zlA, zlA, List.length_take, hy, hdl, hxl]; omega) (by omega) hg3 hge hcl (by rw [List.size_toArray, hfr.2.1, hZl]; omega) (by rw [List.toList_toArray, show (n + 1) * 1 = n + 1 by omega]; exact hfr.1), by
    have hz1' : w.heap.size <= w1.heap.size := hB1.size;refine ⟨?_, ?_, ?_, ?_, fun b hb' _ => ?_⟩
    . exact hB1.os
    . exact hB1.tape
    . exact hB1.output
    . rw [setRow_size]; show w.heap.size <= (w1.setRow N1 D.toArray).heap.size; rw [setRow_size]; exact hz1'
    . exact (setRow_other _ N1 b _ (by omega)).trans ((setRow_other w1 N1 b _ (by omega)).trans (hB1.block b hb'))⟩
   have z3 : ((i : Int) == (n : Int)) = false := by simp; omega
   have z2 : ¬ ((i : Int) = (n : Int)) := by omega
   have hq2 : (n : Int) + 1 - (i : Int) = (q : Int) := by omega
   have b0 : i <= n := by omega
   have tn : ((i : Int) + 1).toNat = i + 1 := by omega
   have b1 : (0 : Int) <= (i : Int) + 1 := by omega
   have b2 : ¬ (C = i + 1) := by omega
   have b4 : ¬ (C = i) := by omega
   have b7 : ¬ (cap = i) := by omega
   have b5 : (cap : Int) < (n : Int) + 1 := by omega
   have b8 : i <= n + 1 := by omega
   have b9 : i + 1 <= n + 1 := by omega
   have HN1 := zhI hN1;have hwi : IntKind.i64.wrap ((i : Int) + 1) = (i : Int) + 1 := IntWalk.i64_in _ (by omega);rw [hw1] at ha;have Ha := zhI ha;have Hc1 := zhI hc1;have Hc2 := zhI hc2;clear hfr hZ hZl hA hD hE hg1 hg2 hg3 hgg hx1 hc1 hc2 ha hfc hds hi1 h hx hi hin hq hN1 hw1 hB1 hC hge hcl;go_enter Tryz.func163, Tryz.ntmps163;have hc2 := Hc2.out;go_wp2_with (at_builtin; refine zaA rfl _ _ 127 3 rfl _ _ rfl rfl Ha.out ?_);refine zah #[false, false, false, false, false, false, false, false, false] 9 (by kernel_rfl) (by rfl) rfl ?_;refine wpAny_take (i := 0) (v := (.slice (some ⟨N1, 0, none⟩) (n + 1) C)) rfl (by kernel_rfl) (by kernel_rfl) (by kernel_rfl) (fun _ _ _ h => h) (Or.inl ⟨by rfl, fun w => by first | rfl | (go_simp; try with_reducible rfl)⟩) ?_;simp only [List.getElem_toArray, List.getElem_cons_zero, Act.put, zsP];refine wpAny_take (i := 1) (v := (.int .i64 i)) rfl (by kernel_rfl) (by kernel_rfl) (by kernel_rfl) (fun _ _ _ h => h) (Or.inl ⟨by rfl, fun w => by first | rfl | (go_simp; try with_reducible rfl)⟩) ?_;simp only [zgP, Act.put, zsP];refine wpAny_take (i := 2) (v := (.int .i64 1)) rfl (by kernel_rfl) (by kernel_rfl) (by kernel_rfl) (fun _ _ _ h => h) (Or.inl ⟨by rfl, fun w => by first | rfl | (go_simp; try with_reducible rfl)⟩) ?_;simp only [zgP, Act.put, zsP];refine wpAny_take (i := 3) (v := (.int .i64 ((i : Int) + 1))) rfl (by kernel_rfl) (by kernel_rfl) (by kernel_rfl) (fun _ _ _ h => h) (Or.inl ⟨by rfl, fun w => by first | rfl | (go_simp; try with_reducible rfl)⟩) ?_;simp only [zgP, Act.put, zsP];refine wpAny_take (i := 4) (v := (.slice (some ⟨N1, (i + 1), none⟩) (n + 1 - (i + 1)) (C - (i + 1)))) rfl (by kernel_rfl) (by kernel_rfl) (by kernel_rfl) (fun _ _ _ h => h) (Or.inl ⟨by rfl, fun w => by first | rfl | (go_simp; try with_reducible rfl)⟩) ?_;simp only [zgP, Act.put, zsP];refine wpAny_take (i := 5) (v := (.slice (some ⟨g, 0, none⟩) n cap)) rfl (by kernel_rfl) (by kernel_rfl) (by kernel_rfl) (fun _ _ _ h => h) (Or.inl ⟨by rfl, fun w => by first | rfl | (go_simp; try with_reducible rfl)⟩) ?_;simp only [zgP, Act.put, zsP];refine wpAny_take (i := 6) (v := (.int .i64 i)) rfl (by kernel_rfl) (by kernel_rfl) (by kernel_rfl) (fun _ _ _ h => h) (Or.inl ⟨by rfl, fun w => by first | rfl | (go_simp; try with_reducible rfl)⟩) ?_;simp only [zgP, Act.put, zsP];refine wpAny_take (i := 7) (v := (.slice (some ⟨g, i, none⟩) (n - i) (cap - i))) rfl (by kernel_rfl) (by kernel_rfl) (by kernel_rfl) (fun _ _ _ h => h) (Or.inl ⟨by rfl, fun w => by first | rfl | (go_simp; try with_reducible rfl)⟩) ?_;simp only [zgP, Act.put, zsP];refine wpAny_ready (rs := [8]) (by kernel_rfl) (by simp) ?_;refine AllReady.cons rfl (fun K hK => ?_) AllReady.nil;refine wp_copy_run _ _ 127 127 rfl _ _ rfl rfl Hc1.out ?_;refine hK _ _ ?_;clear hK K hc2;simp only [Act.put, zsP];refine wpAny_done (by kernel_rfl) ?_ _;go_wp2;go_ret;exact ⟨_, rfl, HF.out.1, HF.out.2, .inr (by rw [HN1.out]; rfl)⟩
theorem ziM {α : Type} {C xs zs : List α} {a k p : Nat} (hC : C.take (p + k) = xs) (hm : p + k <= C.length) (ha : a <= p) (hx : xs.length = p + k) (hz : zs.length = k) :
  let D := C.take a ++ xs.drop (a + k) ++ C.drop (a + (xs.drop (a + k)).length)
  let E := D.take p ++ zs ++ D.drop (p + k)
  E.take p = xs.take a ++ xs.drop (a + k) /\ E.length = C.length /\ D.length = C.length := by
 have hdl : (xs.drop (a + k)).length = p - a := by rw [List.length_drop, hx]; omega
 have htl : (C.take a).length = a := by rw [List.length_take]; omega
 obtain ⟨R, hR⟩ : ∃ R, C.drop (a + (xs.drop (a + k)).length) = R := ⟨_, rfl⟩;have hRl : R.length = C.length - (a + (p - a)) := by rw [<- hR, List.length_drop, hdl]
 intro D E;have hD : D = C.take a ++ xs.drop (a + k) ++ R := by rw [<- hR]
 have hDl : D.length = C.length := by rw [hD, zlA, zlA, htl, hdl, hRl]; omega
 have h1 : D.take p = C.take a ++ xs.drop (a + k) := by rw [hD]; exact List.take_left' (by rw [zlA, htl, hdl]; omega)
 have h2 : C.take a = xs.take a := by rw [<- hC, List.take_take, Nat.min_eq_left (by omega)]
 refine ⟨?_, ?_, hDl⟩
 . show (D.take p ++ zs ++ D.drop (p + k)).take p = _;rw [List.append_assoc, List.take_append_of_le_length (by rw [List.length_take, hDl]; omega), List.take_take, Nat.min_self, h1, h2]
 . show (D.take p ++ zs ++ D.drop (p + k)).length = _;rw [zlA, zlA, List.length_take, List.length_drop, hz, hDl];omega
set_option maxRecDepth 100000 in
set_option maxHeartbeats 2000000 in
theorem zk1 (base : Nat) (v : Value) (p : Nat) (xs : List Value) (w : World) (h : RowO w base 77 2 v (p + 1) xs) (i : Nat) (hi : i <= p) (h1x : ∀ u ∈ xs, u.oneCell' = true) (hn : p <= 1000) :
  Calls Tryz.prog 165 #[v, .int .i64 i, .int .i64 ((i : Int) + 1)] w fun e w' => ∃ v', e = .returned v' /\ RowO w' base 77 2 v' p (xs.take (i * 2) ++ xs.drop ((i + 1) * 2)) /\ w.grownBy w' v.ownBlock /\ v'.ownBlock = v.ownBlock := by
 obtain ⟨i0, hi0, hz0, hz1, hz2⟩ := info_parts zbo;rcases h.2 with ⟨rfl, h0⟩ | ⟨g, cap, cur, rfl, hb, hg, hnc, hcm, hs, htk⟩
 . omega
 have hxl := h.1;have hmx : cap <= 9223372036854775807 := by unfold maxLen at hcm; omega
 have hcur : (p + 1) * 2 <= cur.size := znT (Nat.mul_le_mul_right _ hnc) hs;have e2 : (i + 1) * 2 = i * 2 + 2 := by omega
 have e3 : (p + 1) * 2 = p * 2 + 2 := by omega
 have hnl : (xs.drop ((i + 1) * 2)).length = (p - i) * 2 := by rw [List.length_drop, hxl]; omega
 have hzv : ∀ w, (zeroValue 77).run Tryz.prog w = .ok (.agg #[.string .empty, .string .empty]) w := fun w => by kernel_rfl
 have hsrcs := zcF (w := w.drew) hg htk ((i + 1) * 2);have hap := fun (sa : Addr) (sc : Nat) (hsrc : ∀ j u, (xs.drop ((i + 1) * 2))[j]? = some u -> w.drew.cell? (sa.add j) = some u) => run_append_room (P := Tryz.prog) w.drew 41 41 77 i0 Tryz.underlying41 hi0 g i cap cur hg sa (p - i) sc (xs.drop ((i + 1) * 2)) (by rw [hz1]; exact hnl) hsrc (fun u hu => h1x u (List.mem_of_mem_drop hu)) (by omega) (by rw [hz1, hnl]; omega);rw [hz1] at hap;obtain ⟨D, hD⟩ : ∃ D, cur.toList.take (i * 2) ++ xs.drop ((i + 1) * 2) ++ cur.toList.drop (i * 2 + (xs.drop ((i + 1) * 2)).length) = D := ⟨_, rfl⟩;rw [hD, show i + (p - i) = p by omega] at hap;have hlist := fun zs hz => ziM (C := cur.toList) (xs := xs) (zs := zs) (a := i * 2) (k := 2) (p := p * 2) (by rw [<- e3]; exact htk) (by rw [Array.length_toList]; omega) (by omega) (by rw [hxl]; omega) hz;rw [<- e2] at hlist;simp only [hD] at hlist;have hDl : D.length = cur.size := by rw [<- Array.length_toList]; exact (hlist [.nilFunc, .nilFunc] rfl).2.2
 have hg1 : (w.drew.setRow g D.toArray).heap[g]? = some (.cells D.toArray 77 (0, 0)) := setRow_heap w.drew g cur _ _ _ hg;obtain ⟨zs, hzl, hcl⟩ := zet (P := Tryz.prog) (w.drew.setRow g D.toArray) 41 77 0 _ 2 Tryz.underlying41 hzv rfl (by intro u hu; simp [Value.cells] at hu; subst hu; rfl) g (p * 2) 1 (cap - p) (by decide) D.toArray hg1 (by rw [List.size_toArray, hDl]; omega);have hl2 := hlist zs (by rw [hzl]);rw [List.toList_toArray, show p * 2 + 1 * 2 = p * 2 + 2 by omega] at hcl;obtain ⟨E, hE⟩ : ∃ E, D.take (p * 2) ++ zs ++ D.drop (p * 2 + 2) = E := ⟨_, rfl⟩;rw [hE] at hcl hl2;have hg2 : ((w.drew.setRow g D.toArray).setRow g E.toArray).heap[g]? = some (.cells E.toArray 77 (0, 0)) := setRow_heap _ g _ _ _ _ hg1;have HF : Hid (RowO ((w.drew.setRow g D.toArray).setRow g E.toArray) base 77 2 (.slice (some ⟨g, 0, none⟩) p cap) p (xs.take (i * 2) ++ xs.drop ((i + 1) * 2)) /\ w.grownBy ((w.drew.setRow g D.toArray).setRow g E.toArray) (some g)) := zhI ⟨RowO.mk' (by rw [zlA, List.length_take, hnl, hxl]; omega) hb hg2 (by omega) hcm (by rw [List.size_toArray, hl2.2.1, Array.length_toList]; exact hs) (by rw [List.toList_toArray]; exact hl2.1),
  ((⟨rfl, rfl, rfl, Nat.le_refl _, fun _ _ _ => rfl⟩ : w.grownBy w.drew (some g)).trans (zaF _ g _)).trans (zaF _ g _)⟩
 have Hcl := zhI hcl;have Hap := zhI hap;have Hsr := zhI hsrcs;have Hnl := zhI hnl;have z1 : ((i : Int) == (i : Int) + 1) = false := by simp; omega
 have z2 : ¬ ((i : Int) = (i : Int) + 1) := by omega
 have b0 : i <= p + 1 := by omega
 have b1 : (i : Int) <= (i : Int) + 1 := by omega
 have b2 : (0 : Int) <= (i : Int) + 1 := by omega
 have b3 : (i : Int) + 1 <= (p : Int) + 1 := by omega
 have b4 : p + 1 <= cap := hnc;have tn : ((i : Int) + 1).toNat = i + 1 := by omega
 have b5 : ¬ (cap = p) := by omega
 have b6 : ¬ (cap = i) := by omega
 have b7 : p <= p + 1 := by omega
 have b8 : i + 1 <= p + 1 := by omega
 have b9 : p + 1 - p = 1 := by omega
 have b11 : i <= cap := by omega
 have b12 : ¬ cap < i := by omega
 have b10 : p + 1 - (i + 1) = p - i := by omega
 clear hlist hl2 hD hE hg1 hg2 hcl hap hsrcs hzv h hnl hDl
 by_cases hci : cap = i + 1
 .
  have hpi : p - i = 0 := by omega
  have hsrc0 : ∀ j u, (xs.drop ((i + 1) * 2))[j]? = some u -> w.drew.cell? ((⟨g, 0, none⟩ : Addr).add j) = some u := fun j u hj => by have := (List.getElem?_eq_some_iff.1 hj).1;rw [Hnl.out] at this;omega
  subst hci;go_enter Tryz.func165, Tryz.ntmps165;go_wp2;refine zah #[false, false, false, false, false, false, false, false] 8 (by kernel_rfl) (by rfl) rfl ?_;refine wpAny_take (i := 0) (v := (.slice (some ⟨g, 0, none⟩) (p + 1) (i + 1))) rfl (by kernel_rfl) (by kernel_rfl) (by kernel_rfl) (fun _ _ _ h => h) (Or.inl ⟨by rfl, fun w => by first | rfl | (go_simp; try with_reducible rfl)⟩) ?_;simp only [List.getElem_toArray, List.getElem_cons_zero, Act.put, zsP];refine wpAny_take (i := 1) (v := (.int .i64 i)) rfl (by kernel_rfl) (by kernel_rfl) (by kernel_rfl) (fun _ _ _ h => h) (Or.inl ⟨by rfl, fun w => by first | rfl | (go_simp; try with_reducible rfl)⟩) ?_;simp only [zgP, Act.put, zsP];refine wpAny_take (i := 2) (v := (.slice (some ⟨g, 0, none⟩) i (i + 1))) rfl (by kernel_rfl) (by kernel_rfl) (by kernel_rfl) (fun _ _ _ h => h) (Or.inl ⟨by rfl, fun w => by first | rfl | (go_simp; try with_reducible rfl)⟩) ?_;simp only [zgP, Act.put, zsP];refine wpAny_take (i := 3) (v := (.slice (some ⟨g, 0, none⟩) (p + 1) (i + 1))) rfl (by kernel_rfl) (by kernel_rfl) (by kernel_rfl) (fun _ _ _ h => h) (Or.inl ⟨by rfl, fun w => by first | rfl | (go_simp; try with_reducible rfl)⟩) ?_;simp only [zgP, Act.put, zsP];refine wpAny_take (i := 4) (v := (.int .i64 ((i : Int) + 1))) rfl (by kernel_rfl) (by kernel_rfl) (by kernel_rfl) (fun _ _ _ h => h) (Or.inl ⟨by rfl, fun w => by first | rfl | (go_simp; try with_reducible rfl)⟩) ?_;simp only [zgP, Act.put, zsP];refine wpAny_take (i := 5) (v := (.slice (some ⟨g, 0, none⟩) (p - i) ((i + 1) - (i + 1)))) rfl (by kernel_rfl) (by kernel_rfl) (by kernel_rfl) (fun _ _ _ h => h) (Or.inl ⟨by rfl, fun w => by first | rfl | (go_simp; try with_reducible rfl)⟩) ?_;simp only [zgP, Act.put, zsP];refine wpAny_ready (rs := [6]) (by kernel_rfl) (by simp) ?_;refine AllReady.cons rfl (fun K hK => ?_) AllReady.nil;refine wp_append_run _ _ 41 41 rfl _ _ rfl rfl (Hap.out _ _ hsrc0) ?_;refine hK _ _ ?_;clear hK K;simp only [Act.put, zsP];refine wpAny_ready (rs := [7]) (by kernel_rfl) (by simp) ?_;refine AllReady.cons rfl (fun K hK => ?_) AllReady.nil;go_simp;refine hK _ _ ?_;clear hK K;refine wpAny_done (by kernel_rfl) ?_ _;have hcl := Hcl.out;go_wp2;go_ret;exact ⟨_, rfl, HF.out.1, HF.out.2, rfl⟩
 . go_enter Tryz.func165, Tryz.ntmps165;go_wp2;refine zah #[false, false, false, false, false, false, false, false] 8 (by kernel_rfl) (by rfl) rfl ?_;refine wpAny_take (i := 0) (v := (.slice (some ⟨g, 0, none⟩) (p + 1) cap)) rfl (by kernel_rfl) (by kernel_rfl) (by kernel_rfl) (fun _ _ _ h => h) (Or.inl ⟨by rfl, fun w => by first | rfl | (go_simp; try with_reducible rfl)⟩) ?_;simp only [List.getElem_toArray, List.getElem_cons_zero, Act.put, zsP];refine wpAny_take (i := 1) (v := (.int .i64 i)) rfl (by kernel_rfl) (by kernel_rfl) (by kernel_rfl) (fun _ _ _ h => h) (Or.inl ⟨by rfl, fun w => by first | rfl | (go_simp; try with_reducible rfl)⟩) ?_;simp only [zgP, Act.put, zsP];refine wpAny_take (i := 2) (v := (.slice (some ⟨g, 0, none⟩) i cap)) rfl (by kernel_rfl) (by kernel_rfl) (by kernel_rfl) (fun _ _ _ h => h) (Or.inl ⟨by rfl, fun w => by first | rfl | (go_simp; try with_reducible rfl)⟩) ?_;simp only [zgP, Act.put, zsP];refine wpAny_take (i := 3) (v := (.slice (some ⟨g, 0, none⟩) (p + 1) cap)) rfl (by kernel_rfl) (by kernel_rfl) (by kernel_rfl) (fun _ _ _ h => h) (Or.inl ⟨by rfl, fun w => by first | rfl | (go_simp; try with_reducible rfl)⟩) ?_;simp only [zgP, Act.put, zsP];refine wpAny_take (i := 4) (v := (.int .i64 ((i : Int) + 1))) rfl (by kernel_rfl) (by kernel_rfl) (by kernel_rfl) (fun _ _ _ h => h) (Or.inl ⟨by rfl, fun w => by first | rfl | (go_simp; try with_reducible rfl)⟩) ?_;simp only [zgP, Act.put, zsP];refine wpAny_take (i := 5) (v := (.slice (some ⟨g, ((i + 1) * 2), none⟩) (p - i) (cap - (i + 1)))) rfl (by kernel_rfl) (by kernel_rfl) (by kernel_rfl) (fun _ _ _ h => h) (Or.inl ⟨by rfl, fun w => by first | rfl | (go_simp; try with_reducible rfl)⟩) ?_;simp only [zgP, Act.put, zsP];refine wpAny_ready (rs := [6]) (by kernel_rfl) (by simp) ?_;refine AllReady.cons rfl (fun K hK => ?_) AllReady.nil;refine wp_append_run _ _ 41 41 rfl _ _ rfl rfl (Hap.out _ _ Hsr.out) ?_;refine hK _ _ ?_;clear hK K;simp only [Act.put, zsP];refine wpAny_ready (rs := [7]) (by kernel_rfl) (by simp) ?_;refine AllReady.cons rfl (fun K hK => ?_) AllReady.nil;go_simp;refine hK _ _ ?_;clear hK K;refine wpAny_done (by kernel_rfl) ?_ _;have hcl := Hcl.out;go_wp2;go_ret;exact ⟨_, rfl, HF.out.1, HF.out.2, rfl⟩
theorem zl5 (base : Nat) (v : Value) (p : Nat) (xs : List Value) (w : World) (h : RowO w base 88 1 v (p + 1) xs) (i : Nat) (hi : i <= p) (h1x : ∀ u ∈ xs, u.oneCell' = true) (hn : p <= 1000) :
  Calls Tryz.prog 196 #[v, .int .i64 i, .int .i64 ((i : Int) + 1)] w fun e w' => ∃ v', e = .returned v' /\ RowO w' base 88 1 v' p (xs.take (i) ++ xs.drop ((i + 1))) /\ w.grownBy w' v.ownBlock /\ v'.ownBlock = v.ownBlock := by
 obtain ⟨i0, hi0, hz0, hz1, hz2⟩ := info_parts zdG;rcases h.2 with ⟨rfl, h0⟩ | ⟨g, cap, cur, rfl, hb, hg, hnc, hcm, hs, htk⟩
 . omega
 have hxl := h.1;rw [Nat.mul_one] at htk hs hxl;have hmx : cap <= 9223372036854775807 := by unfold maxLen at hcm; omega
 have hcur : (p + 1) <= cur.size := znT hnc hs;have hnl : (xs.drop ((i + 1))).length = (p - i) := by rw [List.length_drop, hxl, Nat.add_sub_add_right]
 have hzv : ∀ w, (zeroValue 88).run Tryz.prog w = .ok (.pointer none) w := fun w => by kernel_rfl
 have hsrcs := zcF (xs := xs) (k := 1) (n := p + 1) (w := w.drew) hg (by rw [Nat.mul_one]; exact htk) ((i + 1));have hap := fun (sa : Addr) (sc : Nat) (hsrc : ∀ j u, (xs.drop ((i + 1)))[j]? = some u -> w.drew.cell? (sa.add j) = some u) => run_append_room (P := Tryz.prog) w.drew 127 127 88 i0 Tryz.underlying127 hi0 g i cap cur hg sa (p - i) sc (xs.drop ((i + 1))) (by rw [hz1, Nat.mul_one]; exact hnl) hsrc (fun u hu => h1x u (List.mem_of_mem_drop hu)) (by omega) (by rw [hz1, hnl]; omega);rw [hz1, Nat.mul_one] at hap;obtain ⟨D, hD⟩ : ∃ D, cur.toList.take (i) ++ xs.drop ((i + 1)) ++ cur.toList.drop (i + (xs.drop ((i + 1))).length) = D := ⟨_, rfl⟩;rw [hD, show i + (p - i) = p by omega] at hap;have hlist := fun zs hz => ziM (C := cur.toList) (xs := xs) (zs := zs) (a := i) (k := 1) (p := p) htk (by rw [Array.length_toList]; omega) (by omega) (by rw [hxl]) hz;simp only [hD] at hlist;have hDl : D.length = cur.size := by rw [<- Array.length_toList]; exact (hlist [.nilFunc] rfl).2.2
 have hg1 : (w.drew.setRow g D.toArray).heap[g]? = some (.cells D.toArray 88 (0, 0)) := setRow_heap w.drew g cur _ _ _ hg;obtain ⟨zs, hzl, hcl⟩ := zet (P := Tryz.prog) (w.drew.setRow g D.toArray) 127 88 0 _ 1 Tryz.underlying127 hzv rfl (by intro u hu; simp [Value.cells] at hu; subst hu; rfl) g (p) 1 (cap - p) (by decide) D.toArray hg1 (by rw [List.size_toArray, hDl]; omega);have hl2 := hlist zs (by rw [hzl]);rw [List.toList_toArray, show p + 1 * 1 = p + 1 by omega] at hcl;obtain ⟨E, hE⟩ : ∃ E, D.take (p) ++ zs ++ D.drop (p + 1) = E := ⟨_, rfl⟩;rw [hE] at hcl hl2;have hg2 : ((w.drew.setRow g D.toArray).setRow g E.toArray).heap[g]? = some (.cells E.toArray 88 (0, 0)) := setRow_heap _ g _ _ _ _ hg1;have HF : Hid (RowO ((w.drew.setRow g D.toArray).setRow g E.toArray) base 88 1 (.slice (some ⟨g, 0, none⟩) p cap) p (xs.take (i) ++ xs.drop ((i + 1))) /\ w.grownBy ((w.drew.setRow g D.toArray).setRow g E.toArray) (some g)) := zhI ⟨RowO.mk' (by rw [zlA, List.length_take, hnl, hxl]; omega) hb hg2 (by omega) hcm (by rw [List.size_toArray, hl2.2.1, Array.length_toList, Nat.mul_one]; exact hs) (by rw [List.toList_toArray, Nat.mul_one]; exact hl2.1),
  ((⟨rfl, rfl, rfl, Nat.le_refl _, fun _ _ _ => rfl⟩ : w.grownBy w.drew (some g)).trans (zaF _ g _)).trans (zaF _ g _)⟩
 have Hcl := zhI hcl;have Hap := zhI hap;have Hsr := zhI hsrcs;have Hnl := zhI hnl;have z1 : ((i : Int) == (i : Int) + 1) = false := by simp; omega
 have z2 : ¬ ((i : Int) = (i : Int) + 1) := by omega
 have b0 : i <= p + 1 := by omega
 have b1 : (i : Int) <= (i : Int) + 1 := by omega
 have b2 : (0 : Int) <= (i : Int) + 1 := by omega
 have b3 : (i : Int) + 1 <= (p : Int) + 1 := by omega
 have b4 : p + 1 <= cap := hnc;have tn : ((i : Int) + 1).toNat = i + 1 := by omega
 have b5 : ¬ (cap = p) := by omega
 have b6 : ¬ (cap = i) := by omega
 have b7 : p <= p + 1 := by omega
 have b8 : i + 1 <= p + 1 := by omega
 have b9 : p + 1 - p = 1 := by omega
 have b11 : i <= cap := by omega
 have b12 : ¬ cap < i := by omega
 have b10 : p + 1 - (i + 1) = p - i := by omega
 clear hlist hl2 hD hE hg1 hg2 hcl hap hsrcs hzv h hnl hDl
 by_cases hci : cap = i + 1
 .
  have hpi : p - i = 0 := by omega
  have hsrc0 : ∀ j u, (xs.drop ((i + 1)))[j]? = some u -> w.drew.cell? ((⟨g, 0, none⟩ : Addr).add j) = some u := fun j u hj => by have := (List.getElem?_eq_some_iff.1 hj).1;rw [Hnl.out] at this;omega
  subst hci;go_enter Tryz.func196, Tryz.ntmps196;go_wp2;refine zah #[false, false, false, false, false, false, false, false] 8 (by kernel_rfl) (by rfl) rfl ?_;refine wpAny_take (i := 0) (v := (.slice (some ⟨g, 0, none⟩) (p + 1) (i + 1))) rfl (by kernel_rfl) (by kernel_rfl) (by kernel_rfl) (fun _ _ _ h => h) (Or.inl ⟨by rfl, fun w => by first | rfl | (go_simp; try with_reducible rfl)⟩) ?_;simp only [List.getElem_toArray, List.getElem_cons_zero, Act.put, zsP];refine wpAny_take (i := 1) (v := (.int .i64 i)) rfl (by kernel_rfl) (by kernel_rfl) (by kernel_rfl) (fun _ _ _ h => h) (Or.inl ⟨by rfl, fun w => by first | rfl | (go_simp; try with_reducible rfl)⟩) ?_;simp only [zgP, Act.put, zsP];refine wpAny_take (i := 2) (v := (.slice (some ⟨g, 0, none⟩) i (i + 1))) rfl (by kernel_rfl) (by kernel_rfl) (by kernel_rfl) (fun _ _ _ h => h) (Or.inl ⟨by rfl, fun w => by first | rfl | (go_simp; try with_reducible rfl)⟩) ?_;simp only [zgP, Act.put, zsP];refine wpAny_take (i := 3) (v := (.slice (some ⟨g, 0, none⟩) (p + 1) (i + 1))) rfl (by kernel_rfl) (by kernel_rfl) (by kernel_rfl) (fun _ _ _ h => h) (Or.inl ⟨by rfl, fun w => by first | rfl | (go_simp; try with_reducible rfl)⟩) ?_;simp only [zgP, Act.put, zsP];refine wpAny_take (i := 4) (v := (.int .i64 ((i : Int) + 1))) rfl (by kernel_rfl) (by kernel_rfl) (by kernel_rfl) (fun _ _ _ h => h) (Or.inl ⟨by rfl, fun w => by first | rfl | (go_simp; try with_reducible rfl)⟩) ?_;simp only [zgP, Act.put, zsP];refine wpAny_take (i := 5) (v := (.slice (some ⟨g, 0, none⟩) (p - i) ((i + 1) - (i + 1)))) rfl (by kernel_rfl) (by kernel_rfl) (by kernel_rfl) (fun _ _ _ h => h) (Or.inl ⟨by rfl, fun w => by first | rfl | (go_simp; try with_reducible rfl)⟩) ?_;simp only [zgP, Act.put, zsP];refine wpAny_ready (rs := [6]) (by kernel_rfl) (by simp) ?_;refine AllReady.cons rfl (fun K hK => ?_) AllReady.nil;refine wp_append_run _ _ 127 127 rfl _ _ rfl rfl (Hap.out _ _ hsrc0) ?_;refine hK _ _ ?_;clear hK K;simp only [Act.put, zsP];refine wpAny_ready (rs := [7]) (by kernel_rfl) (by simp) ?_;refine AllReady.cons rfl (fun K hK => ?_) AllReady.nil;go_simp;refine hK _ _ ?_;clear hK K;refine wpAny_done (by kernel_rfl) ?_ _;have hcl := Hcl.out;go_wp2;go_ret;exact ⟨_, rfl, HF.out.1, HF.out.2, rfl⟩
 . go_enter Tryz.func196, Tryz.ntmps196;go_wp2;refine zah #[false, false, false, false, false, false, false, false] 8 (by kernel_rfl) (by rfl) rfl ?_;refine wpAny_take (i := 0) (v := (.slice (some ⟨g, 0, none⟩) (p + 1) cap)) rfl (by kernel_rfl) (by kernel_rfl) (by kernel_rfl) (fun _ _ _ h => h) (Or.inl ⟨by rfl, fun w => by first | rfl | (go_simp; try with_reducible rfl)⟩) ?_;simp only [List.getElem_toArray, List.getElem_cons_zero, Act.put, zsP];refine wpAny_take (i := 1) (v := (.int .i64 i)) rfl (by kernel_rfl) (by kernel_rfl) (by kernel_rfl) (fun _ _ _ h => h) (Or.inl ⟨by rfl, fun w => by first | rfl | (go_simp; try with_reducible rfl)⟩) ?_;simp only [zgP, Act.put, zsP];refine wpAny_take (i := 2) (v := (.slice (some ⟨g, 0, none⟩) i cap)) rfl (by kernel_rfl) (by kernel_rfl) (by kernel_rfl) (fun _ _ _ h => h) (Or.inl ⟨by rfl, fun w => by first | rfl | (go_simp; try with_reducible rfl)⟩) ?_;simp only [zgP, Act.put, zsP];refine wpAny_take (i := 3) (v := (.slice (some ⟨g, 0, none⟩) (p + 1) cap)) rfl (by kernel_rfl) (by kernel_rfl) (by kernel_rfl) (fun _ _ _ h => h) (Or.inl ⟨by rfl, fun w => by first | rfl | (go_simp; try with_reducible rfl)⟩) ?_;simp only [zgP, Act.put, zsP];refine wpAny_take (i := 4) (v := (.int .i64 ((i : Int) + 1))) rfl (by kernel_rfl) (by kernel_rfl) (by kernel_rfl) (fun _ _ _ h => h) (Or.inl ⟨by rfl, fun w => by first | rfl | (go_simp; try with_reducible rfl)⟩) ?_;simp only [zgP, Act.put, zsP];refine wpAny_take (i := 5) (v := (.slice (some ⟨g, (i + 1), none⟩) (p - i) (cap - (i + 1)))) rfl (by kernel_rfl) (by kernel_rfl) (by kernel_rfl) (fun _ _ _ h => h) (Or.inl ⟨by rfl, fun w => by first | rfl | (go_simp; try with_reducible rfl)⟩) ?_;simp only [zgP, Act.put, zsP];refine wpAny_ready (rs := [6]) (by kernel_rfl) (by simp) ?_;refine AllReady.cons rfl (fun K hK => ?_) AllReady.nil;refine wp_append_run _ _ 127 127 rfl _ _ rfl rfl (Hap.out _ _ Hsr.out) ?_;refine hK _ _ ?_;clear hK K;simp only [Act.put, zsP];refine wpAny_ready (rs := [7]) (by kernel_rfl) (by simp) ?_;refine AllReady.cons rfl (fun K hK => ?_) AllReady.nil;go_simp;refine hK _ _ ?_;clear hK K;refine wpAny_done (by kernel_rfl) ?_ _;have hcl := Hcl.out;go_wp2;go_ret;exact ⟨_, rfl, HF.out.1, HF.out.2, rfl⟩
end Go.Proofs.YtlefmmhlpgmbjaaGreat
namespace Go.Proofs.YtlefmmhlpgmbjaaGreat
set_option maxRecDepth 100000
open Go.RowKit
mutual
def Nd.er : Nd -> Nd
 | .mk ps ks _ => .mk ps (Nd.erL ks) 0
def Nd.erL : List Nd -> List Nd
 | [] => []
 | k :: ks => k.er :: Nd.erL ks
end
theorem Nd.erL_eq (l : List Nd) : Nd.erL l = l.map Nd.er := by
 induction l with
 | nil => rfl
 | cons x l ih => rw [Nd.erL, ih]; rfl
theorem Nd.er_eq (n : Nd) : n.er = .mk n.ps (n.kids.map Nd.er) 0 := by cases n; rw [Nd.er, Nd.erL_eq]; rfl
theorem Nd.er_ps (n : Nd) : n.er.ps = n.ps := by rw [Nd.er_eq]; rfl
theorem Nd.er_kids (n : Nd) : n.er.kids = n.kids.map Nd.er := by rw [Nd.er_eq]; rfl
theorem Nd.er_least : ∀ n : Nd, n.er.least = n.least := by
 intro n
 induction n using Nd.ind with
 | h ps kids page ih =>
  cases kids with
  | nil => rw [Nd.er_eq]; rfl
  | cons k ks => rw [Nd.er_eq, Nd.least]; exact ih k (by simp)
theorem Nd.er_prs : ∀ n : Nd, n.er.prs = n.prs := by
 intro n
 induction n using Nd.ind with
 | h ps kids page ih =>
  by_cases h : kids = []
  . subst h; rfl
  . rw [Nd.prs_inner (n := .mk ps kids page) h, Nd.prs_inner (n := Nd.er (.mk ps kids page)) (by rw [Nd.er_kids]; intro e; exact h (List.map_eq_nil_iff.1 e)), Nd.er_kids, List.map_map];congr 1;exact List.map_congr_left fun k hk => ih k hk
theorem zhb (l : List Nd) (key : ByteArray) : zav (l.map Nd.er) key = zav l key := by
 unfold zav;rw [<- List.map_tail, List.takeWhile_map, List.length_map];have : ((fun k : Nd => !kLt key k.least) ∘ Nd.er) = fun k : Nd => !kLt key k.least := by funext k; simp [Nd.er_least]
 rw [this]
theorem zdx {x : Kv} {n : Nd} (h : n.kids = []) : insN x n = splitN (lfN (withP n.ps x)) := by rw [insN, if_pos h]
theorem zie {x : Kv} {n : Nd} (h : n.kids ≠ []) : insN x n = splitN (inN (n.kids.take (zav n.kids x.1) ++ (insN x (n.kids[zav n.kids x.1]'(zaG _ h))).1 :: (insN x (n.kids[zav n.kids x.1]'(zaG _ h))).2.toList ++ n.kids.drop (zav n.kids x.1 + 1))) := by
 rw [insN, if_neg h];split
 . rename_i hc; have := zaG x.1 h; rw [List.getElem?_eq_none_iff] at hc; omega
 .
  rename_i c hc
  obtain ⟨hi, rfl⟩ := List.getElem?_eq_some_iff.1 hc;rfl
theorem zik {ps : List Kv} (x : Kv) (h : Asc ps) : withP ps x = if findB ps x.1 then ps.set (findI ps x.1) x else ps.take (findI ps x.1) ++ x :: ps.drop (findI ps x.1) := by
 induction ps with
 | nil => rfl
 | cons p l ih =>
  obtain ⟨h1, h2⟩ := List.pairwise_cons.1 h;have ih' := ih h2;unfold withP at ih' |-;unfold findB findI at ih' |-
  by_cases hp : kLt p.1 x.1 = true
  . simp only [List.takeWhile_cons, hp, if_true, List.dropWhile_cons, zlC, List.getElem?_cons_succ, List.set_cons_succ, List.take_succ_cons, List.drop_succ_cons, List.cons_append] at ih' |-;rw [ih'];split <;> rfl
  .
   have hp' : kLt p.1 x.1 = false := by simpa using hp
   simp only [List.takeWhile_cons, hp', List.dropWhile_cons, List.length_nil, List.getElem?_cons_zero, List.nil_append, Option.map_some, Option.some.injEq, List.take_zero, List.drop_zero, List.set_cons_zero, Bool.false_eq_true, if_false]
   by_cases hk : p.1 = x.1
   .
    simp only [hk, decide_true, if_true];have : l.dropWhile (fun q => decide (q.1 = x.1)) = l := by
     cases l with
     | nil => rfl
     | cons q r => have := zcd (h1 q (by simp));rw [List.dropWhile_cons, if_neg];simp only [decide_eq_true_eq];rw [<- hk];exact fun e => this e.symm
    rw [this]
   . simp [hk]
structure Mut (base : Nat) (w w' : World) (t t' : AT) : Prop where
 b : t'.b = t.b
 lies : Lies base w' t'
 nodup : t'.fp.Nodup
 fp : ∀ x ∈ t'.fp, x ∈ t.fp \/ w.heap.size <= x
 keep : KeepB t.fp w w'
theorem Lies.keepB {base : Nat} {L : List Nat} {W A : World} {t : AT} (h : Lies base W t) (hk : KeepB L W A) (hd : ∀ x ∈ t.fp, x ∉ L) : Lies base A t :=
 h.same fun x hx => hk.2.2.2.2 x (h.lt x hx).2 (hd x hx)
end Go.Proofs.YtlefmmhlpgmbjaaGreat
