/- mend: a child that is poor is helped by its neighbour. (*node).remove, whole: by induction over the tree. remove at the root. -/
import Derived.Test.YtlefmmhlpgmbjaaGreatS17
import Derived.Test.YtlefmmhlpgmbjaaGreatS18
import Derived.Test.YtlefmmhlpgmbjaaGreatS01
namespace Go.Proofs.YtlefmmhlpgmbjaaGreat
set_option maxRecDepth 100000
open Go.RowKit Go.Shelf
set_option maxHeartbeats 2000000 in
theorem Nd.er_size (n : Nd) : n.er.size = n.size := by unfold Nd.size; rw [Nd.er_ps, Nd.er_kids, List.length_map]
theorem Nd.er_rich (n : Nd) : n.er.rich = n.rich := by unfold Nd.rich; simp only [Nd.er_ps, Nd.er_kids, List.length_map, List.map_eq_nil_iff]
theorem Nd.er_small (n : Nd) : n.er.small = n.small := by unfold Nd.small; simp only [Nd.er_ps, Nd.er_kids, List.length_map, List.map_eq_nil_iff]
theorem zmN (a b : Nd) (left : Bool) (K : Nat) (hK : (if left then a.size - 1 else a.size + 1) = K) : twoN a b left = if (if left then a else b).rich then [(cutN (joinN a b) K).1, (cutN (joinN a b) K).2] else [joinN a b] := by
 unfold twoN;cases left
 . simp only [Bool.false_eq_true, if_false] at hK |-; rw [hK]
 . simp only [if_true] at hK |-; rw [hK]
theorem Tm.pair_facts {a b : AT} {h p q r s : Nat} (ta : Tm p q h a.nd) (tb : Tm r s h b.nd) : a.kids.isEmpty = b.kids.isEmpty /\ (a.kids ≠ [] -> a.ps = [] /\ b.ps = []) /\ a.ps.length <= 3 /\ b.ps.length <= 3 /\ a.kids.length <= 8 /\ b.kids.length <= 8 := by
 cases h with
 | zero => obtain ⟨ka, a1, a3, -⟩ := ta.lf';obtain ⟨kb, b1, b3, -⟩ := tb.lf';rw [AT.nd_kids, List.map_eq_nil_iff] at ka kb;rw [AT.nd_ps] at a3 b3;rw [ka, kb];exact ⟨rfl, fun h => absurd rfl h, a3, b3, by simp, by simp⟩
 | succ h =>
  obtain ⟨pa, ka, a1, a3, -⟩ := ta.inn';obtain ⟨pb, kb, b1, b3, -⟩ := tb.inn';rw [AT.nd_kids] at ka kb a3 b3;rw [AT.nd_ps] at pa pb;rw [List.length_map] at a3 b3;have ka' : a.kids ≠ [] := by simpa using ka
  have kb' : b.kids ≠ [] := by simpa using kb
  rw [pa, pb];refine ⟨?_, fun _ => ⟨rfl, rfl⟩, by simp, by simp, a3, b3⟩;cases hka : a.kids with
  | nil => exact absurd hka ka'
  | cons => cases hkb : b.kids with
   | nil => exact absurd hkb kb'
   | cons => rfl
def MendR (base b : Nat) (pv kv : Value) (page : Int) (l1 l2 : List AT) (ka kb : AT) (left : Bool) (w : World) (e : Ending) (w' : World) : Prop :=
 e = .returned (.tuple #[]) /\ ∃ kv' kids', Mut base w w' (.mk b pv kv [] (l1 ++ ([ka, kb] ++ l2)) page) (.mk b pv kv' [] kids' page) /\ kids'.map (fun s => s.nd.er) = l1.map (fun s => s.nd.er) ++ (twoN ka.nd.er kb.nd.er left ++ l2.map (fun s => s.nd.er))
theorem zk3 {l1 l2 : List AT} {ka kb x : AT} {r : Nat} (hx : x.b = ka.b) (hr : r = l1.length + 1) : (l1 ++ ([x] ++ l2)).map AT.ptr = ((l1 ++ ([ka, kb] ++ l2)).map AT.ptr).take r ++ ((l1 ++ ([ka, kb] ++ l2)).map AT.ptr).drop (r + 1) := by
 have e : (l1 ++ ([ka, kb] ++ l2)).map AT.ptr = (l1 ++ [ka]).map AT.ptr ++ kb.ptr :: l2.map AT.ptr := by simp
 have hl : ((l1 ++ [ka]).map AT.ptr).length = r := by simp [hr]
 rw [e, List.take_left' hl, ziq (by rw [hl])];simp [AT.ptr, hx]
theorem zmd {l1 l2 : List AT} {ka kb c x : AT} {r : Nat} (hx : c.b = ka.b) (hr : r = l1.length + 1) : (l1 ++ ([c, x] ++ l2)).map AT.ptr = ((l1 ++ ([ka, kb] ++ l2)).map AT.ptr).set r x.ptr := by
 have e : (l1 ++ ([ka, kb] ++ l2)).map AT.ptr = (l1 ++ [ka]).map AT.ptr ++ kb.ptr :: l2.map AT.ptr := by simp
 have hl : ((l1 ++ [ka]).map AT.ptr).length = r := by simp [hr]
 rw [e, List.set_append_right _ _ (by rw [hl]; exact Nat.le_refl _), hl, Nat.sub_self, List.set_cons_zero];simp [AT.ptr, hx]
theorem ziK {base b : Nat} {pv kv kv' : Value} {page : Int} {l1 l2 X kids : List AT} {ka kb : AT} {w W : World} (hkids : l1 ++ ([ka, kb] ++ l2) = kids) (hnd : (AT.mk b pv kv [] kids page).fp.Nodup) (hlt : ∀ y ∈ (AT.mk b pv kv [] kids page).fp, base <= y /\ y < w.heap.size) (hb : base <= b) (hX0 : X ≠ [])
  (hx : Bx W b (nodeC false pv kv' page) 129) (hp : RowO W base 77 2 pv 0 []) (hk : RowO W base 88 1 kv' (l1 ++ (X ++ l2)).length ((l1 ++ (X ++ l2)).map AT.ptr)) (ho : ∀ s ∈ l1 ++ l2, Lies base W s) (hX : ∀ s ∈ X, Lies base W s)
  (hXn : (AT.fpL X).Nodup) (hXs : ∀ y ∈ AT.fpL X, y ∈ ka.fp ++ kb.fp \/ w.heap.size <= y) (hv : kv'.ownBlock = kv.ownBlock) (hK : KeepB (AT.mk b pv kv [] kids page).fp w W) :
  Mut base w W (.mk b pv kv [] kids page) (.mk b pv kv' [] (l1 ++ (X ++ l2)) page) := by
 subst hkids;have hnd0 := hnd;rw [AT.fp] at hnd0;obtain ⟨⟨n1, n2, n3⟩, -, -⟩ := zaZ.1 hnd0;have hkk : AT.fpL [ka, kb] = ka.fp ++ kb.fp := by simp only [AT.fpL, List.append_nil]
 have hD4 : ∀ y ∈ AT.fpL (l1 ++ ([ka, kb] ++ l2)), y < w.heap.size := fun y hy => (hlt y (by rw [AT.fp]; exact List.mem_cons_of_mem _ (List.mem_append_right _ (List.mem_append_right _ hy)))).2;have hsw := zjV (M := [ka, kb]) (X := X) n3 hD4 hXn (by rw [hkk]; exact hXs);exact zco hnd (fun y hy => (hlt y hy).2) hb (by simp [hX0]) hx hp hk (fun s hs => by
  rcases zmA.1 hs with h | h
  . exact ho s (List.mem_append_left _ h)
  .
   rcases zmA.1 h with h | h
   . exact hX s h
   . exact ho s (List.mem_append_right _ h)) (.inl hv) hsw.1 hsw.2 hK
set_option maxRecDepth 100000 in
set_option maxHeartbeats 4000000 in
theorem zkP (base b : Nat) (pv kv : Value) (page : Int) (l1 l2 : List AT) (ka kb : AT) (left : Bool) (i : Nat) (w : World) (h : Lies base w (.mk b pv kv [] (l1 ++ ([ka, kb] ++ l2)) page)) (hnd : (AT.mk b pv kv [] (l1 ++ ([ka, kb] ++ l2)) page).fp.Nodup)
  (hi : i = if left then l1.length + 1 else 0) (hl0 : left = false -> l1.length = 0) (hlen : (l1 ++ ([ka, kb] ++ l2)).length <= 8) (H : Nat) (ta : Tm (if left then 2 else 1) (if left then 4 else 3) H ka.nd) (tb : Tm (if left then 1 else 2) (if left then 3 else 4) H kb.nd) (hbw : base <= w.heap.size) :
  Calls Tryz.prog 167 #[.pointer (some ⟨b, 0, none⟩), .int .i64 i] w (MendR base b pv kv page l1 l2 ka kb left w) := by
 obtain ⟨R, hR⟩ : ∃ R, MendR base b pv kv page l1 l2 ka kb left w = R := ⟨_, rfl⟩;rw [hR];have HR := zhI hR;obtain ⟨kids, hkids⟩ : ∃ k, l1 ++ ([ka, kb] ++ l2) = k := ⟨_, rfl⟩;rw [hkids] at h hnd hlen;have hx := h.hx;have hp := h.hp;have hk := h.hk;have hc := h.hc;have hbb := h.hb;simp only [AT.b, AT.pv, AT.kv, AT.ps, AT.kids, AT.page] at hx hp hk hc hbb;obtain ⟨L, hL⟩ : ∃ L, l1.length = L := ⟨_, rfl⟩;have hkl : kids.length = L + 2 + l2.length := by rw [<- hkids]; simp; omega
 have hka : kids[L]? = some ka := by rw [<- hkids, List.getElem?_append_right (by omega), hL, Nat.sub_self]; rfl
 have hkb : kids[L + 1]? = some kb := by rw [<- hkids, List.getElem?_append_right (by omega), hL, Nat.add_sub_cancel_left]; rfl
 have hLn : L < kids.length := by omega
 have hLn1 : L + 1 < kids.length := by omega
 rw [List.getElem?_eq_getElem hLn] at hka;rw [List.getElem?_eq_getElem hLn1] at hkb;have hem : kids.isEmpty = false := by cases kids with
  | nil => simp at hLn
  | cons => rfl
 rw [hem] at hx;obtain ⟨g, c, e1, c0, hle, hg⟩ := zaY hk hLn;obtain ⟨g', c', e2, c1, -, -⟩ := zaY hk hLn1;rw [e1] at e2;obtain ⟨rfl, rfl⟩ : g = g' /\ c = c' := by simpa using e2
 subst e1;rw [Option.some.inj hka] at c0;rw [Option.some.inj hkb] at c1;unfold AT.ptr at c0 c1;have hgl := (hk.lt g hg).2;have hkam : ka ∈ kids := by rw [<- hkids]; simp
 have hkbm : kb ∈ kids := by rw [<- hkids]; simp
 obtain ⟨s1, s2, s3, s4, s5, s6⟩ := ta.pair_facts tb;obtain ⟨K, hK⟩ : ∃ K, (if left then ka.nd.size - 1 else ka.nd.size + 1) = K := ⟨_, rfl⟩;obtain ⟨Sz, hSz⟩ : ∃ S, ka.nd.size = S := ⟨_, rfl⟩;have hsz : Sz = ka.ps.length + ka.kids.length := by rw [<- hSz]; unfold Nd.size; rw [AT.nd_ps, AT.nd_kids, List.length_map]
 have hsz0 : left = true -> 1 <= Sz := fun hl => by
  subst hl;simp only [if_true] at ta;rw [hsz];cases H with
  | zero => have := ta.lf'.2.1; rw [AT.nd_ps] at this; omega
  | succ H => have := ta.inn'.2.2.1; rw [AT.nd_kids, List.length_map] at this; omega
 rw [hSz] at hK;have htwo := zmN ka.nd.er kb.nd.er left K (by rw [Nd.er_size, hSz]; exact hK);obtain ⟨rich, hrich⟩ : ∃ r, (if left then ka.nd.rich else kb.nd.rich) = r := ⟨_, rfl⟩;have hrich' : (if left then ka.nd.er else kb.nd.er).rich = rich := by rw [<- hrich]; cases left <;> simp [Nd.er_rich]
 rw [hrich', zlT] at htwo;have hnd0 := hnd;rw [AT.fp] at hnd0;obtain ⟨⟨n1, n2, n3⟩, ⟨m1, m2, m3⟩, d1, d2, d3⟩ := zaZ.1 hnd0;have hfk : AT.fpL kids = AT.fpL l1 ++ (ka.fp ++ (kb.fp ++ AT.fpL l2)) := by rw [<- hkids]; simp only [zaQ, AT.fpL, List.append_nil, List.append_assoc]
 have hsub : ∀ y ∈ ka.fp ++ kb.fp, y ∈ AT.fpL kids := fun y hy => by rw [hfk]; simp only [zmA] at hy |-; rcases hy with h | h <;> simp [h]
 have n3' := n3;rw [hfk] at n3';have q1 := List.nodup_append.1 n3';have q2 := List.nodup_append.1 q1.2.1;have q3 := List.nodup_append.1 q2.2.1;have D1 : (ka.fp ++ kb.fp).Nodup := List.nodup_append.2 ⟨q2.1, q3.1, fun x hx y hy => q2.2.2 x hx y (List.mem_append_left _ hy)⟩;have D2 : ∀ s ∈ l1 ++ l2, ∀ y ∈ s.fp, y ∉ ka.fp ++ kb.fp := fun s hs y hy hm => by
  rcases zmA.1 hs with h | h
  . exact q1.2.2 y (AT.mem_fpL.2 ⟨s, h, hy⟩) y (by simp only [zmA] at hm |-; rcases hm with h | h <;> simp [h]) rfl
  .
   have hyl : y ∈ AT.fpL l2 := AT.mem_fpL.2 ⟨s, h, hy⟩;rcases zmA.1 hm with h | h
   . exact q2.2.2 y h y (List.mem_append_right _ hyl) rfl
   . exact q3.2.2 y h y hyl rfl
 have D3 : ∀ y, (y = b \/ y ∈ pv.ownBlock.toList \/ y = g) -> y ∉ ka.fp ++ kb.fp := fun y hy hm => by
  have hyL := hsub y hm;rcases hy with h | h | h
  . exact m3 (by rw [<- h]; exact hyL)
  . exact d2 y h hyL
  . exact d3 y (by rw [h]; simp [Value.ownBlock]) hyL
 have D4 : ∀ y ∈ AT.fpL kids, y ∈ (AT.mk b pv (.slice (some ⟨g, 0, none⟩) kids.length c) [] kids page).fp := fun y hy => by rw [AT.fp]; exact List.mem_cons_of_mem _ (List.mem_append_right _ (List.mem_append_right _ hy))
 have D5 : ka.b ∈ ka.fp ++ kb.fp := by rw [ka.fp_parts]; simp
 have D6 : g ≠ b := fun e => m2 (by rw [e]; simp [Value.ownBlock]);have D7 : b ∉ pv.ownBlock.toList := m1;have D8 : g ∉ pv.ownBlock.toList := fun hm => d1 g hm (by simp [Value.ownBlock]);have HD := zhI (zaI D1 (zaI D2 (zaI D3 (zaI D4 (zaI D5 (zaI D6 (zaI D7 (zaI D8 (zaI hsub n3)))))))));clear hnd0 n1 n2 n3 m1 m2 m3 d1 d2 d3 hfk n3' q1 q2 q3 D1 D2 D3 D4 D5 D6 D7 D8 hsub;have HX := zhI (zaI hx (zaI hp (zaI hk hc)));have HN := zhI (zaI hnd (zaI h.lt (zaI hbb hbw)));have HS := zhI (zaI s1 (zaI s2 (zaI (zaI s3 (zaI s4 (zaI s5 s6))) (zaI ta tb))));have HK := zhI (zaI hkids (zaI hL (zaI hkl (zaI hkam hkbm))));have Htwo := zhI htwo;have Hsz := zhI (zaI hSz (zaI hsz hrich));obtain ⟨n, hn⟩ : ∃ n, kids.length = n := ⟨_, rfl⟩;have Hn := zhI hn;have cX := hx.cell;have lX := hx.lt;unfold nodeC at cX;rw [hn] at cX hlen hLn hLn1 hle;have Hsize : Hid (∀ W, Below w.heap.size w W -> Calls Tryz.prog 192 #[.pointer (some ⟨ka.b, 0, none⟩)] W fun e w' => e = .returned (.int .i64 Sz) /\ Below W.heap.size W w') := zhI fun W hb => by have := zmY base ka W ((hc ka hkam).staysAll hb) (by omega) (by omega);rw [hSz] at this;exact this
 have Hrich : Hid (∀ W, Below w.heap.size w W -> Calls Tryz.prog 193 #[.pointer (some ⟨if left then ka.b else kb.b, 0, none⟩)] W fun e w' => e = .returned (.bool rich) /\ w' = W) := zhI fun W hb => by
  cases left with
  | true => have := zkm base ka W ((hc ka hkam).staysAll hb); rw [<- hrich]; exact this
  | false => have := zkm base kb W ((hc kb hkbm).staysAll hb); rw [<- hrich]; exact this
 obtain ⟨Rr, hRr⟩ : ∃ r, L + 1 = r := ⟨_, rfl⟩;rw [hRr] at c1 hLn1;have hRL : Rr = L + 1 := hRr.symm;have Hk : Hid (K <= 12 /\ Sz <= 11) := zhI ⟨by rw [<- hK, hsz]; split <;> omega, by omega⟩
 have HRL := zhI hRL;clear hR h hnd hx hp hk hc hbb hbw hkids hL hkl hka hkb hem hg e2 hkam hkbm s1 s2 s3 s4 s5 s6 hSz hsz htwo hrich hrich' hn hRr hRL ta tb;have hl2 : (left = true -> i = Rr /\ 1 <= Sz /\ K = Sz - 1) /\ (left = false -> i = 0 /\ L = 0 /\ K = Sz + 1) := ⟨fun e => ⟨by rw [hi, e, HRL.out, HK.out.2.1]; rfl, hsz0 e, by rw [<- hK, e]; rfl⟩, fun e => ⟨by rw [hi, e]; rfl, by rw [<- HK.out.2.1]; exact hl0 e, by rw [<- hK, e]; rfl⟩⟩;clear hi hl0 hK hsz0;obtain ⟨hlt, hlf⟩ := hl2;have hcat : ∀ W, Below w.heap.size w W -> Calls Tryz.prog 194 #[.pointer (some ⟨ka.b, 0, none⟩), .pointer (some ⟨kb.b, 0, none⟩)] W fun e w' => e = .returned (.tuple #[]) /\ ∃ v1 v2, Lies base w' (.mk ka.b v1 v2 (ka.ps ++ kb.ps) (ka.kids ++ kb.kids) ka.page) /\ (AT.mk ka.b v1 v2 (ka.ps ++ kb.ps) (ka.kids ++ kb.kids) ka.page).fp.Nodup /\
   (∀ y ∈ (AT.mk ka.b v1 v2 (ka.ps ++ kb.ps) (ka.kids ++ kb.kids) ka.page).fp, y ∈ ka.fp ++ kb.fp \/ w.heap.size <= y) /\ KeepB [ka.b] W w' := fun W hb => by
  obtain ⟨-, -, -, hc⟩ := HX.out;obtain ⟨-, -, -, hkam, hkbm⟩ := HK.out;obtain ⟨s1, s2, ⟨s3, s4, s5, s6⟩, -, -⟩ := HS.out;have hz := hb.size;refine (zlU base ka kb W ((hc ka hkam).staysAll hb) ((hc kb hkbm).staysAll hb) HD.out.1 s1 ⟨by omega, by omega, by omega, by omega⟩ (znT HN.out.2.2.2 hz)).mono ?_;rintro e w' ⟨rfl, v1, v2, q1, q2, q3, q4⟩;exact ⟨rfl, v1, v2, q1, q2, fun y hy => (q3 y hy).imp id fun h => znT hz h, q4⟩
 have Hcat := zhI hcat;clear hcat;cases left
 case' true =>
  obtain ⟨e, h1, hK⟩ := hlt rfl;obtain rfl : Rr = i := e.symm;clear hlt hlf;simp only [if_true] at Hrich;go_enter Tryz.func167, Tryz.ntmps167;go_upto_region 1 with fail
  have hiL := HRL.out;rw [show max ((Rr : Int) - 1) 0 = (L : Int) by omega, show max (Rr : Int) 1 = (Rr : Int) by omega];have hneq : ¬ Rr = L := by omega
  have hkk := Hk.out
 case' false =>
  obtain ⟨rfl, h1, hK⟩ := hlf rfl;clear hlt hlf;simp only [Bool.false_eq_true, if_false] at Hrich;go_enter Tryz.func167, Tryz.ntmps167;go_upto_region 1 with fail
  have hiL := HRL.out;rw [show ((0 : Nat) : Int) = (L : Int) by omega, show max (-1 : Int) 0 = (L : Int) by omega, show max (0 : Int) 1 = (Rr : Int) by omega];have hkk := Hk.out
 all_goals
  have HKb : Hid ((ka.kids ++ kb.kids ≠ [] -> ka.ps ++ kb.ps = []) /\ ((ka.ps ++ kb.ps).length <= 1000 /\ (ka.kids ++ kb.kids).length <= 1000) /\ (rich = true -> 0 < K /\ ((ka.kids ++ kb.kids = [] -> K < (ka.ps ++ kb.ps).length) /\ (ka.kids ++ kb.kids ≠ [] -> K < (ka.kids ++ kb.kids).length)))) := zhI (by
   obtain ⟨s1, s2, ⟨s3, s4, s5, s6⟩, -, -⟩ := HS.out;obtain ⟨-, hsz, hrich⟩ := Hsz.out;have hne : ka.kids ++ kb.kids ≠ [] -> ka.kids ≠ [] /\ kb.kids ≠ [] := fun h => by
    cases hka : ka.kids with
    | nil => rw [hka] at s1 h; simp only [List.isEmpty_nil, List.nil_append] at s1 h; exact absurd (List.isEmpty_iff.1 s1.symm) h
    | cons x l => cases hkb : kb.kids with
     | nil => rw [hka, hkb] at s1; cases s1
     | cons y m => exact ⟨by simp, by simp⟩
   refine ⟨fun h => by obtain ⟨h1, h2⟩ := s2 (hne h).1; rw [h1, h2]; rfl, ⟨by rw [zlA]; omega, by rw [zlA]; omega⟩, fun hr => ?_⟩;rw [hr] at hrich;simp only [if_true, Bool.false_eq_true, if_false] at hrich;unfold Nd.rich at hrich;rw [AT.nd_kids, AT.nd_ps, List.length_map] at hrich;simp only [zlA]
   by_cases he : ka.kids ++ kb.kids = []
   . obtain ⟨e1, e2⟩ := List.append_eq_nil_iff.1 he;rw [if_pos (by simp [e1, e2])] at hrich;have := of_decide_eq_true hrich;rw [e1] at hsz;simp only [List.length_nil, Nat.add_zero] at hsz;refine ⟨by omega, fun _ => by omega, fun h => absurd he h⟩
   . obtain ⟨e1, e2⟩ := hne he;rw [if_neg (by simp [e1, e2])] at hrich;have := of_decide_eq_true hrich;have h0 := (s2 e1).1;rw [h0] at hsz;simp only [List.length_nil, Nat.zero_add] at hsz;refine ⟨by omega, fun h => absurd h he, fun _ => by omega⟩)
 case' true =>
  have eK : wrap64 ((Sz : Int) - 1) = (K : Int) := by rw [IntWalk.wrap64_in _ (by omega)]; omega
  have HhK := zhI (zaI h1 (zaI hK eK));clear hiL h1 hK eK hkk;have cQ := Lat.cells w;refine zay (by kernel_rfl) (by kernel_rfl) ?_
  repeat (any_goals (first | go_big_quiet_skip | (go_big_quiet_want; go_big_quiet_op; first | go_big_quiet_on | go_big_quiet_call ((fail))) | quiet_step ((fail))))
  refine wpQuiet_nil ?_;rintro W1 ⟨⟨_, hb1⟩, rfl⟩;clear cQ;go_wp2_with fail;refine (Hsize.out _ hb1).mono ?_;rintro e W2 ⟨rfl, hb2⟩;have hB2 := btr hb1 hb2;clear hb1 hb2
 case' false =>
  have eK : wrap64 ((Sz : Int) + 1) = (K : Int) := by rw [IntWalk.wrap64_in _ (by omega)]; omega
  have HhK := zhI (zaI h1 (zaI hK eK));clear hiL h1 hK eK hkk;have cQ := Lat.cells w;refine zay (by kernel_rfl) (by kernel_rfl) ?_
  repeat (any_goals (first | go_big_quiet_skip | (go_big_quiet_want; go_big_quiet_op; first | go_big_quiet_on | go_big_quiet_call ((fail))) | quiet_step ((fail))))
  refine wpQuiet_nil ?_;rintro W1 ⟨⟨_, hb1⟩, rfl⟩;clear cQ;go_wp2_with fail;refine (Hsize.out _ hb1).mono ?_;rintro e W2 ⟨rfl, hb2⟩;have hB2 := btr hb1 hb2;clear hb1 hb2;go_wp2_with fail;refine (Hsize.out _ hB2).mono ?_;rintro e W3 ⟨rfl, hb3⟩;have hB2 := btr hB2 hb3;clear hb3
 all_goals
  go_wp2_with fail;rw [HhK.out.2.2];refine (Hrich.out _ hB2).mono ?_;rintro e W3 ⟨rfl, rfl⟩;go_wp2_with fail;refine (Hcat.out _ hB2).mono ?_;rintro e W4 ⟨rfl, v1, v2, hA, hAn, hAf, hAk⟩;obtain ⟨D1, D2, D3, D4, D5, D6, D7, D8, hsub, n3⟩ := HD.out;obtain ⟨hx, hp, hk, hc⟩ := HX.out;obtain ⟨hkids, hL, hkl, hkam, hkbm⟩ := HK.out;have hbn : b ∉ [ka.b] := fun h => D3 b (.inl rfl) (by rw [zmS.1 h]; exact D5);have hgn : g ∉ [ka.b] := fun h => D3 g (.inr (.inr rfl)) (by rw [zmS.1 h]; exact D5);have x4 := hAk.bxs (hx.belowAll hB2) hbn;have p4 := (hp.belowAt hB2).keepB hAk (fun y hy h => D3 y (.inr (.inl (by rw [hy]; simp))) (by rw [zmS.1 h]; exact D5));have k4 := (hk.belowAt hB2).keepB hAk (fun y hy h => hgn (by rw [<- zaO hy]; exact h));have o4 : ∀ s ∈ l1 ++ l2, Lies base W4 s := fun s hs => ((hc s (by rw [<- hkids]; rcases zmA.1 hs with h | h <;> simp [h])).staysAll hB2).keepB hAk (fun y hy h => D2 s hs y hy (by rw [zmS.1 h]; exact D5))
  have K4 : KeepB (AT.mk b pv (.slice (some ⟨g, 0, none⟩) kids.length c) [] kids page).fp w W4 := ((KeepB.refl _ w).of_below hB2).trans (hAk.sub fun y hy => D4 y (hsub y (by rw [zmS.1 hy]; exact D5)));have gl4 : g < W4.heap.size := znL hgl K4.2.2.2.1;have lgw := hgl;have lbw := lX;rw [Hn.out] at x4;have cX := x4.cell;have lX := x4.lt;unfold nodeC at cX;have H4 := zhI (zaI (zaI hA (zaI hAn hAf)) (zaI x4 (zaI p4 (zaI k4 (zaI o4 K4)))));have Hlg := zhI (zaI lgw lbw);have H5 := zhI (zaI hbn hgn);clear D1 D2 D3 D4 D5 D6 D7 D8 hsub n3 hx hp hk hc hkids hL hkl hkam hkbm hbn hgn x4 p4 k4 o4 K4 lgw lbw hA hAn hAf hAk c0 c1 hB2 hgl;cases rich with
  | false =>
   obtain ⟨p, hpn⟩ : ∃ p, n = p + 1 := ⟨n - 1, by omega⟩;have hin := zl5 base (.slice (some ⟨g, 0, none⟩) n c) p (kids.map AT.ptr) W4 (by rw [<- hpn, <- Hn.out]; exact H4.out.2.2.2.1) Rr (by omega) (by intro u hu; obtain ⟨k, -, rfl⟩ := List.mem_map.1 hu; rfl) (by omega);have Hin := zhI hin;have Hpn := zhI hpn;clear hin hpn;go_wp2_with fail;refine Hin.out.mono ?_;rintro e W5 ⟨v', rfl, hr5, hg5, hv5⟩;obtain ⟨o5, c5, rfl⟩ := hr5.lit;obtain ⟨⟨hA, hAn, hAf⟩, x4, p4, k4, o4, K4⟩ := H4.out;obtain ⟨D1, D2, D3, D4, D5, D6, D7, D8, hsub, n3⟩ := HD.out;have x5 := x4.grown hg5 (fun e => D6 (by rw [<- zaO e.symm]));have e5 : W5.cell? ⟨b, 2, none⟩ = some (.slice (some ⟨g, 0, none⟩) n c) := by rw [x5.cell]; rfl
   have f5 : W5.frozen? ⟨b, 2, none⟩ = false := x5.free 2;have l5 := x5.lt;have Hr5 := zhI (zaI hr5 (zaI hg5 (zaI hv5 x5)));clear hA hAn hAf x4 p4 k4 o4 K4 D1 D2 D3 D4 D5 D6 D7 D8 hsub n3 hr5 hg5 hv5 x5 cX lX Hin;go_wp2;refine bodyPost_end (v := .tuple #[]) (by simp [results, Tryz.results167, go_sem]) rfl ?_;rw [<- HR.out];obtain ⟨hr5, hg5, hv5, x5⟩ := Hr5.out;obtain ⟨⟨hA, hAn, hAf⟩, x4, p4, k4, o4, K4⟩ := H4.out;obtain ⟨D1, D2, D3, D4, D5, D6, D7, D8, hsub, n3⟩ := HD.out;obtain ⟨hkids, hL, hkl, hkam, hkbm⟩ := HK.out;obtain ⟨hnd, hlt, hbb, hbw⟩ := HN.out;obtain ⟨hgw, hbwl⟩ := Hlg.out;have hns : ∀ y, (y = b \/ y = g) -> ∀ s : AT, (∀ z ∈ s.fp, z ∈ ka.fp ++ kb.fp \/ w.heap.size <= z) -> y ∉ s.fp := fun y hy s hs hm => by
    rcases hs y hm with h | h
    .
     rcases hy with e | e
     . exact D3 y (.inl e) h
     . exact D3 y (.inr (.inr e)) h
    . rcases hy with e | e <;> omega
   have hno : ∀ y, (y = b \/ y = g) -> ∀ s ∈ l1 ++ l2, y ∉ s.fp := fun y hy s hs hm => by
    have hyL : y ∈ AT.fpL kids := AT.mem_fpL.2 ⟨s, by rw [<- hkids]; rcases zmA.1 hs with h | h <;> simp [h], hm⟩
    have hnd0 := hnd;rw [AT.fp] at hnd0;obtain ⟨-, ⟨m1, m2, m3⟩, d1, d2, d3⟩ := zaZ.1 hnd0;rcases hy with e | e
    . exact m3 (e ▸ hyL)
    . exact d3 y (by rw [e]; simp [Value.ownBlock]) hyL
   have hfin : ∀ s : AT, Lies base W4 s -> b ∉ s.fp -> g ∉ s.fp -> Lies base (W5.setCell ⟨b, 2, none⟩ (.slice o5 p c5)) s := fun s hs hb hg => hs.same fun y hy => by rw [Below.heap_setCell _ ⟨b, 2, none⟩ _ _ (show y ≠ b from fun e => hb (e ▸ hy))];exact hg5.block y (hs.lt y hy).2 (fun e => hg (by rw [<- zaO e.symm]; exact hy))
   have hK5 : KeepB (AT.mk b pv (.slice (some ⟨g, 0, none⟩) kids.length c) [] kids page).fp w (W5.setCell ⟨b, 2, none⟩ (.slice o5 p c5)) := (K4.growL hg5 (fun r hr => .inl (by rw [AT.fp, zaO hr]; simp [Value.ownBlock]))).set (by rw [AT.fp]; simp);have hp5 : RowO (W5.setCell ⟨b, 2, none⟩ (.slice o5 p c5)) base 77 2 pv 0 [] := p4.same fun y hy => by
    have hyp : y ∈ pv.ownBlock.toList := by rw [hy]; simp
    rw [Below.heap_setCell _ ⟨b, 2, none⟩ _ _ (show y ≠ b from fun e => D7 (e ▸ hyp))];exact hg5.block y (p4.lt y hy).2 (fun e => D8 (by rw [<- zaO e.symm]; exact hyp))
   unfold MendR;rw [hkids];refine ⟨rfl, .slice o5 p c5, l1 ++ ([.mk ka.b v1 v2 (ka.ps ++ kb.ps) (ka.kids ++ kb.kids) ka.page] ++ l2), ?_, ?_⟩
   .
    refine ziK hkids hnd hlt hbb (by simp) (x5.set 2 _) hp5 ?_ (fun s hs => hfin s (o4 s hs) (hno b (.inl rfl) s hs) (hno g (.inr rfl) s hs)) (fun s hs => ?_) ?_ ?_ ?_ hK5
    .
     have e1 : (l1 ++ ([AT.mk ka.b v1 v2 (ka.ps ++ kb.ps) (ka.kids ++ kb.kids) ka.page] ++ l2)).length = p := by have := Hpn.out; have := Hn.out; simp only [zlA, zlC, List.length_nil]; omega
     have e2 : (l1 ++ ([AT.mk ka.b v1 v2 (ka.ps ++ kb.ps) (ka.kids ++ kb.kids) ka.page] ++ l2)).map AT.ptr = (kids.map AT.ptr).take Rr ++ (kids.map AT.ptr).drop (Rr + 1) := by rw [<- hkids]; exact zk3 rfl (by rw [hL]; exact HRL.out)
     rw [e1, e2];exact hr5.same fun y hy => Below.heap_setCell _ ⟨b, 2, none⟩ _ _ (fun e => D6 (by rw [hv5] at hy; rw [<- zaO hy]; exact e))
    . rw [zmS.1 hs];exact hfin _ hA (hns b (.inl rfl) _ hAf) (hns g (.inr rfl) _ hAf)
    . simp only [AT.fpL, List.append_nil]; exact hAn
    . simp only [AT.fpL, List.append_nil]; exact hAf
    . rw [hv5]; rfl
   . rw [Htwo.out, if_neg (by decide)];simp only [List.map_append, List.map_cons, List.map_nil, at_er]
  | true =>
   have hA0 := H4.out.1;obtain ⟨A1, hA1⟩ : ∃ A1, AT.mk ka.b v1 v2 (ka.ps ++ kb.ps) (ka.kids ++ kb.kids) ka.page = A1 := ⟨_, rfl⟩;have hcb := zna base A1 W4.drew;go_upto_region 8 with fail
   refine zah #[false, false, false, false, false, false, false, false, false, false] 10 (by kernel_rfl) (by rfl) rfl ?_;have hbb := (Below.refl W4.heap.size W4).drew;obtain ⟨W5, hW5⟩ : ∃ W', W4.drew = W' := ⟨_, rfl⟩;rw [hW5] at hbb hcb |-;have x5 := H4.out.2.1.belowAll hbb;have gl5 : g < W5.heap.size := znL gl4 hbb.size;rw [hA1] at hA0;have hcut := hcb (hA0.1.staysAll hbb) hA0.2.1 (by rw [<- hA1]; exact HKb.out.1) (by rw [<- hA1]; exact HKb.out.2.1) K (HKb.out.2.2 (by first | rfl | trivial)).1 (by rw [<- hA1]; exact (HKb.out.2.2 (by first | rfl | trivial)).2) (znT HN.out.2.2.2 (znT H4.out.2.2.2.2.2.2.2.2.1 hbb.size));have hptr : A1.ptr = .pointer (some ⟨ka.b, 0, none⟩) := by rw [<- hA1]; rfl
   rw [hptr] at hcut;have Hcut := zhI hcut;have HA := zhI (zaI hA1 hA0);have Hbb := zhI hbb;clear cX lX hcut hcb hA0 hA1 hptr hW5 hbb gl4;have cX := x5.cell;have lX := x5.lt;unfold nodeC at cX;clear x5;refine wpAny_take (i := 0) (v := ?_) rfl (by kernel_rfl) (by kernel_rfl) (by kernel_rfl) (fun _ _ _ h => h) (Or.inl ⟨by rfl, ?_⟩) ?_;rotate_left
   . intro w; go_simp; try with_reducible rfl
   simp only [Act.put, List.setIfInBounds_toArray, List.set_cons_zero];refine wpAny_take (i := 4) (v := ?_) rfl (by kernel_rfl) (by kernel_rfl) (by kernel_rfl) (fun _ _ _ h => h) (Or.inl ⟨by rfl, ?_⟩) ?_;rotate_left
   . intro w; go_simp; try with_reducible rfl
   simp only [Act.put, zsP];refine wpAny_take (i := 5) (v := ?_) rfl (by kernel_rfl) (by kernel_rfl) (by kernel_rfl) (fun _ _ _ h => h) (Or.inl ⟨by rfl, ?_⟩) ?_;rotate_left
   . intro w; go_simp; try with_reducible rfl
   simp only [Act.put, zsP];refine wpAny_take (i := 6) (v := ?_) rfl (by kernel_rfl) (by kernel_rfl) (by kernel_rfl) (fun _ _ _ h => h) (Or.inl ⟨by rfl, ?_⟩) ?_;rotate_left
   . intro w; go_simp; try with_reducible rfl
   simp only [Act.put, zsP];refine wpAny_ready (rs := [1, 7]) (by kernel_rfl) (by simp) ?_;refine AllReady.cons rfl (fun K hK => ?_) (AllReady.cons rfl (fun K hK => ?_) AllReady.nil)
   focus
    go_simp;refine hK _ _ ?_;clear hK K;simp only [zsP];refine wpAny_take (i := 2) (v := ?_) rfl (by kernel_rfl) (by kernel_rfl) (by kernel_rfl) (fun _ _ _ h => h) (Or.inl ⟨by rfl, ?_⟩) ?_;rotate_left
    . intro w; go_simp; try with_reducible rfl
    simp only [Act.put, zsP];refine wpAny_ready (rs := [3, 7]) (by kernel_rfl) (by simp) ?_;refine AllReady.cons rfl (fun K hK => ?_) (AllReady.cons rfl (fun K hK => ?_) AllReady.nil)
    focus
     go_simp;refine hK _ _ ?_;clear hK K;simp only [zsP];refine wpAny_ready (rs := [7]) (by kernel_rfl) (by simp) ?_;refine AllReady.cons rfl (fun K hK => ?_) AllReady.nil;go_simp;refine Hcut.out.mono ?_;rintro e W6 ⟨cc, rr, rfl, hcbb, hlc, hlr, hcn, hcf, hck, hce⟩;refine hK _ _ ?_;clear hK K;have hb5 : b ∉ [ka.b] := H5.out.1;have hab : A1.b = ka.b := by rw [<- HA.out.1]; rfl
     rw [hab] at hcbb hck;clear hab;have x6 := hck.bxs (H4.out.2.1.belowAll Hbb.out) hb5;clear cX lX;have cX := x6.cell;have lX := x6.lt;unfold nodeC at cX;have gl6 := znL gl5 hck.2.2.2.1;have HC := zhI (zaI hcbb (zaI hlc (zaI hlr (zaI hcn (zaI hcf (zaI hck (zaI hce x6)))))));have k6 := (H4.out.2.2.2.1.belowAt Hbb.out).keepB hck (fun y hy h => H5.out.2 (by rw [<- zaO hy]; exact h));have f6 := k6.free Rr;obtain ⟨u6, e6⟩ : ∃ u, W6.cell? ⟨g, Rr, none⟩ = some u := by
      obtain ⟨g', c', e, hcell, -, -⟩ := zaY k6 (i := Rr) (by rw [Hn.out]; exact hLn1);obtain ⟨rfl, rfl⟩ : g = g' /\ c = c' := by simpa using e
      exact ⟨_, hcell⟩
     clear hcbb hlc hlr hcn hcf hck hce hb5 x6 Hcut k6;unfold AT.ptr;simp only [zsP]
    rotate_left
    focus
     go_simp;refine Hcut.out.mono ?_;rintro e W6 ⟨cc, rr, rfl, hcbb, hlc, hlr, hcn, hcf, hck, hce⟩;refine hK _ _ ?_;clear hK K;have hb5 : b ∉ [ka.b] := H5.out.1;have hab : A1.b = ka.b := by rw [<- HA.out.1]; rfl
     rw [hab] at hcbb hck;clear hab;have x6 := hck.bxs (H4.out.2.1.belowAll Hbb.out) hb5;clear cX lX;have cX := x6.cell;have lX := x6.lt;unfold nodeC at cX;have gl6 := znL gl5 hck.2.2.2.1;have HC := zhI (zaI hcbb (zaI hlc (zaI hlr (zaI hcn (zaI hcf (zaI hck (zaI hce x6)))))));have k6 := (H4.out.2.2.2.1.belowAt Hbb.out).keepB hck (fun y hy h => H5.out.2 (by rw [<- zaO hy]; exact h));have f6 := k6.free Rr;obtain ⟨u6, e6⟩ : ∃ u, W6.cell? ⟨g, Rr, none⟩ = some u := by
      obtain ⟨g', c', e, hcell, -, -⟩ := zaY k6 (i := Rr) (by rw [Hn.out]; exact hLn1);obtain ⟨rfl, rfl⟩ : g = g' /\ c = c' := by simpa using e
      exact ⟨_, hcell⟩
     clear hcbb hlc hlr hcn hcf hck hce hb5 x6 Hcut k6;unfold AT.ptr;simp only [zsP];refine wpAny_ready (rs := [3]) (by kernel_rfl) (by simp) ?_;refine AllReady.cons rfl (fun K hK => ?_) AllReady.nil;go_simp;refine hK _ _ ?_;clear hK K;simp only [zsP]
   rotate_left 2
   focus
    go_simp;refine Hcut.out.mono ?_;rintro e W6 ⟨cc, rr, rfl, hcbb, hlc, hlr, hcn, hcf, hck, hce⟩;refine hK _ _ ?_;clear hK K;have hb5 : b ∉ [ka.b] := H5.out.1;have hab : A1.b = ka.b := by rw [<- HA.out.1]; rfl
    rw [hab] at hcbb hck;clear hab;have x6 := hck.bxs (H4.out.2.1.belowAll Hbb.out) hb5;clear cX lX;have cX := x6.cell;have lX := x6.lt;unfold nodeC at cX;have gl6 := znL gl5 hck.2.2.2.1;have HC := zhI (zaI hcbb (zaI hlc (zaI hlr (zaI hcn (zaI hcf (zaI hck (zaI hce x6)))))));have k6 := (H4.out.2.2.2.1.belowAt Hbb.out).keepB hck (fun y hy h => H5.out.2 (by rw [<- zaO hy]; exact h));have f6 := k6.free Rr;obtain ⟨u6, e6⟩ : ∃ u, W6.cell? ⟨g, Rr, none⟩ = some u := by
     obtain ⟨g', c', e, hcell, -, -⟩ := zaY k6 (i := Rr) (by rw [Hn.out]; exact hLn1);obtain ⟨rfl, rfl⟩ : g = g' /\ c = c' := by simpa using e
     exact ⟨_, hcell⟩
    clear hcbb hlc hlr hcn hcf hck hce hb5 x6 Hcut k6;unfold AT.ptr;simp only [zsP];refine wpAny_ready (rs := [1]) (by kernel_rfl) (by simp) ?_;refine AllReady.cons rfl (fun K hK => ?_) AllReady.nil;go_simp;refine hK _ _ ?_;clear hK K;simp only [zsP];refine wpAny_take (i := 2) (v := ?_) rfl (by kernel_rfl) (by kernel_rfl) (by kernel_rfl) (fun _ _ _ h => h) (Or.inl ⟨by rfl, ?_⟩) ?_;rotate_left
    . intro w; go_simp; try with_reducible rfl
    simp only [Act.put, zsP];refine wpAny_ready (rs := [3]) (by kernel_rfl) (by simp) ?_;refine AllReady.cons rfl (fun K hK => ?_) AllReady.nil;go_simp;refine hK _ _ ?_;clear hK K;simp only [zsP]
   all_goals
    refine wpAny_ready (rs := [8]) (by kernel_rfl) (by simp) ?_;refine AllReady.cons rfl (fun K hK => ?_) AllReady.nil;go_simp;refine hK _ _ ?_;clear hK K;simp only [zsP];refine wpAny_ready (rs := [9]) (by kernel_rfl) (by simp) ?_;refine AllReady.cons rfl (fun K hK => ?_) AllReady.nil;go_simp;refine hK _ _ ?_;clear hK K;refine wpAny_done (by kernel_rfl) ?_ _;clear e6 f6;go_wp2;refine bodyPost_end (v := .tuple #[]) (by simp [results, Tryz.results167, go_sem]) rfl ?_;rw [<- HR.out];obtain ⟨hcbb, hlc, hlr, hcn, hcf, hck, hce, x6⟩ := HC.out;obtain ⟨-, x4, p4, k4, o4, K4⟩ := H4.out;obtain ⟨hA1, hA, hAn, hAf⟩ := HA.out;obtain ⟨D1, D2, D3, D4, D5, D6, D7, D8, hsub, n3⟩ := HD.out;obtain ⟨hkids, hL, hkl, hkam, hkbm⟩ := HK.out;obtain ⟨hnd, hlt, hbb, hbw⟩ := HN.out;obtain ⟨hgw, hbwl⟩ := Hlg.out;obtain ⟨hb5, hg5⟩ := H5.out;have hzb := Hbb.out.size;have hz4 := K4.2.2.2.1;have hcf' : ∀ y ∈ cc.fp ++ rr.fp, y ∈ ka.fp ++ kb.fp \/ w.heap.size <= y := fun y hy => by
     rcases hcf y hy with h | h
     . exact hAf y h
     . exact .inr (by omega)
    have hns : ∀ y, (y = b \/ y = g) -> y ∉ cc.fp ++ rr.fp := fun y hy hm => by
     rcases hcf' y hm with h | h
     .
      rcases hy with e | e
      . exact D3 y (.inl e) h
      . exact D3 y (.inr (.inr e)) h
     . rcases hy with e | e <;> omega
    have hno : ∀ s ∈ l1 ++ l2, g ∉ s.fp := fun s hs hm => by
     have hyL : g ∈ AT.fpL kids := AT.mem_fpL.2 ⟨s, by rw [<- hkids]; rcases zmA.1 hs with h | h <;> simp [h], hm⟩
     have hnd0 := hnd;rw [AT.fp] at hnd0;obtain ⟨-, ⟨m1, m2, m3⟩, d1, d2, d3⟩ := zaZ.1 hnd0;exact d3 g (by simp [Value.ownBlock]) hyL
    have o6 : ∀ s ∈ l1 ++ l2, Lies base W6 s := fun s hs => ((o4 s hs).staysAll Hbb.out).keepB hck (fun y hy h => D2 s hs y hy (by rw [zmS.1 h]; exact D5));have p6 := (p4.belowAt Hbb.out).keepB hck (fun y hy h => D3 y (.inr (.inl (by rw [hy]; simp))) (by rw [zmS.1 h]; exact D5));have k6 := (k4.belowAt Hbb.out).keepB hck (fun y hy h => hg5 (by rw [<- zaO hy]; exact h));have K6 : KeepB (AT.mk b pv (.slice (some ⟨g, 0, none⟩) kids.length c) [] kids page).fp w W6 := (K4.of_below Hbb.out).trans (hck.sub fun y hy => D4 y (hsub y (by rw [zmS.1 hy]; exact D5)));have hfin : ∀ s : AT, Lies base W6 s -> g ∉ s.fp -> Lies base (W6.setCell ⟨g, Rr, none⟩ rr.ptr) s := fun s hs hg => hs.same fun y hy => Below.heap_setCell _ ⟨g, Rr, none⟩ _ _ (show y ≠ g from fun e => hg (e ▸ hy));unfold MendR;rw [hkids];refine ⟨rfl, .slice (some ⟨g, 0, none⟩) kids.length c, l1 ++ ([cc, rr] ++ l2), ?_, ?_⟩
    .
     refine ziK hkids hnd hlt hbb (by simp) ?_ ?_ ?_ (fun s hs => hfin s (o6 s hs) (hno s hs)) (fun s hs => ?_) ?_ ?_ rfl ?_
     . rw [Hn.out]; exact x6.setO (a := ⟨g, Rr, none⟩) (fun e => D6 e.symm) _
     . exact p6.same fun y hy => Below.heap_setCell _ ⟨g, Rr, none⟩ _ _ (show y ≠ g from fun e => D8 (e ▸ (show y ∈ pv.ownBlock.toList by rw [hy]; simp)))
     .
      have e1 : (l1 ++ ([cc, rr] ++ l2)).length = kids.length := by rw [<- hkids]; simp
      rw [e1, zmd (kb := kb) (r := Rr) hcbb (by rw [hL]; exact HRL.out), hkids];exact k6.set1 _
     .
      have : s = cc \/ s = rr := by simpa using hs
      rcases this with rfl | rfl
      . exact hfin _ hlc (fun h => hns g (.inr rfl) (List.mem_append_left _ h))
      . exact hfin _ hlr (fun h => hns g (.inr rfl) (List.mem_append_right _ h))
     . simp only [AT.fpL, List.append_nil]; exact hcn
     . simp only [AT.fpL, List.append_nil]; exact hcf'
     . exact K6.set (by rw [AT.fp]; simp [Value.ownBlock])
    . rw [Htwo.out, if_pos (by first | trivial | rfl)];rw [<- hA1, at_er] at hce;rw [hce];simp only [List.map_append, List.map_cons, List.map_nil]
theorem Mut.trans {base : Nat} {w w' w'' : World} {t t' t'' : AT} (h : Mut base w w' t t') (k : Mut base w' w'' t' t'') : Mut base w w'' t t'' := by
 have hz := h.keep.2.2.2.1;refine ⟨k.b.trans h.b, k.lies, k.nodup, fun x hx => ?_, ?_⟩
 .
  rcases k.fp x hx with g | g
  . exact h.fp x g
  . exact .inr (znT hz g)
 .
  refine ⟨k.keep.1.trans h.keep.1, k.keep.2.1.trans h.keep.2.1, k.keep.2.2.1.trans h.keep.2.2.1, znT hz k.keep.2.2.2.1, fun b hb hn => ?_⟩;refine (k.keep.2.2.2.2 b (znL hb hz) fun hm => ?_).trans (h.keep.2.2.2.2 b hb hn);rcases h.fp b hm with g | g
  . exact hn g
  . omega
theorem cell_of_block {w w' : World} {b : Nat} (h : w'.heap[b]? = w.heap[b]?) (k : Nat) : w'.cell? ⟨b, k, none⟩ = w.cell? ⟨b, k, none⟩ := by simp [World.cell?, h]
theorem zjN {l1 l2 : List Nd} {a b : Nd} {left : Bool} {i : Nat} (hi : i = if left then l1.length + 1 else 0) (hl : left = false -> l1.length = 0) (hs : (if left then b else a).small = true) : mendN (l1 ++ ([a, b] ++ l2)) i = l1 ++ (twoN a b left ++ l2) := by
 have e0 : (l1 ++ ([a, b] ++ l2))[l1.length]? = some a := by rw [List.getElem?_append_right (Nat.le_refl _), Nat.sub_self]; rfl
 have e1 : (l1 ++ ([a, b] ++ l2))[l1.length + 1]? = some b := by rw [List.getElem?_append_right (by omega), Nat.add_sub_cancel_left]; rfl
 have hlen : (l1 ++ ([a, b] ++ l2)).length = l1.length + 2 + l2.length := by simp; omega
 cases left with
 | true =>
  simp only [if_true] at hi hs;subst hi;have hi' : l1.length + 1 < (l1 ++ ([a, b] ++ l2)).length := by omega
  have h0' : l1.length < (l1 ++ ([a, b] ++ l2)).length := by omega
  have g0 : (l1 ++ ([a, b] ++ l2))[l1.length]'h0' = a := by rw [List.getElem?_eq_getElem h0'] at e0; exact Option.some.inj e0
  have g1 : (l1 ++ ([a, b] ++ l2))[l1.length + 1]'hi' = b := by rw [List.getElem?_eq_getElem hi'] at e1; exact Option.some.inj e1
  rw [zcY hi' (by omega) (by rw [g1]; exact hs)];simp only [Nat.add_sub_cancel, g0, g1, Nat.zero_lt_succ, decide_true];rw [List.take_left' rfl, List.drop_append, List.drop_of_length_le (by omega), Nat.add_sub_cancel_left, List.append_assoc];rfl
 | false => have hl' := hl rfl;have hnil : l1 = [] := List.eq_nil_of_length_eq_zero hl';subst hnil;simp only [Bool.false_eq_true, if_false] at hi hs;subst hi;rw [zcY (by simp) (by simp) (by simpa using hs)];simp
set_option maxRecDepth 100000 in
set_option maxHeartbeats 4000000 in
theorem zkr (base : Nat) (ky : ByteArray) : ∀ (t : AT) (w : World) (a b h : Nat), 2 <= b -> Tm a b h t.nd -> Lies base w t -> t.fp.Nodup -> Asc t.nd.prs -> base <= w.heap.size -> Calls Tryz.prog 121 #[t.ptr, .string ky] w (RemR base ky t w) := by
 intro t
 induction t using AT.ind with
 | h b pv kv ps kids page ih =>
 intro w ta tb th htb tm h hnd ha hbw
 by_cases hk0 : kids = []
 .
  refine zhO base ky _ w h hnd hk0 ?_ ?_
  . obtain rfl : th = 0 := tm.leaf.2 (by rw [AT.nd_kids, show (AT.mk b pv kv ps kids page).kids = kids from rfl, hk0]; rfl);have := tm.lf'.2.2.1; rw [AT.nd_ps] at this; omega
  . have := ha; rw [Nd.prs_leaf (by rw [AT.nd_kids, show (AT.mk b pv kv ps kids page).kids = kids from rfl, hk0]; rfl), AT.nd_ps] at this; exact this
 have hkm : kids.map AT.nd ≠ [] := by simpa using hk0
 obtain ⟨hh, rfl⟩ : ∃ m, th = m + 1 := by
  cases th with
  | zero => exact absurd (tm.leaf.1 rfl) (by rw [AT.nd_kids]; exact hkm)
  | succ m => exact ⟨m, rfl⟩
 obtain ⟨tp, -, t2, t8, tk⟩ := tm.inn';rw [AT.nd_ps] at tp;rw [AT.nd_kids] at t2 t8 tk;rw [List.length_map] at t2 t8;simp only [AT.ps, AT.kids] at tp t2 t8 tk;subst tp;have hx := h.hx;have hp := h.hp;have hk := h.hk;have hc := h.hc;have hbb := h.hb;simp only [AT.b, AT.pv, AT.kv, AT.ps, AT.kids, AT.page] at hx hp hk hc hbb;have hem : kids.isEmpty = false := by cases kids <;> simp_all
 rw [hem] at hx;simp only [AT.ptr, AT.b];obtain ⟨R, hR⟩ : ∃ R, RemR base ky (.mk b pv kv [] kids page) w = R := ⟨_, rfl⟩;rw [hR];have hCl := zaG ky hkm;obtain ⟨C, hC⟩ : ∃ C, zav (kids.map AT.nd) ky = C := ⟨_, rfl⟩;have hfst : ∀ c ∈ kids, c.nd.first = true := fun c hc' => ((tk _ (List.mem_map.2 ⟨c, hc', rfl⟩)).shp (by decide) (by decide)).first;have hClk : C < kids.length := by rw [hC, List.length_map] at hCl; exact hCl
 have hsp := zdI kids hClk;obtain ⟨kc, hkc⟩ : ∃ x, kids[C] = x := ⟨_, rfl⟩;obtain ⟨l1, hl1⟩ : ∃ x, kids.take C = x := ⟨_, rfl⟩;obtain ⟨l2, hl2⟩ : ∃ x, kids.drop (C + 1) = x := ⟨_, rfl⟩;rw [hkc, hl1, hl2] at hsp;have hl1c : l1.length = C := by rw [<- hl1, List.length_take]; omega
 have hkcm : kc ∈ kids := by rw [hsp]; simp
 have hrem : remN ky (AT.mk b pv kv [] kids page).nd.er = inN (mendN (l1.map (fun s => s.nd.er) ++ remN ky kc.nd.er :: l2.map (fun s => s.nd.er)) C) := by
  have e1 : (AT.mk b pv kv [] kids page).nd.er.kids = kids.map (fun s => s.nd.er) := by rw [Nd.er_kids, AT.nd_kids, List.map_map]; rfl
  have e2 : zav (kids.map (fun s => s.nd.er)) ky = C := by rw [<- e1, Nd.er_kids, zhb, AT.nd_kids]; exact hC
  have hne : (AT.mk b pv kv [] kids page).nd.er.kids ≠ [] := by rw [e1]; simpa using hk0
  rw [zib hne];simp only [e1, e2, List.getElem_map, hkc];congr 2;rw [hsp, List.map_append, List.map_cons, List.set_append_right _ _ (by rw [List.length_map, hl1c]; exact Nat.le_refl _), List.length_map, hl1c, Nat.sub_self];rfl
 have htc : Tm 2 4 hh kc.nd := tk _ (List.mem_map.2 ⟨kc, hkcm, rfl⟩);have hac : Asc kc.nd.prs := ha.kid (k := kc.nd) (by rw [AT.nd_kids]; exact List.mem_map.2 ⟨_, hkcm, rfl⟩);have htc' := (zfZ (key := ky) (n := kc.nd.er) (by decide) (by decide) (by decide) (Tm.er_iff.2 htc) (by rw [Nd.er_prs]; exact hac)).1;have hto : ∀ s ∈ l1 ++ l2, Tm 2 4 hh s.nd := fun s hs => tk _ (List.mem_map.2 ⟨s, by rw [hsp]; rcases zmA.1 hs with h | h <;> simp [h], rfl⟩)
 have HR := zhI hR;have Hrem := zhI hrem;have HIH := zhI (ih kc hkcm);have HSH := zhI (zaI (zaI htc hac) (zaI htc' hto));have Hlt := zhI h.lt;have Hnd := zhI hnd;have hch : Calls Tryz.prog 100 #[.pointer (some ⟨b, 0, none⟩), .string ky] w fun e w' => e = .returned (.int .i64 C) /\ w' = w := by have := zgo base (.mk b pv kv [] kids page) ky w h hk0 hfst (by show kids.length <= 1000; omega);refine this.mono ?_;rintro e w' ⟨rfl, rfl⟩;exact ⟨by rw [<- hC]; rfl, rfl⟩
 have Hch := zhI hch;obtain ⟨g, c, rfl, c0, hle, hg⟩ := zaY hk hClk;rw [hkc] at c0;unfold AT.ptr at c0;have hgl := (hk.lt g hg).2;have HX := zhI (zaI hx (zaI hp (zaI hk hc)));have HF := zhI (zaI hsp (zaI hl1c (zaI t8 (zaI t2 (zaI hClk hkcm)))));have Hb2 := zhI htb;obtain ⟨n, hn⟩ : ∃ n, kids.length = n := ⟨_, rfl⟩;have Hn := zhI hn;have cX := hx.cell;have lX := hx.lt;unfold nodeC at cX;rw [hn] at cX hClk hle;have Hbb := zhI (zaI hbb hbw);have hnd0 := hnd;rw [AT.fp] at hnd0;obtain ⟨⟨n1, n2, n3⟩, ⟨m1, m2, m3⟩, d1, d2, d3⟩ := zaZ.1 hnd0;have hsub : ∀ y ∈ kc.fp, y ∈ AT.fpL kids := fun y hy => AT.mem_fpL.2 ⟨kc, hkcm, hy⟩;have hsub2 : ∀ y ∈ AT.fpL kids, y ∈ (AT.mk b pv (.slice (some ⟨g, 0, none⟩) kids.length c) [] kids page).fp := fun y hy => by rw [AT.fp]; exact List.mem_cons_of_mem _ (List.mem_append_right _ (List.mem_append_right _ hy))
 have hkn := n3;rw [hsp, zaQ, za1] at hkn;have hkn1 := List.nodup_append.1 hkn;have hkn2 := List.nodup_append.1 hkn1.2.1;have hcall := HIH.out w 2 4 hh (by decide) htc (hc kc hkcm) hkn2.1 hac hbw;have Hcall := zhI hcall;have hoth : ∀ s ∈ l1 ++ l2, Lies base w s /\ ∀ y ∈ s.fp, y ∉ kc.fp := fun s hs => by
  have hsk : s ∈ kids := by rw [hsp]; rcases zmA.1 hs with h | h <;> simp [h]
  refine ⟨hc s hsk, fun y hy hyk => ?_⟩;rcases zmA.1 hs with h | h
  . exact hkn1.2.2 y (AT.mem_fpL.2 ⟨s, h, hy⟩) y (List.mem_append_left _ hyk) rfl
  . exact hkn2.2.2 y hyk y (AT.mem_fpL.2 ⟨s, h, hy⟩) rfl
 have hltk : ∀ y ∈ AT.fpL (l1 ++ kc :: l2), y < w.heap.size := fun y hy => (h.lt y (hsub2 y (by rw [hsp]; exact hy))).2;have hnk : ∀ y, (y = b \/ y ∈ pv.ownBlock.toList \/ y = g) -> y ∉ kc.fp := fun y hy hyk => by
  have hyL := hsub y hyk;rcases hy with h | h | h
  . exact m3 (by rw [<- h]; exact hyL)
  . exact d2 y h hyL
  . exact d3 y (by rw [h]; simp [Value.ownBlock]) hyL
 have HO := zhI (zaI hoth (zaI hltk hnk));have Hsub := zhI (zaI hsub hsub2);have Hkn := zhI n3;clear hR hrem ih ha h hnd hch hkm hCl hC hfst hsp hkc hl1 hl2 hl1c hkcm hx hp hk hc hem hk0 hg hn hbb hbw hoth hltk hnk hsub hsub2 n1 n2 n3 m1 m2 m3 d1 d2 d3 hkn hkn1 hkn2 hcall hnd0 htc hac htc' hto tk tm t2 t8 htb;go_enter Tryz.func121, Tryz.ntmps121;go_wp2_with fail;refine Hch.out.mono ?_;rintro e W ⟨rfl, rfl⟩;clear Hch;go_wp2_with fail;refine Hcall.out.mono ?_;rintro e W3 ⟨rfl, kc', hM, he⟩;have hz3 := hM.keep.2.2.2.1;obtain ⟨hoth, hltk, hnk⟩ := HO.out;have x3 := hM.keep.bxs HX.out.1 (hnk b (.inl rfl));rw [Hn.out] at x3;have p3 := HX.out.2.1.keepB hM.keep (fun y hy => hnk y (.inr (.inl (by rw [hy]; simp))));have k3 := HX.out.2.2.1.keepB hM.keep (fun y hy => hnk y (.inr (.inr (zaO hy))));have hoth3 : ∀ s ∈ l1 ++ l2, Lies base W3 s := fun s hs => (hoth s hs).1.keepB hM.keep (hoth s hs).2;have hK3 : KeepB (AT.mk b pv (.slice (some ⟨g, 0, none⟩) kids.length c) [] kids page).fp W W3 := hM.keep.sub fun y hy => Hsub.out.2 y (Hsub.out.1 y hy);obtain ⟨hsp, hl1c, t8, t2, -, -⟩ := HF.out;have hX : AT.fpL [kc'] = kc'.fp := by rw [za1]; exact List.append_nil _
 have hsw := zgb (X := [kc']) (z := W.heap.size) (by rw [<- hsp]; exact Hkn.out) hltk (by rw [hX]; exact hM.nodup) (by rw [hX]; exact hM.fp);have hlen' : (l1 ++ ([kc'] ++ l2)).length = kids.length := by rw [hsp]; simp
 have hptr : (l1 ++ ([kc'] ++ l2)).map AT.ptr = kids.map AT.ptr := by rw [hsp];simp [AT.ptr, hM.b]
 have hne : l1 ++ ([kc'] ++ l2) ≠ [] := by simp
 have hlies : ∀ s ∈ l1 ++ ([kc'] ++ l2), Lies base W3 s := fun s hs => by
  rcases zmA.1 hs with h | h
  . exact hoth3 s (List.mem_append_left _ h)
  .
   rcases zmA.1 h with h | h
   .
    have : s = kc' := by simpa using h
    rw [this]; exact hM.lies
   . exact hoth3 s (List.mem_append_right _ h)
 have hM3 : Mut base W W3 (.mk b pv (.slice (some ⟨g, 0, none⟩) kids.length c) [] kids page) (.mk b pv (.slice (some ⟨g, 0, none⟩) kids.length c) [] (l1 ++ ([kc'] ++ l2)) page) :=
  zco (kids' := l1 ++ ([kc'] ++ l2)) (kv' := .slice (some ⟨g, 0, none⟩) kids.length c) Hnd.out (fun y hy => (Hlt.out y hy).2) Hbb.out.1 hne (by rw [Hn.out]; exact x3) p3 (by rw [hlen', hptr]; exact k3) hlies (.inl rfl) hsw.1 (fun y hy => by
   rcases hsw.2 y hy with h | h
   . exact .inl (by rw [hsp]; exact h)
   . exact .inr h) hK3
 have hpo := zm3 base kc' W3 hM.lies;obtain ⟨sm, hsm⟩ : ∃ s, kc'.nd.small = s := ⟨_, rfl⟩;rw [hsm] at hpo;have hpt : kc'.ptr = .pointer (some ⟨kc.b, 0, none⟩) := by unfold AT.ptr; rw [hM.b]
 rw [hpt] at hpo;have hgl3 : W3.cell? ⟨g, C, none⟩ = some (.pointer (some ⟨kc.b, 0, none⟩)) := by rw [cell_of_block (hM.keep.2.2.2.2 g hgl (hnk g (.inr (.inr rfl)))) C]; exact c0
 have gl3 : g < W3.heap.size := znL hgl hz3;have Hpo := zhI hpo;have HM3 := zhI (zaI hM3 (zaI he (zaI hsm hM.lies)));clear cX lX;have cX := x3.cell;have lX := x3.lt;unfold nodeC at cX;clear hM he hz3 hoth hltk hnk x3 p3 k3 hoth3 hK3 hsp hl1c t8 t2 hX hsw hlen' hptr hne hlies hM3 hpo hsm hpt c0 hgl Hcall HIH HX HO;go_wp2_with fail;refine Hpo.out.mono ?_;rintro e W4 ⟨rfl, rfl⟩;clear Hpo;cases sm with
 | false => go_wp2;refine bodyPost_end (v := .tuple #[]) (by simp [results, Tryz.results121, go_sem]) rfl ?_;rw [<- HR.out];obtain ⟨hM3, he, hsm, -⟩ := HM3.out;obtain ⟨hsp, hl1c, t8, t2, hCk, -⟩ := HF.out;refine ⟨rfl, _, hM3, ?_⟩;rw [at_er, Hrem.out, <- he];rw [zfo (by simp; omega) (by rw [List.getElem_append_right (by simp; omega)]; simp [hl1c, Nd.er_small, hsm])];simp [inN]
 | true =>
  have hmend : Calls Tryz.prog 167 #[.pointer (some ⟨b, 0, none⟩), .int .i64 C] W4 R := by
   obtain ⟨hM3, he, hsm, -⟩ := HM3.out;obtain ⟨hsp, hl1c, t8, t2, hCk, -⟩ := HF.out;obtain ⟨⟨htc, hac⟩, htc', hto⟩ := HSH.out;have hz3 := hM3.keep.2.2.2.1;rw [<- he, Tm.er_iff] at htc';have hlen' : (l1 ++ ([kc'] ++ l2)).length <= 8 := by rw [hsp] at t8; simpa using t8
   rw [<- HR.out];cases C with
   | zero =>
    obtain rfl : l1 = [] := List.eq_nil_of_length_eq_zero hl1c;cases l2 with
    | nil => rw [hsp] at t2; simp at t2; have := Hb2.out; omega
    | cons r l2 => refine (zkP base b pv _ page [] l2 kc' r false 0 W4 hM3.lies hM3.nodup rfl (fun _ => rfl) hlen' hh (by simpa using htc') (by simpa using hto r (by simp)) (znT Hbb.out.2 hz3)).mono ?_;rintro e W5 ⟨rfl, kv', kids', hM5, hk5⟩;refine ⟨rfl, _, hM3.trans hM5, ?_⟩;rw [at_er, hk5, Hrem.out, <- he];have := zjN (l1 := []) (l2 := l2.map (fun s => s.nd.er)) (a := kc'.nd.er) (b := r.nd.er) (left := false) (i := 0) rfl (fun _ => rfl) (by simp [Nd.er_small, hsm]);exact congrArg inN this.symm
   | succ C =>
    obtain ⟨q, l1', rfl⟩ : ∃ q l1', l1 = l1' ++ [q] := ⟨l1.getLast (by intro e; rw [e] at hl1c; simp at hl1c), l1.dropLast, (List.dropLast_concat_getLast _).symm⟩;have hl1' : l1'.length = C := by simpa using hl1c
    have e1 : l1' ++ [q] ++ ([kc'] ++ l2) = l1' ++ ([q, kc'] ++ l2) := by simp
    have hM3' := hM3;rw [e1] at hM3' hlen';refine (zkP base b pv _ page l1' l2 q kc' true (C + 1) W4 hM3'.lies hM3'.nodup (by rw [hl1']; rfl) (fun h => by cases h) hlen' hh (by simpa using hto q (by simp)) (by simpa using htc') (znT Hbb.out.2 hz3)).mono ?_;rintro e W5 ⟨rfl, kv', kids', hM5, hk5⟩;refine ⟨rfl, _, hM3'.trans hM5, ?_⟩;rw [at_er, hk5, Hrem.out, <- he];have := zjN (l1 := l1'.map (fun s => s.nd.er)) (l2 := l2.map (fun s => s.nd.er)) (a := q.nd.er) (b := kc'.nd.er) (left := true) (i := C + 1) (by simp [hl1']) (fun h => by cases h) (by simp [Nd.er_small, hsm]);rw [<- this];simp [inN]
  have Hmend := zhI hmend;clear hmend;go_wp2_with fail;refine Hmend.out.mono ?_;intro e W5 h5;have h6 := h5;rw [<- HR.out] at h6;obtain ⟨rfl, -⟩ := h6;have H5 := zhI h5;clear h5;go_wp2;refine bodyPost_end (v := .tuple #[]) (by simp [results, Tryz.results121, go_sem]) rfl ?_;exact H5.out
theorem zeP (base : Nat) (ky : ByteArray) (w : World) : Calls Tryz.prog 75 #[.pointer none, .string ky] w (RootR base w none (dropN none ky)) := by
 obtain ⟨R, hR⟩ : ∃ R, RootR base w none (dropN none ky) = R := ⟨_, rfl⟩;rw [hR];have HR := zhI hR;clear hR;go_enter Tryz.func75, Tryz.ntmps75;go_wp2;rw [<- HR.out];exact ⟨none, rfl, fun t h => (by cases h), rfl, fun y hy => (by cases hy), KeepB.refl _ _⟩
theorem zjo {ky : ByteArray} {n : Nd} {t : AT} {h : Nat} (he : t.nd.er = remN ky n) (tm : Tm 0 1 h t.nd) :
  (t.kids = [] /\ dropN (some n) ky = if t.ps.length = 0 then none else some t.nd.er) \/ (∃ c, t.kids = [c] /\ dropN (some n) ky = some c.nd.er /\ ∃ h', Tm 2 4 h' c.nd) \/ (t.kids ≠ [] /\ t.kids.length ≠ 1 /\ dropN (some n) ky = some t.nd.er) := by
 have hk : (remN ky n).kids = t.kids.map fun s => s.nd.er := by rw [<- he, Nd.er_kids, AT.nd_kids, List.map_map]; rfl
 have hs : (remN ky n).size = t.ps.length + t.kids.length := by rw [<- he, Nd.er_size]; unfold Nd.size; rw [AT.nd_ps, AT.nd_kids, List.length_map]
 cases hkk : t.kids with
 | nil => rw [hkk] at hk hs;left;refine ⟨rfl, ?_⟩;simp only [dropN, hk, hs, List.map_nil, List.length_nil, Nat.add_zero, he]
 | cons c r =>
  rw [hkk] at hk hs;right;cases r with
  | nil =>
   left;refine ⟨c, rfl, by simp only [dropN, hk, List.map_cons, List.map_nil], ?_⟩;cases h with
   | zero => have := tm.lf'.1; rw [AT.nd_kids, hkk] at this; cases this
   | succ h => exact ⟨h, tm.inn'.2.2.2.2 _ (by rw [AT.nd_kids, hkk]; simp)⟩
  | cons d r =>
   right;refine ⟨by simp, by simp, ?_⟩;have h0 : ¬ (remN ky n).size = 0 := by rw [hs]; simp
   simp only [dropN, hk, List.map_cons, if_neg h0, he]
set_option maxRecDepth 100000 in
set_option maxHeartbeats 2000000 in
theorem zeD (base : Nat) (ky : ByteArray) (t : AT) (w : World) (h : Lies base w t) (hnd : t.fp.Nodup) (th : Nat) (tm : Tm 1 2 th t.nd) (ha : Asc t.nd.prs) (hbw : base <= w.heap.size) :
  Calls Tryz.prog 75 #[t.ptr, .string ky] w (RootR base w (some t) (dropN (some t.nd.er) ky)) := by
 have hc := zkr base ky t w 1 2 th (by decide) tm h hnd ha hbw;have htm := (zfZ (key := ky) (n := t.nd.er) (by decide) (by decide) (by decide) (Tm.er_iff.2 tm) (by rw [Nd.er_prs]; exact ha)).1;obtain ⟨R, hR⟩ : ∃ R, RootR base w (some t) (dropN (some t.nd.er) ky) = R := ⟨_, rfl⟩;rw [hR];have HR := zhI hR;have Hc := zhI hc;have Htm := zhI htm;have hpt : t.ptr = .pointer (some ⟨t.b, 0, none⟩) := rfl;rw [hpt];rw [hpt] at Hc;obtain ⟨tb, htb⟩ : ∃ b, t.b = b := ⟨_, rfl⟩;rw [htb];rw [htb] at Hc;have Htb := zhI htb;clear hR hc htm h hnd tm ha hbw hpt htb;go_enter Tryz.func75, Tryz.ntmps75;go_wp2_with fail;refine Hc.out.mono ?_;rintro e W ⟨rfl, t', hM, he⟩;have htm := Htm.out;rw [<- he, Tm.er_iff] at htm;have hsh := zjo he htm;have hx := hM.lies.hx;obtain ⟨op, cp, lp⟩ := hM.lies.hp.lit;obtain ⟨ok, ck, lk⟩ := hM.lies.hk.lit;have hb : t'.b = tb := hM.b.trans Htb.out;rw [hb, lp, lk] at hx;have HM := zhI (zaI hM he);have Hk := zhI hM.lies.hk;have Hlk := zhI lk;obtain ⟨np, hnp⟩ : ∃ n, t'.ps.length = n := ⟨_, rfl⟩;obtain ⟨nk, hnk⟩ : ∃ n, t'.kids.length = n := ⟨_, rfl⟩;obtain ⟨lf, hlf⟩ : ∃ n, t'.kids.isEmpty = n := ⟨_, rfl⟩;rw [hnp, hnk, hlf] at hx;have cX := hx.cell;have lX := hx.lt;unfold nodeC at cX;have Hb := zhI hb;clear hM he htm hx lp lk hb Hc Htm;rcases hsh with ⟨h1, h2⟩ | ⟨c, h1, h2, h', h3⟩ | ⟨h1, h0, h2⟩
 .
  have hk0 : nk = 0 := by rw [<- hnk, h1]; rfl
  have hl1 : lf = true := by rw [<- hlf, h1]; rfl
  subst hk0 hl1;have H1 := zhI (zaI h1 h2);have Hnp := zhI hnp;clear h1 h2 hnp hnk hlf
  by_cases hz : np = 0
  . subst hz;go_wp2;rw [<- HR.out];obtain ⟨hM, he⟩ := HM.out;refine ⟨none, rfl, fun t h => (by cases h), ?_, fun y hy => (by cases hy), hM.keep⟩;rw [H1.out.2, Hnp.out]; rfl
  . go_wp2;rw [<- HR.out];obtain ⟨hM, he⟩ := HM.out;refine ⟨some t', by rw [rootV, AT.ptr, Hb.out]; rfl, fun t h => (by cases h; exact ⟨hM.lies, hM.nodup⟩), ?_, hM.fp, hM.keep⟩;rw [H1.out.2, Hnp.out, if_neg hz]; rfl
 .
  have hk0 : nk = 1 := by rw [<- hnk, h1]; rfl
  have hl1 : lf = false := by rw [<- hlf, h1]; rfl
  subst hk0 hl1;have hkr := Hk.out;rw [h1] at hkr;obtain ⟨g, cg, e1, c0, hle, hg⟩ := zaY (i := 0) hkr (by simp);rw [List.getElem_cons_zero] at c0;have hgl := (hkr.lt g hg).2;have hlk := Hlk.out;rw [e1] at hlk;obtain ⟨rfl, rfl⟩ : some ⟨g, 0, none⟩ = ok /\ cg = ck := by
   have : ok = some ⟨g, 0, none⟩ /\ ck = cg := by have := hlk; simp at this; exact ⟨this.1.symm, this.2.2.symm⟩
   exact ⟨this.1.symm, this.2.symm⟩
  have hcl := HM.out.1.lies.hc c (by rw [h1]; simp);have xc := hcl.hx;obtain ⟨op2, cp2, lp2⟩ := hcl.hp.lit;obtain ⟨ok2, ck2, lk2⟩ := hcl.hk.lit;rw [lp2, lk2] at xc;obtain ⟨np2, hnp2⟩ : ∃ n, c.ps.length = n := ⟨_, rfl⟩;obtain ⟨nk2, hnk2⟩ : ∃ n, c.kids.length = n := ⟨_, rfl⟩;obtain ⟨lf2, hlf2⟩ : ∃ n, c.kids.isEmpty = n := ⟨_, rfl⟩;rw [hnp2, hnk2, hlf2] at xc;have cC := xc.cell;have lC := xc.lt;unfold nodeC at cC;unfold AT.ptr at c0;have hpos : lf2 = true -> ¬ np2 = 0 := fun e => by rw [<- hlf2, List.isEmpty_iff] at e;obtain rfl : h' = 0 := h3.leaf.2 (by rw [AT.nd_kids, e]; rfl);have := h3.lf'.2.1;rw [AT.nd_ps] at this;omega
  obtain ⟨cb, hcb⟩ : ∃ b, c.b = b := ⟨_, rfl⟩;rw [hcb] at c0 cC lC;have H1 := zhI (zaI h1 (zaI h2 (zaI hcl hcb)));simp only [zlC, List.length_nil, Nat.zero_add] at hle;clear h1 h2 h3 hnp hnk hlf hkr e1 hg hlk hcl xc lp2 lk2 hnp2 hnk2 hlf2 hcb;cases lf2 with
  | true =>
   have hz := hpos rfl;clear hpos;go_wp2;rw [<- HR.out];obtain ⟨hM, he⟩ := HM.out;obtain ⟨h1, h2, hcl, hcb⟩ := H1.out;have hsub : ∀ y ∈ c.fp, y ∈ t'.fp := fun y hy => by rw [t'.fp_parts, h1];simp only [zmC, zmA, AT.fpL];exact .inr (.inr (.inr (.inl hy)))
   have hcn : c.fp.Nodup := by have := hM.nodup;rw [t'.fp_parts, h1] at this;have h5 := (zaZ.1 this).1.2.2;rw [za1] at h5;exact (List.nodup_append.1 h5).1
   refine ⟨some c, by rw [rootV, AT.ptr, hcb]; rfl, fun t h => (by cases h; exact ⟨hcl, hcn⟩), ?_, fun y hy => hM.fp y (hsub y hy), hM.keep⟩;rw [h2]; rfl
  | false =>
   clear hpos;go_wp2;rw [<- HR.out];obtain ⟨hM, he⟩ := HM.out;obtain ⟨h1, h2, hcl, hcb⟩ := H1.out;have hsub : ∀ y ∈ c.fp, y ∈ t'.fp := fun y hy => by rw [t'.fp_parts, h1];simp only [zmC, zmA, AT.fpL];exact .inr (.inr (.inr (.inl hy)))
   have hcn : c.fp.Nodup := by have := hM.nodup;rw [t'.fp_parts, h1] at this;have h5 := (zaZ.1 this).1.2.2;rw [za1] at h5;exact (List.nodup_append.1 h5).1
   refine ⟨some c, by rw [rootV, AT.ptr, hcb]; rfl, fun t h => (by cases h; exact ⟨hcl, hcn⟩), ?_, fun y hy => hM.fp y (hsub y hy), hM.keep⟩;rw [h2]; rfl
 .
  have hk1 : nk ≠ 1 := by rw [<- hnk]; exact h0
  have hl1 : lf = false := by rw [<- hlf]; cases hkk : t'.kids with
   | nil => exact absurd hkk h1
   | cons => rfl
  subst hl1;have H1 := zhI h2;clear h1 h2 h0 hnp hnk hlf;go_wp2;rw [<- HR.out];obtain ⟨hM, he⟩ := HM.out;refine ⟨some t', by rw [rootV, AT.ptr, Hb.out]; rfl, fun t h => (by cases h; exact ⟨hM.lies, hM.nodup⟩), ?_, hM.fp, hM.keep⟩;rw [H1.out]; rfl
theorem zi1 (base : Nat) (ky : ByteArray) (o : Option AT) (w : World) (h : ∀ t, o = some t -> Lies base w t /\ t.fp.Nodup /\ (∃ h, Tm 1 2 h t.nd) /\ Asc t.nd.prs) (hbw : base <= w.heap.size) :
  Calls Tryz.prog 75 #[rootV o, .string ky] w (RootR base w o (dropN (o.map fun t => t.nd.er) ky)) := by
 cases o with
 | none => exact zeP base ky w
 | some t => obtain ⟨h1, h2, ⟨th, h3⟩, h4⟩ := h t rfl;exact zeD base ky t w h1 h2 th h3 h4 hbw
end Go.Proofs.YtlefmmhlpgmbjaaGreat
