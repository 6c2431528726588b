/- (*node).put, whole: by induction over the tree. put at the root. (*node).remove at a leaf. poor, rich and size of a node. -/
import Derived.Test.YtlefmmhlpgmbjaaGreatS15
import Derived.Test.YtlefmmhlpgmbjaaGreatS01
namespace Go.Proofs.YtlefmmhlpgmbjaaGreat
set_option maxRecDepth 100000
open Go.RowKit Go.Shelf
set_option maxRecDepth 100000 in
set_option maxHeartbeats 2000000 in
theorem KeepB.bxs {L : List Nat} {W A : World} (h : KeepB L W A) {b : Nat} {cs : Array Value} {t : TypeId} (hx : Bx W b cs t) (hb : b ∉ L) : Bx A b cs t := h.bx hx hb
theorem Shp.inner_ps {n : Nd} (h : Shp n) (hk : n.kids ≠ []) : n.ps = [] := by
 cases h with
 | lf => exact absurd rfl hk
 | inn => rfl
theorem zk5 {α : Type} {a b : List α} {x : α} {k : Nat} (h : k = a.length + 1) : (a ++ x :: b).take k = a ++ [x] := by
 subst h;rw [List.take_append, List.take_of_length_le (by omega), show a.length + 1 - a.length = 1 by omega];rfl
theorem ziq {α : Type} {a b : List α} {x : α} {k : Nat} (h : k = a.length + 1) : (a ++ x :: b).drop k = b := by
 subst h;rw [List.drop_append, List.drop_of_length_le (by omega), show a.length + 1 - a.length = 1 by omega];rfl
theorem zaO {g y n c : Nat} (h : (Value.slice (some ⟨g, 0, none⟩) n c).ownBlock = some y) : y = g := by
 have : g = y := by simpa [Value.ownBlock] using h
 exact this.symm
set_option maxRecDepth 100000 in
set_option maxHeartbeats 4000000 in
theorem znj (base : Nat) (x : Kv) : ∀ (t : AT) (w : World), Lies base w t -> t.fp.Nodup -> Shp t.nd -> Asc t.nd.prs -> base <= w.heap.size -> Calls Tryz.prog 120 #[t.ptr, kvV x] w (PutR base x t w) := by
 intro t
 induction t using AT.ind with
 | h b pv kv ps kids page ih =>
 intro w h hnd hsh ha hbw
 by_cases hk0 : kids = []
 .
  refine zhC base x _ w h hnd hk0 ?_ ?_ hbw
  . have := hsh.ps_len; rw [AT.nd_ps] at this; exact this
  . have := ha; rw [Nd.prs_leaf (by rw [AT.nd_kids, show (AT.mk b pv kv ps kids page).kids = kids from rfl, hk0]; rfl), AT.nd_ps] at this; exact this
 obtain ⟨ky, vl⟩ := x;have hx := h.hx;have hp := h.hp;have hk := h.hk;have hc := h.hc;have hbb := h.hb;simp only [AT.b, AT.pv, AT.kv, AT.ps, AT.kids, AT.page] at hx hp hk hc hbb;have hem : kids.isEmpty = false := by cases kids <;> simp_all
 rw [hem] at hx;simp only [AT.ptr, AT.b];obtain ⟨R, hR⟩ : ∃ R, PutR base (ky, vl) (.mk b pv kv ps kids page) w = R := ⟨_, rfl⟩;rw [hR];have hkm : kids.map AT.nd ≠ [] := by simpa using hk0
 have hCl := zaG ky hkm;obtain ⟨C, hC⟩ : ∃ C, zav (kids.map AT.nd) ky = C := ⟨_, rfl⟩;have hkl := hsh.kids_len;rw [AT.nd_kids] at hkl;have hkl2 : kids.length <= 8 := by rw [List.length_map] at hkl; exact hkl
 have hfst : ∀ c ∈ kids, c.nd.first = true := fun c hc' => (hsh.kid _ (by rw [AT.nd_kids]; exact List.mem_map.2 ⟨c, hc', rfl⟩)).first;have hClk : C < kids.length := by rw [hC, List.length_map] at hCl; exact hCl
 have hsp := zdI kids hClk;obtain ⟨kc, hkc⟩ : ∃ x, kids[C] = x := ⟨_, rfl⟩;obtain ⟨l1, hl1⟩ : ∃ x, kids.take C = x := ⟨_, rfl⟩;obtain ⟨l2, hl2⟩ : ∃ x, kids.drop (C + 1) = x := ⟨_, rfl⟩;rw [hkc, hl1, hl2] at hsp;have hl1c : l1.length = C := by rw [<- hl1, List.length_take]; omega
 have hkcm : kc ∈ kids := by rw [hsp]; simp
 have hins : insN (ky, vl) (AT.mk b pv kv ps kids page).nd.er = splitN (inN (l1.map (fun s => s.nd.er) ++ (insN (ky, vl) kc.nd.er).1 :: (insN (ky, vl) kc.nd.er).2.toList ++ l2.map (fun s => s.nd.er))) := by
  have e1 : (AT.mk b pv kv ps kids page).nd.er.kids = kids.map (fun s => s.nd.er) := by rw [Nd.er_kids, AT.nd_kids, List.map_map]; rfl
  have e2 : zav (kids.map (fun s => s.nd.er)) ky = C := by rw [<- e1, Nd.er_kids, zhb, AT.nd_kids]; exact hC
  have hne : (AT.mk b pv kv ps kids page).nd.er.kids ≠ [] := by rw [e1]; simpa using hk0
  rw [zie hne];simp only [e1, e2, List.getElem_map, hkc, <- List.map_take, <- List.map_drop, hl1, hl2]
 have HR := zhI hR;have Hins := zhI hins;have HIH := zhI (ih kc hkcm);have HSH := zhI (zaI (hsh.kid _ (by rw [AT.nd_kids]; exact List.mem_map.2 ⟨_, hkcm, rfl⟩)) (ha.kid (k := kc.nd) (by rw [AT.nd_kids]; exact List.mem_map.2 ⟨_, hkcm, rfl⟩)));have Hlt := zhI h.lt;have Hps : Hid (ps = []) := zhI (by have := hsh.inner_ps (by rw [AT.nd_kids]; exact hkm); rw [AT.nd_ps] at this; exact this);have Hnd := zhI hnd;have hch : ∀ W, Below w.heap.size w W -> Calls Tryz.prog 100 #[.pointer (some ⟨b, 0, none⟩), .string ky] W fun e w' => e = .returned (.int .i64 C) /\ w' = W := fun W hb => by have := zgo base (.mk b pv kv ps kids page) ky W (h.staysAll hb) hk0 hfst (by show kids.length <= 1000; omega);refine this.mono ?_;rintro e w' ⟨rfl, rfl⟩;exact ⟨by rw [<- hC]; rfl, rfl⟩
 have Hch := zhI (hch _ (Below.one _ (.cells #[.string ky, .string vl] 77)));obtain ⟨g, c, rfl, c0, hle, hg⟩ := zaY hk hClk;rw [hkc] at c0;unfold AT.ptr at c0;have hgl := (hk.lt g hg).2;have HX := zhI (zaI hx (zaI hp (zaI hk hc)));have HF := zhI (zaI hsp (zaI hl1c (zaI hkl2 (zaI hClk hkcm))));obtain ⟨n, hn⟩ : ∃ n, kids.length = n := ⟨_, rfl⟩;have Hn := zhI hn;obtain ⟨N, hN⟩ : ∃ N, w.heap.size = N := ⟨_, rfl⟩;have cX := hx.cell;have lX := hx.lt;unfold nodeC at cX;rw [hn] at cX hClk hle;have lXN : b < N := by omega
 have glN : g < N := by omega
 have Hbb := zhI (zaI hbb hbw);clear hR hins ih hsh ha h hnd hch hkm hCl hC hkl hkl2 hfst hsp hkc hl1 hl2 hl1c hkcm hx hp hk hc hem hk0 hg hn hbb hbw;go_enter Tryz.func120, Tryz.ntmps120;go_wp2_with fail;refine Hch.out.mono ?_;rintro e W ⟨rfl, rfl⟩;have hB1 : Below w.heap.size w (w.alloc (.cells #[.string ky, .string vl] 77)) := Below.one _ _;have xb := Bx.new w #[.string ky, .string vl] 77;rw [hN] at xb;have x1 := HX.out.1.belowAll hB1;rw [Hn.out] at x1;have d0 : (w.alloc (.cells #[.string ky, .string vl] 77)).cell? ⟨g, C, none⟩ = some (.pointer (some ⟨kc.b, 0, none⟩)) := by rw [hB1.cell hgl]; exact c0
 have hz1 := hB1.size;have gl1 : g < (w.alloc (.cells #[.string ky, .string vl] 77)).heap.size := znL hgl hz1;have HB1 := zhI hB1;clear cX lX c0 hgl hB1 Hch hz1;generalize w.alloc (.cells #[.string ky, .string vl] 77) = W1 at *;have cX := x1.cell;have lX := x1.lt;unfold nodeC at cX;have cB := xb.cell;have lB := xb.lt;go_wp2;have cQ := Lat.cells W1;refine zal 8 2 #[true, true, true, true, true, true, true, true, false, false] (fun i => if i = 1 then some (annK (.pointer (some ⟨b, 0, none⟩))) else none) (by kernel_rfl) (by rfl) (by rfl) (by kernel_rfl) ?_;simp only [List.take_succ_cons, List.take_zero];refine LW.block 1 1 (by rfl) (by kernel_rfl) (by kernel_rfl) ?_;simp only [ztP]
 repeat (first | go_big_quiet_skip | (go_big_quiet_want; go_big_quiet_op; go_big_quiet_on))
 refine wpQuiet_nil ?_;refine LW.lzy _ (by rfl) (by rfl) ?_ ?_
 . intro yL _;exact zaL ((by rfl))
 intro _;simp only [Act.put, zsP]
 (try simp only [annK])
 refine LW.block 6 8 (by rfl) (by kernel_rfl) (by kernel_rfl) ?_;simp only [ztP]
 repeat (first | go_big_quiet_skip | (go_big_quiet_want; go_big_quiet_op; go_big_quiet_on))
 refine wpQuiet_nil ?_;refine LW.done ?_;intro W2 hG;have hb2 := hG.below;have hB2 := btr HB1.out hb2;have x2 := x1.belowAll hb2;have p2 := HX.out.2.1.belowAt hB2;have k2 := HX.out.2.2.1.belowAt hB2;have hsz2 : w.heap.size <= W2.heap.size := hB2.size;have hnd0 := Hnd.out;rw [AT.fp] at hnd0;obtain ⟨⟨n1, n2, n3⟩, ⟨m1, m2, m3⟩, d1, d2, d3⟩ := zaZ.1 hnd0;have hsub : ∀ y ∈ kc.fp, y ∈ AT.fpL kids := fun y hy => AT.mem_fpL.2 ⟨kc, HF.out.2.2.2.2, hy⟩;have hsub2 : ∀ y ∈ AT.fpL kids, y ∈ (AT.mk b pv (.slice (some ⟨g, 0, none⟩) kids.length c) ps kids page).fp := fun y hy => by rw [AT.fp]; exact List.mem_cons_of_mem _ (List.mem_append_right _ (List.mem_append_right _ hy))
 have hkn := n3;rw [HF.out.1, zaQ, za1] at hkn;have hkn1 := List.nodup_append.1 hkn;have hkn2 := List.nodup_append.1 hkn1.2.1;have hbN : base <= W2.heap.size := znT Hbb.out.2 hsz2;have hcall := HIH.out W2 ((HX.out.2.2.2 kc HF.out.2.2.2.2).staysAll hB2) hkn2.1 HSH.out.1 HSH.out.2 hbN;have Hcall := zhI hcall;have hoth : ∀ s ∈ l1 ++ l2, Lies base W2 s /\ ∀ y ∈ s.fp, y ∉ kc.fp := fun s hs => by
  have hsk : s ∈ kids := by rw [HF.out.1]; rcases zmA.1 hs with h | h <;> simp [h]
  refine ⟨(HX.out.2.2.2 s hsk).staysAll hB2, fun y hy hyk => ?_⟩;rcases zmA.1 hs with h | h
  . exact hkn1.2.2 y (AT.mem_fpL.2 ⟨s, h, hy⟩) y (List.mem_append_left _ hyk) rfl
  . exact hkn2.2.2 y hyk y (AT.mem_fpL.2 ⟨s, h, hy⟩) rfl
 have HK2 : Hid (KeepB (AT.mk b pv (.slice (some ⟨g, 0, none⟩) kids.length c) ps kids page).fp w W2) := zhI ((KeepB.refl _ w).of_below hB2);have hltk : ∀ y ∈ AT.fpL (l1 ++ kc :: l2), y < W2.heap.size := fun y hy => by have := (Hlt.out y (hsub2 y (by rw [HF.out.1]; exact hy))).2;omega
 have H2 := zhI (zaI x2 (zaI p2 (zaI k2 (zaI hoth hltk))));have Hsub := zhI (zaI hsub hsub2);have Hds := zhI (zaI (zaI n1 (zaI n2 n3)) (zaI (zaI m1 (zaI m2 m3)) (zaI d1 (zaI d2 d3))));have Hsz := zhI (zaI hsz2 hbN);have Hcn := zhI (zaI hClk hle);clear hG cQ hb2 hB2 x2 p2 k2 hnd0 n1 n2 n3 m1 m2 m3 d1 d2 d3 hsub hsub2 hkn hkn1 hkn2 hcall hoth hltk hsz2 hbN cX lX cB lB d0 gl1 xb x1 lXN glN hle;refine wpAny_ready (rs := [8]) (by kernel_rfl) (by simp) ?_;refine AllReady.cons rfl (fun K hK => ?_) AllReady.nil;go_simp;refine Hcall.out.mono ?_;rintro e W3 ⟨c', o, rfl, hM, he1, he2, hs⟩;refine hK _ _ ?_;clear hK K;simp only [zsP];have hnk : ∀ y, (y = b \/ y ∈ pv.ownBlock.toList \/ y = g) -> y ∉ kc.fp := fun y hy hyk => by
  have hyL := Hsub.out.1 y hyk;obtain ⟨-, ⟨-, -, m3⟩, -, d2, d3⟩ := Hds.out;rcases hy with h | h | h
  . exact m3 (by rw [<- h]; exact hyL)
  . exact d2 y h hyL
  . exact d3 y (by rw [h]; simp [Value.ownBlock]) hyL
 have x3 := hM.keep.bxs H2.out.1 (hnk b (.inl rfl));have p3 := H2.out.2.1.keepB hM.keep (fun y hy => hnk y (.inr (.inl (by rw [hy]; simp))));have k3 := H2.out.2.2.1.keepB hM.keep (fun y hy => hnk y (.inr (.inr (zaO hy))));have hoth : ∀ s ∈ l1 ++ l2, Lies base W3 s := fun s hs => (H2.out.2.2.2.1 s hs).1.keepB hM.keep (H2.out.2.2.2.1 s hs).2;have HK3 : Hid (KeepB (AT.mk b pv (.slice (some ⟨g, 0, none⟩) kids.length c) ps kids page).fp w W3) := zhI (HK2.out.trans (hM.keep.sub fun y hy => Hsub.out.2 y (Hsub.out.1 y hy)));have hz3 := hM.keep.2.2.2.1;have cX := x3.cell;have lX := x3.lt;unfold nodeC at cX;have H3 := zhI (zaI x3 (zaI p3 (zaI k3 (zaI hoth hz3))));have HM := zhI (zaI hM (zaI he1 (zaI he2 hs)));have hn8 : n <= 8 := by have := HF.out.2.2.1; rw [Hn.out] at this; exact this
 have hnm : n <= maxLen := by unfold maxLen; omega
 clear hM he1 he2 hs x3 p3 k3 hoth hz3 hnk HIH Hcall HK2;cases o with
 | none =>
  simp only [rootV];refine wpAny_ready (rs := [9]) (by kernel_rfl) (by simp) ?_;refine AllReady.cons rfl (fun K hK => ?_) AllReady.nil;go_simp;refine hK _ _ ?_;clear hK K;refine wpAny_done (by kernel_rfl) ?_ _;go_wp2;rw [<- HR.out];obtain ⟨hM, he1, he2, -⟩ := HM.out;obtain ⟨x3, p3, k3, hoth, hz3⟩ := H3.out;obtain ⟨hsp, hl1c, hkl8, -, -⟩ := HF.out;have hX : AT.fpL [c'] = c'.fp := by rw [za1]; exact List.append_nil _
  have hsw := zgb (X := [c']) (z := W2.heap.size) (by rw [<- hsp]; exact Hds.out.1.2.2) H2.out.2.2.2.2 (by rw [hX]; exact hM.nodup) (by rw [hX]; exact hM.fp);have hlen : (l1 ++ ([c'] ++ l2)).length = kids.length := by rw [hsp]; simp
  have hptr : (l1 ++ ([c'] ++ l2)).map AT.ptr = kids.map AT.ptr := by rw [hsp];simp [AT.ptr, hM.b]
  have hne : l1 ++ ([c'] ++ l2) ≠ [] := by simp
  refine ⟨_, none, rfl, zco (kids' := l1 ++ ([c'] ++ l2)) (kv' := .slice (some ⟨g, 0, none⟩) kids.length c) Hnd.out (fun y hy => (Hlt.out y hy).2) Hbb.out.1 hne (by rw [Hn.out]; exact x3) p3 (by rw [hlen, hptr]; exact k3) ?_ (.inl rfl) hsw.1 ?_ HK3.out, ?_, ?_, fun s hs => by cases hs⟩
  .
   intro s hs;rcases zmA.1 hs with h | h
   . exact hoth s (List.mem_append_left _ h)
   .
    rcases zmA.1 h with h | h
    .
     have : s = c' := by simpa using h
     rw [this]; exact hM.lies
    . exact hoth s (List.mem_append_right _ h)
  .
   intro y hy;rcases hsw.2 y hy with h | h
   . exact .inl (by rw [hsp]; exact h)
   . exact .inr (by have := Hsz.out.1; omega)
  . rw [Hins.out, zbG (by simp) (by simp [<- he2]; rw [<- hlen] at hkl8; simpa using hkl8), Nd.er_eq, AT.nd_ps, AT.nd_kids];simp [<- he1, <- he2, inN, AT.kids, AT.ps, Hps.out];rfl
  . rw [Hins.out, zbG (by simp) (by simp [<- he2]; rw [<- hlen] at hkl8; simpa using hkl8)]; rfl
 | some s =>
  simp only [rootV, AT.ptr];refine wpAny_ready (rs := [9]) (by kernel_rfl) (by simp) ?_;refine AllReady.cons rfl (fun K hK => ?_) AllReady.nil;go_simp;refine hK _ _ ?_;clear hK K;refine wpAny_done (by kernel_rfl) ?_ _;have hb4 : Below W3.heap.size W3 (W3.alloc (.cells #[.pointer (some ⟨s.b, 0, none⟩)] 88)) := Below.one _ _;have h8 := Bx.new W3 #[.pointer (some ⟨s.b, 0, none⟩)] 88;obtain ⟨W4, hW4⟩ : ∃ W4, W3.alloc (.cells #[.pointer (some ⟨s.b, 0, none⟩)] 88) = W4 := ⟨_, rfl⟩;rw [hW4] at hb4 h8;obtain ⟨M3, hM3⟩ : ∃ M, W3.heap.size = M := ⟨_, rfl⟩;have x4 := H3.out.1.belowAll hb4;have p4 := H3.out.2.1.belowAt hb4;have k4 := H3.out.2.2.1.belowAt hb4;have hoth4 : ∀ u ∈ l1 ++ l2, Lies base W4 u := fun u hu => (H3.out.2.2.2.1 u hu).staysAll hb4;have hcs4 : Lies base W4 c' /\ Lies base W4 s := ⟨HM.out.1.lies.staysAll hb4, ((HM.out.2.2.2 s rfl).1).staysAll hb4⟩;have HK4 : Hid (KeepB (AT.mk b pv (.slice (some ⟨g, 0, none⟩) kids.length c) ps kids page).fp w W4) := zhI (HK3.out.of_below hb4);have hne : (Value.slice (some ⟨g, 0, none⟩) kids.length c).ownBlock ≠ some M3 := fun e => by have := (H3.out.2.2.1.lt _ e).2; rw [hM3] at this; exact absurd this (Nat.lt_irrefl _)
  have hz4 : w.heap.size <= W4.heap.size := HK4.out.2.2.2.1;have hin := zlg base _ kids.length (kids.map AT.ptr) W4 k4 (C + 1) (by have := HF.out.2.2.2.1; omega) M3 [.pointer (some ⟨s.b, 0, none⟩)] rfl (by rw [<- hM3]; exact h8) hne (by intro u hu; obtain ⟨k, -, rfl⟩ := List.mem_map.1 hu; rfl) (by intro u hu; simp at hu; rw [hu]; rfl) (by have := HF.out.2.2.1; omega) (znT Hbb.out.2 hz4);rw [show ((C + 1 : Nat) : Int) = (C : Int) + 1 from rfl, Hn.out] at hin;have Hin := zhI hin;have H4 := zhI (zaI x4 (zaI p4 (zaI k4 (zaI hoth4 (zaI hcs4 hz4)))));subst hM3;rw [<- hW4] at Hin;clear hb4 x4 p4 k4 hin hoth4 hcs4 hne hz4 HK3 h8;have HW4 := zhI hW4;clear hW4;go_wp2_with fail;refine Hin.out.mono ?_;rintro e W5 ⟨v', rfl, hk5, hg5, hv5⟩;obtain ⟨gv, cv, rfl, hgvb, hgvl, hgvc, hgvm⟩ := hk5.pos (Nat.succ_pos _);rw [HW4.out] at hg5 hv5;obtain ⟨x4, p4, k4, hoth4, ⟨hc4, hs4⟩, hz4⟩ := H4.out;obtain ⟨-, ⟨m1, m2, m3⟩, d1, d2, d3⟩ := Hds.out;have hgo : (Value.slice (some ⟨g, 0, none⟩) kids.length c).ownBlock = some g := rfl;have hgb : g ≠ b := fun e => m2 (by rw [e]; simp [Value.ownBlock]);have hgk : g ∉ AT.fpL kids := d3 g (by simp [Value.ownBlock]);have hg2 : g < W2.heap.size := (H2.out.2.2.1.lt g rfl).2;have hks : ∀ u ∈ l1 ++ ([c', s] ++ l2), Lies base W4 u /\ g ∉ u.fp := fun u hu => by
   have hkn : ∀ u ∈ l1 ++ l2, g ∉ u.fp := fun u hu hy => hgk (AT.mem_fpL.2 ⟨u, by rw [HF.out.1]; rcases zmA.1 hu with h | h <;> simp [h], hy⟩)
   rcases zmA.1 hu with h | h
   . exact ⟨hoth4 u (List.mem_append_left _ h), hkn u (List.mem_append_left _ h)⟩
   .
    rcases zmA.1 h with h | h
    .
     have : u = c' \/ u = s := by simpa using h
     rcases this with rfl | rfl
     .
      refine ⟨hc4, fun hy => ?_⟩;rcases HM.out.1.fp g hy with h | h
      . exact hgk (Hsub.out.1 g h)
      . omega
     .
      refine ⟨hs4, fun hy => ?_⟩;rcases (HM.out.2.2.2 _ rfl).2.2.1 g hy with h | h
      . exact hgk (Hsub.out.1 g h)
      . omega
    . exact ⟨hoth4 u (List.mem_append_right _ h), hkn u (List.mem_append_right _ h)⟩
  have hX : AT.fpL [c', s] = c'.fp ++ s.fp := by rw [za1, za1]; simp [AT.fpL]
  have hsw := zgb (X := [c', s]) (z := W2.heap.size) (by rw [<- HF.out.1]; exact Hds.out.1.2.2) H2.out.2.2.2.2
   (by rw [hX]; exact List.nodup_append.2 ⟨HM.out.1.nodup, (HM.out.2.2.2 s rfl).2.1, fun a ha b' hb' e => (HM.out.2.2.2 s rfl).2.2.2 b' hb' (e ▸ ha)⟩)
   (by
     rw [hX]; intro y hy; rcases zmA.1 hy with h | h
     . exact HM.out.1.fp y h
     . exact (HM.out.2.2.2 s rfl).2.2.1 y h)
  obtain ⟨ks, hksE⟩ : ∃ x, l1 ++ ([c', s] ++ l2) = x := ⟨_, rfl⟩;have hkl : ks.length = n + 1 := by rw [<- hksE, <- Hn.out, HF.out.1]; simp; omega
  have hkp : (kids.map AT.ptr).take (C + 1) ++ [.pointer (some ⟨s.b, 0, none⟩)] ++ (kids.map AT.ptr).drop (C + 1) = ks.map AT.ptr := by
   have hl : C + 1 = (l1.map AT.ptr).length + 1 := by rw [List.length_map, HF.out.2.1]
   rw [<- hksE, HF.out.1, List.map_append, List.map_cons, zk5 hl, ziq hl];simp [AT.ptr, HM.out.1.b]
  rw [hkp] at hk5;rw [hksE] at hks hsw;have hv6 : gv ≠ b /\ ((Value.slice (some ⟨gv, 0, none⟩) (n + 1) cv).ownBlock = (Value.slice (some ⟨g, 0, none⟩) kids.length c).ownBlock \/ ∃ M, w.heap.size <= M /\ (Value.slice (some ⟨gv, 0, none⟩) (n + 1) cv).ownBlock = some M /\ M ∉ AT.fpL ks) := by
   rcases hv5 with h | h
   . have hgg : gv = g := (zaO (y := g) h).symm;exact ⟨by rw [hgg]; exact hgb, .inl h⟩
   . have hgg : gv = W4.heap.size := (zaO h).symm;refine ⟨by rw [hgg]; have := x4.lt; omega, .inr ⟨_, hz4, h, fun hm => ?_⟩⟩;obtain ⟨u, hu, hy⟩ := AT.mem_fpL.1 hm;exact absurd ((hks u hu).1.lt _ hy).2 (Nat.lt_irrefl _)
  have hgvk : gv ∉ AT.fpL ks := fun hm => by
   obtain ⟨u, hu, hy⟩ := AT.mem_fpL.1 hm;rcases hv5 with h | h
   . have hgg : gv = g := (zaO (y := g) h).symm;rw [hgg] at hy; exact (hks u hu).2 hy
   . have hgg : gv = W4.heap.size := (zaO h).symm;rw [hgg] at hy; exact absurd ((hks u hu).1.lt _ hy).2 (Nat.lt_irrefl _)
  have hbks : b ∉ AT.fpL ks := fun hm => by
   rcases hsw.2 b hm with h | h
   . exact m3 (by rw [HF.out.1]; exact h)
   . have := H2.out.1.lt; omega
  have x5 := x4.grown hg5 (fun e => hgb ((zaO e.symm).symm ▸ rfl));have p5 := p4.same fun y hy => hg5.block y (p4.lt y hy).2 (fun e => d1 y (by rw [hy]; simp) (by rw [zaO e.symm]; simp [Value.ownBlock]));have hks5 : ∀ u ∈ ks, Lies base W5 u := fun u hu => (hks u hu).1.grown hg5 (fun y hy => by rw [zaO hy]; exact (hks u hu).2);have hK5 := HK4.out.growL hg5 (fun r hr => .inl (by rw [zaO hr, AT.fp]; simp [Value.ownBlock]));have x6 : Bx (W5.setCell ⟨b, 2, none⟩ (.slice (some ⟨gv, 0, none⟩) (n + 1) cv)) b (nodeC false pv (.slice (some ⟨gv, 0, none⟩) (n + 1) cv) page) 129 := x5.set 2 _;have p6 : RowO (W5.setCell ⟨b, 2, none⟩ (.slice (some ⟨gv, 0, none⟩) (n + 1) cv)) base 77 2 pv ps.length (kvsC ps) := p5.same fun y hy => Below.heap_setCell _ ⟨b, 2, none⟩ _ _ (fun e => m1 ((show y = b from e) ▸ (show y ∈ pv.ownBlock.toList by rw [hy]; simp)));have k6 : RowO (W5.setCell ⟨b, 2, none⟩ (.slice (some ⟨gv, 0, none⟩) (n + 1) cv)) base 88 1 (.slice (some ⟨gv, 0, none⟩) (n + 1) cv) ks.length (ks.map AT.ptr) := by rw [hkl];exact hk5.same fun y hy => by rw [zaO hy]; exact Below.heap_setCell _ ⟨b, 2, none⟩ _ _ hv6.1
  have hks6 : ∀ u ∈ ks, Lies base (W5.setCell ⟨b, 2, none⟩ (.slice (some ⟨gv, 0, none⟩) (n + 1) cv)) u := fun u hu => (hks5 u hu).same fun y hy => Below.heap_setCell _ ⟨b, 2, none⟩ _ _ (fun e => hbks (AT.mem_fpL.2 ⟨u, hu, (show y = b from e) ▸ hy⟩));have hK6 : KeepB (AT.mk b pv (.slice (some ⟨g, 0, none⟩) kids.length c) ps kids page).fp w (W5.setCell ⟨b, 2, none⟩ (.slice (some ⟨gv, 0, none⟩) (n + 1) cv)) := hK5.set (by rw [AT.fp]; simp);have hks0 : ks ≠ [] := fun e => by rw [e] at hkl; simp at hkl
  have hsub6 : ∀ y ∈ AT.fpL ks, y ∈ AT.fpL kids \/ w.heap.size <= y := fun y hy => by
   rcases hsw.2 y hy with h | h
   . exact .inl (by rw [HF.out.1]; exact h)
   . exact .inr (by have := Hsz.out.1; omega)
  have hM6 := zco (kids' := ks) Hnd.out (fun y hy => (Hlt.out y hy).2) Hbb.out.1 hks0 x6 p6 k6 hks6 hv6.2 hsw.1 hsub6 hK6;have hsn : ks.map (fun u => u.nd.er) = l1.map (fun s => s.nd.er) ++ (insN (ky, vl) kc.nd.er).1 :: (insN (ky, vl) kc.nd.er).2.toList ++ l2.map (fun s => s.nd.er) := by rw [<- hksE, <- HM.out.2.1, <- HM.out.2.2.1];simp
  have hins := Hins.out;rw [<- hsn] at hins;have Hins2 := zhI hins;have Hfin := zhI (zaI x6 (zaI p6 (zaI k6 (zaI hks6 (zaI hK6 (zaI hM6 (zaI hkl (zaI hv6 (zaI hsw.1 (zaI hsub6 (zaI hks0 (zaI hgvk hbks))))))))))));have c5 : W5.cell? ⟨b, 2, none⟩ = some (.slice (some ⟨g, 0, none⟩) n c) := by rw [x5.cell]; rfl
  have f5 : W5.frozen? ⟨b, 2, none⟩ = false := x5.free 2;have l5 := x5.lt;clear hk5 hg5 hv5 x4 p4 k4 hoth4 hc4 hs4 hz4 m1 m2 m3 d1 d2 d3 hgo hgb hgk hg2 hks hX hsw hksE hkl hkp hv6 hgvk hbks x5 p5 hks5 hK5 x6 p6 k6 hks6 hK6 hks0 hsub6 hM6 hsn hins Hin H4 H3 H2 HM Hds HF Hsub Hins HK4 hgvl
  by_cases hsm : n + 1 <= 8
  .
   go_wp2;rw [<- HR.out];obtain ⟨-, -, -, -, -, hM6, hkl, -, -, -, hks0, -, -⟩ := Hfin.out;have hne : ks.map (fun u => u.nd.er) ≠ [] := by simpa using hks0
   refine ⟨_, none, rfl, hM6, ?_, ?_, fun s hs => by cases hs⟩
   . rw [Hins2.out, zbG hne (by rw [List.length_map, hkl]; exact hsm), Nd.er_eq, AT.nd_ps, AT.nd_kids];simp [inN, AT.kids, AT.ps, Hps.out]
   . rw [Hins2.out, zbG hne (by rw [List.length_map, hkl]; exact hsm)]; rfl
  .
   obtain rfl : n = 8 := by omega
   obtain ⟨x6, p6, k6, hks6, hK6, hM6, hkl, hv6, hkn, hsub6, hks0, hgvk, hbks⟩ := Hfin.out;have hdl : (ks.drop 5).length = 4 := by rw [List.length_drop, hkl]
   have hr6 : RowAt (fun y => (Value.slice (some ⟨gv, 0, none⟩) (8 + 1) cv).ownBlock = some y) (W5.setCell ⟨b, 2, none⟩ (.slice (some ⟨gv, 0, none⟩) (8 + 1) cv)) (some ⟨gv, 5, none⟩) ((ks.drop 5).map AT.ptr) := by
    obtain ⟨o, cc, h1, -, h2⟩ := k6.at;have h1' : some ⟨gv, 0, none⟩ = o := by have := h1; simp at this; exact this.1
    subst h1';have h3 := h2.cut 5 4;rw [<- List.map_drop, List.take_of_length_le (by rw [List.length_map, hdl]; exact Nat.le_refl _)] at h3;exact h3
   have Hcl := zhI (zdN _ ⟨gv, 5, none⟩ 4 (cv - 5) ((ks.drop 5).map AT.ptr) (by rw [List.length_map, hdl]) hr6 (by intro u hu; obtain ⟨k, -, rfl⟩ := List.mem_map.1 hu; rfl) (by decide));have Hdl := zhI hdl;have hcv5 : cv ≠ 5 := by omega
   clear hr6 hdl x6 p6 k6 hks6 hK6 hM6 hkl hv6 hkn hsub6 hks0 hgvk hbks;go_wp2_with fail;refine Hcl.out.mono ?_;rintro e W7 ⟨v7, rfl, ho7, hb7⟩;clear Hcl cX lX c5 f5 l5;obtain ⟨g7, c7, rfl, hg7b, hg7l, -, -⟩ := (RowO.own ho7).pos (by decide);have x7 := Hfin.out.1.belowAll hb7;have cX := x7.cell;have lX := x7.lt;unfold nodeC at cX;have f8 : (W7.alloc (.cells #[.bool false, .slice none 0 0, .slice (some ⟨g7, 0, none⟩) 4 c7, .int .i64 0] 129)).frozen? ⟨b, 2, none⟩ = false := (x7.alloc _).free 2;have Hx7 := zhI (zaI x7 (zaI ho7 (zaI hb7 (zaI hg7b hg7l))));clear x7 ho7 hb7 hg7b hg7l;go_wp2;rw [<- World.setCell_alloc_past _ _ _ _ lX, <- HR.out];obtain ⟨x6, p6, k6, hks6, hK6, hM6, hkl, hv6, hkn, hsub6, hks0, hgvk, hbks⟩ := Hfin.out;obtain ⟨x7, ho7, hb7, hg7b, hg7l⟩ := Hx7.out;have hlt6 := hM6.lies.lt;have hz6 : w.heap.size <= (W5.setCell ⟨b, 2, none⟩ (.slice (some ⟨gv, 0, none⟩) (8 + 1) cv)).heap.size := hK6.2.2.2.1;have hbase : base <= w.heap.size := Hbb.out.2;generalize W5.setCell ⟨b, 2, none⟩ (.slice (some ⟨gv, 0, none⟩) (8 + 1) cv) = W6 at *;have hz7 := hb7.size;have ho7' := RowO.own (zaE ho7 (znT hbase hz6));have hsplit : ks = ks.take 5 ++ ks.drop 5 := (List.take_append_drop 5 ks).symm;have hfL : AT.fpL ks = AT.fpL (ks.take 5) ++ AT.fpL (ks.drop 5) := by rw [<- zaQ, List.take_append_drop]
   obtain ⟨W8, hW8⟩ : ∃ W8, W7.alloc (.cells #[.bool false, .slice none 0 0, .slice (some ⟨g7, 0, none⟩) 4 c7, .int .i64 0] 129) = W8 := ⟨_, rfl⟩;have hB8 : Below W7.heap.size W7 W8 := by rw [<- hW8]; exact Below.one _ _
   have hP8 : Bx W8 W7.heap.size #[.bool false, .slice none 0 0, .slice (some ⟨g7, 0, none⟩) 4 c7, .int .i64 0] 129 := by rw [<- hW8]; exact Bx.new W7 _ _
   rw [hW8];have hfp6 : ∀ y ∈ (AT.mk b pv (.slice (some ⟨gv, 0, none⟩) (8 + 1) cv) ps ks page).fp, y < W6.heap.size := fun y hy => (hlt6 y hy).2;have hnd6 := hM6.nodup;rw [AT.fp] at hfp6 hnd6;obtain ⟨-, ⟨m1, m2, m3⟩, d1, d2, d3⟩ := zaZ.1 hnd6;have hb6 : b < W6.heap.size := hfp6 b (by simp);have hgv6 : gv < W6.heap.size := hfp6 gv (by simp [Value.ownBlock]);have hL6 : ∀ y ∈ AT.fpL ks, y < W6.heap.size := fun y hy => hfp6 y (List.mem_cons_of_mem _ (List.mem_append_right _ (List.mem_append_right _ hy)));have hpv6 : ∀ y ∈ pv.ownBlock.toList, y < W6.heap.size := fun y hy => hfp6 y (List.mem_cons_of_mem _ (List.mem_append_left _ hy));have x9 : Bx (W8.setCell ⟨b, 2, none⟩ (.slice (some ⟨gv, 0, none⟩) 5 5)) b (nodeC false pv (.slice (some ⟨gv, 0, none⟩) 5 5) page) 129 := (x7.belowAll hB8).set 2 _;have p9 : RowO (W8.setCell ⟨b, 2, none⟩ (.slice (some ⟨gv, 0, none⟩) 5 5)) base 77 2 pv ps.length (kvsC ps) := ((p6.belowAt hb7).belowAt hB8).same fun y hy => Below.heap_setCell _ ⟨b, 2, none⟩ _ _ (fun e => m1 ((show y = b from e) ▸ (show y ∈ pv.ownBlock.toList by rw [hy]; simp)));have k9 : RowO (W8.setCell ⟨b, 2, none⟩ (.slice (some ⟨gv, 0, none⟩) 5 5)) base 88 1 (.slice (some ⟨gv, 0, none⟩) 5 5) (ks.take 5).length ((ks.take 5).map AT.ptr) := by
    have h5 : (ks.take 5).length = 5 := by rw [List.length_take, hkl]; rfl
    rw [h5, List.map_take];have h6 := (k6.belowAt hb7).belowAt hB8;rw [hkl] at h6;exact (h6.cut (m := 5) (by decide)).same fun y hy => by rw [zaO hy]; exact Below.heap_setCell _ ⟨b, 2, none⟩ _ _ hv6.1
   have o9 : RowO (W8.setCell ⟨b, 2, none⟩ (.slice (some ⟨gv, 0, none⟩) 5 5)) base 88 1 (.slice (some ⟨g7, 0, none⟩) 4 c7) (ks.drop 5).length ((ks.drop 5).map AT.ptr) := by rw [Hdl.out];exact (ho7'.belowAt hB8).same fun y hy => by rw [zaO hy]; exact Below.heap_setCell _ ⟨b, 2, none⟩ _ _ (show g7 ≠ b by omega)
   have hks9 : ∀ u ∈ ks, Lies base (W8.setCell ⟨b, 2, none⟩ (.slice (some ⟨gv, 0, none⟩) 5 5)) u := fun u hu => (((hks6 u hu).staysAll hb7).staysAll hB8).same fun y hy => Below.heap_setCell _ ⟨b, 2, none⟩ _ _ (fun e => hbks (AT.mem_fpL.2 ⟨u, hu, (show y = b from e) ▸ hy⟩));have hP9 : Bx (W8.setCell ⟨b, 2, none⟩ (.slice (some ⟨gv, 0, none⟩) 5 5)) W7.heap.size (nodeC false (.slice none 0 0) (.slice (some ⟨g7, 0, none⟩) 4 c7) 0) 129 := hP8.setO (a := ⟨b, 2, none⟩) (show W7.heap.size ≠ b by omega) _;have hK9 : KeepB (AT.mk b pv (.slice (some ⟨g, 0, none⟩) kids.length c) ps kids page).fp w (W8.setCell ⟨b, 2, none⟩ (.slice (some ⟨gv, 0, none⟩) 5 5)) := ((hK6.of_below hb7).of_below hB8).set (by rw [AT.fp]; simp);have hkn' := hkn;rw [hfL] at hkn';obtain ⟨hn1, hn2, hn3⟩ := List.nodup_append.1 hkn';have hM := zco (kids' := ks.take 5) (kv' := .slice (some ⟨gv, 0, none⟩) 5 5) Hnd.out (fun y hy => (Hlt.out y hy).2) Hbb.out.1 (fun e => by have := congrArg List.length e; rw [List.length_take, hkl] at this; simp at this) x9 p9 k9 (fun u hu => hks9 u (List.mem_of_mem_take hu))
    (by
      rcases hv6.2 with h | ⟨M, h1, h2, h3⟩
      . exact .inl h
      . exact .inr ⟨M, h1, h2, fun hm => h3 (by rw [hfL]; exact List.mem_append_left _ hm)⟩) hn1 (fun y hy => hsub6 y (by rw [hfL]; exact List.mem_append_left _ hy)) hK9
   have hne : ks.map (fun u => u.nd.er) ≠ [] := by simpa using hks0
   have hdne : (ks.drop 5).isEmpty = false := by
    cases h : ks.drop 5 with
    | nil => have := Hdl.out; rw [h] at this; simp at this
    | cons _ _ => rfl
   have hfpS : ∀ y ∈ (AT.mk W7.heap.size (.slice none 0 0) (.slice (some ⟨g7, 0, none⟩) 4 c7) [] (ks.drop 5) 0).fp, y = W7.heap.size \/ y = g7 \/ y ∈ AT.fpL (ks.drop 5) := by intro y hy;rw [AT.fp] at hy;simpa [Value.ownBlock] using hy
   have hd6 : ∀ y ∈ AT.fpL (ks.drop 5), y ∈ AT.fpL ks := fun y hy => by rw [hfL]; exact List.mem_append_right _ hy
   refine ⟨_, some (.mk W7.heap.size (.slice none 0 0) (.slice (some ⟨g7, 0, none⟩) 4 c7) [] (ks.drop 5) 0), rfl, hM, ?_, ?_, ?_⟩
   . rw [Hins2.out, zbz hne (by rw [List.length_map, hkl]; decide), Nd.er_eq, AT.nd_ps, AT.nd_kids];simp only [inN, AT.kids, AT.ps, Hps.out, List.map_map, List.map_take];rfl
   . rw [Hins2.out, zbz hne (by rw [List.length_map, hkl]; decide)];simp only [Option.map_some];rw [Nd.er_eq, AT.nd_ps, AT.nd_kids];simp only [inN, AT.kids, AT.ps, List.map_map, List.map_drop];rfl
   .
    intro s' hs';cases hs';refine ⟨.mk _ _ _ _ _ _ (by omega) (by rw [hdne]; exact hP9) ⟨rfl, .inl ⟨rfl, rfl⟩⟩ o9 (fun u hu => hks9 u (List.mem_of_mem_drop hu)), ?_, ?_, ?_⟩
    .
     rw [AT.fp];refine zaZ.2 ⟨⟨by simp [Value.ownBlock], by simp [Value.ownBlock], hn2⟩, ⟨by simp [Value.ownBlock], by simp [Value.ownBlock]; omega, fun h => ?_⟩, by simp [Value.ownBlock], by simp [Value.ownBlock], fun y hy h => ?_⟩
     . have := hL6 _ (hd6 _ h); omega
     .
      have hy' : y = g7 := by simpa [Value.ownBlock] using hy
      have := hL6 _ (hd6 _ h); omega
    .
     intro y hy;rcases hfpS y hy with h | h | h
     . right; omega
     . right; omega
     .
      rcases hsub6 y (hd6 y h) with h | h
      . left; rw [AT.fp]; exact List.mem_cons_of_mem _ (List.mem_append_right _ (List.mem_append_right _ h))
      . exact .inr h
    .
     intro y hy hy2;rw [AT.fp] at hy2;have hy2' : y = b \/ y ∈ pv.ownBlock.toList \/ y = gv \/ y ∈ AT.fpL (ks.take 5) := by
      rcases zmC.1 hy2 with h | h
      . exact .inl h
      .
       rcases zmA.1 h with h | h
       . exact .inr (.inl h)
       .
        rcases zmA.1 h with h | h
        . exact .inr (.inr (.inl (by simpa [Value.ownBlock] using h)))
        . exact .inr (.inr (.inr h))
     have hyl : y < W6.heap.size := by
      rcases hy2' with h | h | h | h
      . omega
      . exact hpv6 y h
      . omega
      . exact hL6 y (by rw [hfL]; exact List.mem_append_left _ h)
     rcases hfpS y hy with h | h | h
     . omega
     . omega
     .
      rcases hy2' with h2 | h2 | h2 | h2
      . exact hbks (h2 ▸ hd6 y h)
      . exact d2 y h2 (hd6 y h)
      . exact hgvk (h2 ▸ hd6 y h)
      . exact hn3 y h2 y h rfl
theorem ziF {x : Kv} {n : Nd} (h : (insN x n).2 = none) : putN (some n) x = (insN x n).1 := by
 unfold putN;cases hi : insN x n with
 | mk a b => rw [hi] at h; simp only at h; subst h; simp only [hi]
theorem ziB {x : Kv} {n b : Nd} (h : (insN x n).2 = some b) : putN (some n) x = inN [(insN x n).1, b] := by
 unfold putN;cases hi : insN x n with
 | mk a b => rw [hi] at h; simp only at h; subst h; simp only [hi]
def RootR (base : Nat) (w : World) (o : Option AT) (r : Option Nd) (e : Ending) (w' : World) : Prop :=
 ∃ o', e = .returned (rootV o') /\ (∀ t, o' = some t -> Lies base w' t /\ t.fp.Nodup) /\ o'.map (fun t => t.nd.er) = r /\ (∀ y ∈ fpO o', y ∈ fpO o \/ w.heap.size <= y) /\ KeepB (fpO o) w w'
set_option maxRecDepth 100000 in
set_option maxHeartbeats 2000000 in
theorem zgr (base : Nat) (x : Kv) (w : World) (hbw : base <= w.heap.size) :
  Calls Tryz.prog 74 #[.pointer none, kvV x] w (RootR base w none (some (putN none x))) := by
 obtain ⟨ky, vl⟩ := x;obtain ⟨R, hR⟩ : ∃ R, RootR base w none (some (putN none (ky, vl))) = R := ⟨_, rfl⟩;rw [hR];have HR := zhI hR;have Hbw := zhI hbw;clear hR hbw;go_enter Tryz.func74, Tryz.ntmps74;go_wp2;rw [<- HR.out];have hb := Hbw.out;have hz : w.heap.size + 2 = w.heap.size + 1 + 1 := rfl;have hB0 : Below w.heap.size w (w.alloc (.cells #[.string ky, .string vl] 77)) := Below.one _ _;have hx1 := Bx.newAt (w.alloc (.cells #[.string ky, .string vl] 77)) #[.string ky, .string vl] 77 (w.heap.size + 1) (by simp);have hB1 := hB0.alloc (by simp) (.cells #[.string ky, .string vl] 77);refine ⟨some (.mk (w.heap.size + 2) (.slice (some ⟨w.heap.size + 1, 0, none⟩) 1 1) (.slice none 0 0) [(ky, vl)] [] 0), rfl, ?_, ?_, ?_, ?_⟩
 .
  intro t ht;cases ht;refine ⟨.mk _ _ _ _ _ _ (by omega) (Bx.newAt _ _ _ _ (by simp)) ?_ ⟨rfl, .inl ⟨rfl, rfl⟩⟩ (fun _ h => by cases h), ?_⟩
  . exact RowO.mk' rfl (by omega) (hx1.alloc _) (Nat.le_refl _) (by decide) (Nat.le_refl _) rfl
  . rw [AT.fp]; simp [Value.ownBlock, AT.fpL]
 . simp only [Option.map_some];rw [Nd.er_eq, AT.nd_ps, AT.nd_kids]; rfl
 .
  intro y hy;right;have : y = w.heap.size + 2 \/ y = w.heap.size + 1 := by rw [fpO, AT.fp] at hy;simpa [Value.ownBlock, AT.fpL] using hy
  omega
 . exact (KeepB.refl _ w).of_below (hB1.alloc (by simp; omega) _)
set_option maxRecDepth 100000 in
set_option maxHeartbeats 2000000 in
theorem zg4 (base : Nat) (x : Kv) (t : AT) (w : World) (h : Lies base w t) (hnd : t.fp.Nodup) (hs : Shp t.nd) (ha : Asc t.nd.prs) (hbw : base <= w.heap.size) :
  Calls Tryz.prog 74 #[t.ptr, kvV x] w (RootR base w (some t) (some (putN (some t.nd.er) x))) := by
 obtain ⟨ky, vl⟩ := x;obtain ⟨R, hR⟩ : ∃ R, RootR base w (some t) (some (putN (some t.nd.er) (ky, vl))) = R := ⟨_, rfl⟩;rw [hR];have HR := zhI hR;have hB1 : Below w.heap.size w (w.alloc (.cells #[.string ky, .string vl] 77)) := Below.one _ _;have hz1 : w.heap.size <= (w.alloc (.cells #[.string ky, .string vl] 77)).heap.size := hB1.size;have hp := znj base (ky, vl) t _ (h.staysAll hB1) hnd hs ha (znT hbw hz1);have Hp := zhI hp;have HK1 : Hid (KeepB t.fp w (w.alloc (.cells #[.string ky, .string vl] 77))) := zhI ((KeepB.refl _ w).of_below hB1);have Hz := zhI (zaI hz1 (zaI hbw h.lt));have hpt : t.ptr = .pointer (some ⟨t.b, 0, none⟩) := rfl;rw [hpt];clear hR hB1 hz1 hp h hnd hs ha hbw hpt;go_enter Tryz.func74, Tryz.ntmps74;go_wp2_with fail;refine Hp.out.mono ?_;rintro e W2 ⟨t', o, rfl, hM, he1, he2, hsx⟩;have HM := zhI (zaI hM (zaI he1 (zaI he2 hsx)));have htb : t.b = t'.b := hM.b.symm;rw [htb];cases o with
 | none =>
  simp only [rootV];clear hM he1 he2 hsx Hp htb;go_wp2;rw [<- HR.out];obtain ⟨hM, he1, he2, -⟩ := HM.out;refine ⟨some t', rfl, ?_, ?_, ?_, ?_⟩
  . intro u hu; cases hu; exact ⟨hM.lies, hM.nodup⟩
  . rw [ziF he2.symm, <- he1]; rfl
  .
   intro y hy;rcases hM.fp y hy with h | h
   . exact .inl h
   . exact .inr (znT Hz.out.1 h)
  . exact HK1.out.trans hM.keep
 | some s =>
  simp only [rootV, AT.ptr];clear hM he1 he2 hsx Hp htb;go_wp2;rw [<- HR.out];obtain ⟨hM, he1, he2, hsx⟩ := HM.out;obtain ⟨hsl, hsn, hsf, hsd⟩ := hsx s rfl;obtain ⟨hz1, hbw, hlt⟩ := Hz.out;have hz2 : (w.alloc (.cells #[.string ky, .string vl] 77)).heap.size <= W2.heap.size := hM.keep.2.2.2.1;have hK2 := HK1.out.trans hM.keep;have hB3 : Below W2.heap.size W2 (W2.alloc (.cells #[.pointer (some ⟨t'.b, 0, none⟩), .pointer (some ⟨s.b, 0, none⟩)] 88)) := Below.one _ _;have hx3 := Bx.new W2 #[.pointer (some ⟨t'.b, 0, none⟩), .pointer (some ⟨s.b, 0, none⟩)] 88;have hB4 := hB3.alloc (by simp) (.cells #[.bool false, .slice none 0 0, .slice (some ⟨W2.heap.size, 0, none⟩) 2 2, .int .i64 0] 129);have hltT := hM.lies.lt;have hltS := hsl.lt;refine ⟨some (.mk (W2.heap.size + 1) (.slice none 0 0) (.slice (some ⟨W2.heap.size, 0, none⟩) 2 2) [] [t', s] 0), rfl, ?_, ?_, ?_, ?_⟩
  .
   intro u hu;cases hu;refine ⟨.mk _ _ _ _ _ _ (by omega) (Bx.newAt _ _ _ _ (by simp)) ⟨rfl, .inl ⟨rfl, rfl⟩⟩ ?_ ?_, ?_⟩
   . exact RowO.mk' rfl (by omega) (hx3.alloc _) (Nat.le_refl _) (by decide) (Nat.le_refl _) rfl
   .
    intro c hc;have : c = t' \/ c = s := by simpa using hc
    rcases this with rfl | rfl
    . exact hM.lies.staysAll hB4
    . exact hsl.staysAll hB4
   .
    rw [AT.fp];have hL : AT.fpL [t', s] = t'.fp ++ s.fp := by rw [za1, za1]; simp [AT.fpL]
    have hLl : ∀ y ∈ AT.fpL [t', s], y < W2.heap.size := fun y hy => by
     rw [hL] at hy;rcases zmA.1 hy with h | h
     . exact (hltT y h).2
     . exact (hltS y h).2
    refine zaZ.2 ⟨⟨by simp [Value.ownBlock], by simp [Value.ownBlock], ?_⟩, ⟨by simp [Value.ownBlock], by simp [Value.ownBlock], fun h => ?_⟩, by simp [Value.ownBlock], by simp [Value.ownBlock], fun y hy h => ?_⟩
    . rw [hL];exact List.nodup_append.2 ⟨hM.nodup, hsn, fun a ha b hb e => hsd b hb (e ▸ ha)⟩
    . have := hLl _ h; omega
    .
     have hy' : y = W2.heap.size := by simpa [Value.ownBlock] using hy
     have := hLl _ h; omega
  . rw [ziB he2.symm, <- he1];simp only [Option.map_some];rw [Nd.er_eq, AT.nd_ps, AT.nd_kids];rfl
  .
   intro y hy;rw [fpO, AT.fp] at hy;have : y = W2.heap.size + 1 \/ y = W2.heap.size \/ y ∈ t'.fp \/ y ∈ s.fp := by simpa [Value.ownBlock, AT.fpL] using hy
   rcases this with h | h | h | h
   . right; omega
   . right; omega
   .
    rcases hM.fp y h with h | h
    . exact .inl h
    . right; omega
   .
    rcases hsf y h with h | h
    . exact .inl h
    . right; omega
  . exact hK2.of_below hB4
theorem zmz (base : Nat) (x : Kv) (o : Option AT) (w : World) (h : ∀ t, o = some t -> Lies base w t /\ t.fp.Nodup /\ Shp t.nd /\ Asc t.nd.prs) (hbw : base <= w.heap.size) :
  Calls Tryz.prog 74 #[rootV o, kvV x] w (RootR base w o (some (putN (o.map fun t => t.nd.er) x))) := by
 cases o with
 | none => exact zgr base x w hbw
 | some t => obtain ⟨h1, h2, h3, h4⟩ := h t rfl;exact zg4 base x t w h1 h2 h3 h4 hbw
theorem zeu {key : ByteArray} {n : Nd} (h : n.kids = []) : remN key n = lfN (zao n.ps key) := by rw [remN, if_pos h]
theorem zcj {l : List Kv} {key : ByteArray} (h : ∀ q ∈ l, kLt key q.1 = true) : zao l key = l := by
 unfold zao;refine List.filter_eq_self.2 fun q hq => ?_;have := zcd (h q hq);simpa using fun e => this e.symm
theorem zek {ps : List Kv} (key : ByteArray) (h : Asc ps) : zao ps key = if findB ps key then ps.take (findI ps key) ++ ps.drop (findI ps key + 1) else ps := by
 induction ps with
 | nil => simp [zao, findB, findI]
 | cons p l ih =>
  obtain ⟨h1, h2⟩ := List.pairwise_cons.1 h;have ih' := ih h2;unfold findB findI at ih' |-
  by_cases hp : kLt p.1 key = true
  .
   have hne := zcd hp;have e1 : zao (p :: l) key = p :: zao l key := by unfold zao;rw [List.filter_cons, if_pos (by simpa using hne)]
   simp only [List.takeWhile_cons, hp, if_true, zlC, List.getElem?_cons_succ, List.take_succ_cons, List.drop_succ_cons, List.cons_append] at ih' |-;rw [e1, ih'];split <;> rfl
  .
   have hp' : kLt p.1 key = false := by simpa using hp
   simp only [List.takeWhile_cons, hp', List.length_nil, List.getElem?_cons_zero, Option.map_some, Option.some.injEq, List.take_zero, List.nil_append, List.drop_succ_cons, List.drop_zero, Bool.false_eq_true, if_false, Nat.zero_add]
   by_cases hk : p.1 = key
   .
    have e1 : zao (p :: l) key = zao l key := by unfold zao;rw [List.filter_cons, if_neg (by simpa using hk)]
    rw [e1, zcj (fun q hq => by rw [<- hk]; exact h1 q hq)];simp [hk]
   .
    have hlt : kLt key p.1 = true := by
     cases hc : kLt key p.1 with
     | true => rfl
     | false => exact absurd (zbU hp' hc) hk
    rw [zcj (fun q hq => by
     rcases zmC.1 hq with h | h
     . rw [h]; exact hlt
     . exact zaX hlt (h1 q h))]
    simp [hk]
theorem RowO.lit {w : World} {base n k : Nat} {e : TypeId} {v : Value} {xs : List Value} (h : RowO w base e k v n xs) : ∃ o c, v = .slice o n c := by
 obtain ⟨o, c, h1, -, -⟩ := h.at;exact ⟨o, c, h1⟩
def RemR (base : Nat) (key : ByteArray) (t : AT) (w : World) (e : Ending) (w' : World) : Prop :=
 e = .returned (.tuple #[]) /\ ∃ t', Mut base w w' t t' /\ t'.nd.er = remN key t.nd.er
set_option maxRecDepth 100000 in
set_option maxHeartbeats 2000000 in
theorem zhO (base : Nat) (ky : ByteArray) (t : AT) (w : World) (h : Lies base w t) (hnd : t.fp.Nodup) (hk0 : t.kids = []) (h3 : t.ps.length <= 100) (ha : Asc t.ps) :
  Calls Tryz.prog 121 #[t.ptr, .string ky] w (RemR base ky t w) := by
 obtain ⟨b, pv, kv, ps, kids, page⟩ := t;simp only [AT.kids, AT.ps] at hk0 h3 ha;subst hk0;have hwo := zek ky ha;have hx := h.hx;have hp := h.hp;have hk := h.hk;have hbb := h.hb;simp only [AT.b, AT.pv, AT.kv, AT.ps, AT.kids, AT.page, List.isEmpty_nil] at hx hp hk hbb;simp only [AT.ptr, AT.b];obtain ⟨R, hR⟩ : ∃ R, RemR base ky (.mk b pv kv ps [] page) w = R := ⟨_, rfl⟩;rw [hR];have HR := zhI hR;have hrem : remN ky (AT.mk b pv kv ps [] page).nd.er = lfN (zao ps ky) := by rw [zeu (by rw [Nd.er_kids, AT.nd_kids]; rfl), Nd.er_ps, AT.nd_ps]; rfl
 have hnd2 : (b :: (pv.ownBlock.toList ++ (kv.ownBlock.toList ++ AT.fpL []))).Nodup := by rw [AT.fp] at hnd; exact hnd
 obtain ⟨-, ⟨m1, m2, -⟩, d1, -, -⟩ := zaZ.1 hnd2;obtain ⟨F, hF⟩ : ∃ F, findI ps ky = F := ⟨_, rfl⟩;obtain ⟨fb, hfb⟩ : ∃ F, findB ps ky = F := ⟨_, rfl⟩;have hfd := zhF base b true pv kv page ps ky w hx hp ha (by omega);rw [hF, hfb] at hfd hwo;have Hfd := zhI hfd;have Hrem := zhI hrem;have HX := zhI (zaI hx (zaI hp hk));have HL := zhI (zaI h (zaI hnd2 hbb));have Hmd := zhI (zaI m1 (zaI m2 d1));have cX := hx.cell;have lX := hx.lt;unfold nodeC at cX;clear hR hrem hnd hfd h hx hp hk hnd2 m1 m2 d1 hbb;go_enter Tryz.func121, Tryz.ntmps121;go_wp2_with fail;refine Hfd.out.mono ?_;rintro e W ⟨rfl, hb1⟩;have x1 := HX.out.1.belowAll hb1;have p1 := HX.out.2.1.belowAt hb1;have k1 := HX.out.2.2.belowAt hb1;clear cX lX Hfd;have hKW := (KeepB.refl (AT.mk b pv kv ps [] page).fp w).of_below hb1;have cX := x1.cell;have lX := x1.lt;unfold nodeC at cX;cases fb with
 | false => have Hwo := zhI hwo;have HK := zhI (zaI hKW (zaI x1 (zaI p1 k1)));clear hwo hF hfb hb1 x1 p1 k1 hKW;go_wp2;refine bodyPost_ret (v := .tuple #[]) (by simp [results, Tryz.results121, go_sem]) rfl ?_;rw [<- HR.out];obtain ⟨hK, x1, p1, k1⟩ := HK.out;obtain ⟨h, hnd2, hbb⟩ := HL.out;refine ⟨rfl, _, zeh hnd2 (fun y hy => (h.lt y hy).2) hbb x1 p1 k1 (.inl rfl) hK, ?_⟩;rw [Hrem.out, Hwo.out, Nd.er_eq, AT.nd_ps, AT.nd_kids];rfl
 | true =>
  have hFl : F < ps.length := by
   unfold findB at hfb;rw [hF] at hfb;have := of_decide_eq_true hfb;rcases Nat.lt_or_ge F ps.length with h | h
   . exact h
   . rw [List.getElem?_eq_none (by omega)] at this; cases this
  obtain ⟨p, hp⟩ : ∃ p, ps.length = p + 1 := ⟨ps.length - 1, by omega⟩;have hin := zk1 base pv p (kvsC ps) W (by rw [<- hp]; exact p1) F (by omega) (zb4 _) (by omega);have Hin := zhI hin;have Hwo := zhI hwo;have HK := zhI (zaI hKW (zaI x1 (zaI p1 (zaI k1 (zaI hp hFl)))));have hFn : F <= 1000 := by omega
  clear hwo hF hfb hb1 x1 p1 k1 hKW hin hp hFl;go_wp2_with fail;refine Hin.out.mono ?_;rintro e W3 ⟨v', rfl, hp3, hg3, hv3⟩;obtain ⟨o3, c3, rfl⟩ := hp3.lit;obtain ⟨hK, x1, p1, k1, hpl, hFl⟩ := HK.out;obtain ⟨m1, m2, d1⟩ := Hmd.out;have x3 := x1.grown hg3 (fun e => m1 (by rw [<- e]; simp));have k3 := k1.same fun y hy => hg3.block y (k1.lt y hy).2 (fun e => d1 y (by rw [<- e]; simp) (by rw [hy]; simp));have HK3 := hK.growL hg3 (fun r hr => .inl (by rw [AT.fp, hr]; simp));have e3 : W3.cell? ⟨b, 1, none⟩ = some pv := by rw [x3.cell]; rfl
  have f3 : W3.frozen? ⟨b, 1, none⟩ = false := x3.free 1;have l3 := x3.lt;have x4 : Bx (W3.setCell ⟨b, 1, none⟩ (.slice o3 p c3)) b (nodeC true (.slice o3 p c3) kv page) 129 := x3.set 1 _;have k4 : RowO (W3.setCell ⟨b, 1, none⟩ (.slice o3 p c3)) base 88 1 kv 0 [] := k3.same fun y hy => Below.heap_setCell _ ⟨b, 1, none⟩ _ _ (fun e => m2 ((show y = b from e) ▸ (show y ∈ kv.ownBlock.toList by rw [hy]; simp)));have p4 : RowO (W3.setCell ⟨b, 1, none⟩ (.slice o3 p c3)) base 77 2 (.slice o3 p c3) (ps.take F ++ ps.drop (F + 1)).length (kvsC (ps.take F ++ ps.drop (F + 1))) := by
   have e1 : (ps.take F ++ ps.drop (F + 1)).length = p := by simp; omega
   have e2 : kvsC (ps.take F ++ ps.drop (F + 1)) = (kvsC ps).take (F * 2) ++ (kvsC ps).drop ((F + 1) * 2) := by rw [<- zeJ, <- zeI]; simp [kvsC]
   rw [e1, e2];refine hp3.same fun y hy => Below.heap_setCell _ ⟨b, 1, none⟩ _ _ (fun e => ?_);rw [hv3] at hy;exact m1 ((show y = b from e) ▸ (show y ∈ pv.ownBlock.toList by rw [hy]; simp))
  have HF := zhI (zaI x4 (zaI k4 (zaI p4 (zaI (HK3.set (k := 1) (v := .slice o3 p c3) (b := b) (by rw [AT.fp]; simp)) hv3))));clear hK x1 p1 k1 hpl hFl m1 m2 d1 k3 HK3 x4 k4 p4 hp3 hg3 hv3 x3 cX lX Hin;go_wp2;refine bodyPost_ret (v := .tuple #[]) (by simp [results, Tryz.results121, go_sem]) rfl ?_;rw [<- HR.out];obtain ⟨x4, k4, p4, hK4, hv3⟩ := HF.out;obtain ⟨h, hnd2, hbb⟩ := HL.out;refine ⟨rfl, _, zeh hnd2 (fun y hy => (h.lt y hy).2) hbb x4 p4 k4 (.inl hv3) hK4, ?_⟩;rw [Hrem.out, Hwo.out, if_pos trivial, Nd.er_eq, AT.nd_ps, AT.nd_kids];rfl
theorem zm3 (base : Nat) (t : AT) (w : World) (h : Lies base w t) : Calls Tryz.prog 166 #[t.ptr] w fun e w' => e = .returned (.bool t.nd.small) /\ w' = w := by
 have hs : t.nd.small = if t.kids.isEmpty then decide (t.ps.length < 2) else decide (t.kids.length < 4) := by
  obtain ⟨b, pv, kv, ps, kids, page⟩ := t;unfold Nd.small;rw [AT.nd_kids, AT.nd_ps];cases kids with
  | nil => simp [AT.kids, AT.ps]
  | cons c l => rw [if_neg (by simp [AT.kids])];simp only [AT.kids, AT.ps, List.length_map, List.isEmpty_cons, Bool.false_eq_true, if_false];exact decide_eq_decide.2 Iff.rfl
 obtain ⟨r, hr⟩ : ∃ r, t.nd.small = r := ⟨_, rfl⟩;rw [hr];rw [hr] at hs;have Hs := zhI hs;have hx := h.hx;obtain ⟨o1, c1, h1⟩ := h.hp.lit;obtain ⟨o2, c2, h2⟩ := h.hk.lit;rw [h1, h2] at hx;have hp : t.ptr = .pointer (some ⟨t.b, 0, none⟩) := rfl;rw [hp];generalize t.b = b at *;obtain ⟨n, hn⟩ : ∃ n, t.ps.length = n := ⟨_, rfl⟩;obtain ⟨m, hm⟩ : ∃ n, t.kids.length = n := ⟨_, rfl⟩;obtain ⟨lf, hlf⟩ : ∃ x, t.kids.isEmpty = x := ⟨_, rfl⟩;rw [hn, hm, hlf] at hx hs;have cX := hx.cell;have lX := hx.lt;unfold nodeC at cX;clear hr Hs h h1 h2 hp hn hm hlf hx;have Hs := zhI hs;clear hs;go_enter Tryz.func166, Tryz.ntmps166;cases lf with
 | true =>
  by_cases h2 : n < 2
  . go_wp2;go_ret;exact ⟨by rw [Hs.out]; simp [h2] <;> omega, rfl⟩
  . go_wp2;go_ret;exact ⟨by rw [Hs.out]; simp [h2] <;> omega, rfl⟩
 | false =>
  by_cases h2 : m < 4
  . go_wp2;go_ret;exact ⟨by rw [Hs.out]; simp [h2] <;> omega, rfl⟩
  . go_wp2;go_ret;exact ⟨by rw [Hs.out]; simp [h2] <;> omega, rfl⟩
set_option maxRecDepth 100000 in
set_option maxHeartbeats 2000000 in
theorem zkm (base : Nat) (t : AT) (w : World) (h : Lies base w t) : Calls Tryz.prog 193 #[t.ptr] w fun e w' => e = .returned (.bool t.nd.rich) /\ w' = w := by
 have hs : t.nd.rich = if t.kids.isEmpty then decide (2 < t.ps.length) else decide (4 < t.kids.length) := by
  obtain ⟨b, pv, kv, ps, kids, page⟩ := t;unfold Nd.rich;rw [AT.nd_kids, AT.nd_ps];cases kids with
  | nil => simp [AT.kids, AT.ps]
  | cons c l => rw [if_neg (by simp [AT.kids])];simp only [AT.kids, AT.ps, List.length_map, List.isEmpty_cons, Bool.false_eq_true, if_false];exact decide_eq_decide.2 Iff.rfl
 obtain ⟨r, hr⟩ : ∃ r, t.nd.rich = r := ⟨_, rfl⟩;rw [hr];rw [hr] at hs;have Hs := zhI hs;have hx := h.hx;obtain ⟨o1, c1, h1⟩ := h.hp.lit;obtain ⟨o2, c2, h2⟩ := h.hk.lit;rw [h1, h2] at hx;have hp : t.ptr = .pointer (some ⟨t.b, 0, none⟩) := rfl;rw [hp];generalize t.b = b at *;obtain ⟨n, hn⟩ : ∃ n, t.ps.length = n := ⟨_, rfl⟩;obtain ⟨m, hm⟩ : ∃ n, t.kids.length = n := ⟨_, rfl⟩;obtain ⟨lf, hlf⟩ : ∃ x, t.kids.isEmpty = x := ⟨_, rfl⟩;rw [hn, hm, hlf] at hx hs;have cX := hx.cell;have lX := hx.lt;unfold nodeC at cX;clear hr Hs h h1 h2 hp hn hm hlf hx;have Hs := zhI hs;clear hs;go_enter Tryz.func193, Tryz.ntmps193;cases lf with
 | true =>
  by_cases h2 : 2 < n
  . go_wp2;go_ret;exact ⟨by rw [Hs.out]; simp [h2] <;> omega, rfl⟩
  . go_wp2;go_ret;exact ⟨by rw [Hs.out]; simp [h2] <;> omega, rfl⟩
 | false =>
  by_cases h2 : 4 < m
  . go_wp2;go_ret;exact ⟨by rw [Hs.out]; simp [h2] <;> omega, rfl⟩
  . go_wp2;go_ret;exact ⟨by rw [Hs.out]; simp [h2] <;> omega, rfl⟩
set_option maxRecDepth 100000 in
set_option maxHeartbeats 2000000 in
theorem zmY (base : Nat) (t : AT) (w : World) (h : Lies base w t) (h1 : t.ps.length <= 1000) (h2 : t.kids.length <= 1000) : Calls Tryz.prog 192 #[t.ptr] w fun e w' => e = .returned (.int .i64 t.nd.size) /\ Below w.heap.size w w' := by
 have hs : t.nd.size = t.ps.length + t.kids.length := by unfold Nd.size;rw [AT.nd_kids, AT.nd_ps, List.length_map]
 rw [hs];have hx := h.hx;obtain ⟨o1, c1, e1⟩ := h.hp.lit;obtain ⟨o2, c2, e2⟩ := h.hk.lit;rw [e1, e2] at hx;have hp : t.ptr = .pointer (some ⟨t.b, 0, none⟩) := rfl;rw [hp];generalize t.b = b at *;obtain ⟨n, hn⟩ : ∃ n, t.ps.length = n := ⟨_, rfl⟩;obtain ⟨m, hm⟩ : ∃ n, t.kids.length = n := ⟨_, rfl⟩;rw [hn, hm] at hx;rw [hn] at h1;rw [hm] at h2;rw [hn, hm];have cX := hx.cell;have lX := hx.lt;unfold nodeC at cX;clear hs h e1 e2 hp hn hm hx;have cQ := Lat.cells w;go_enter Tryz.func192, Tryz.ntmps192;go_upto_region 1 with fail
 refine zay (by kernel_rfl) (by kernel_rfl) ?_
 repeat (any_goals (first | go_big_quiet_skip | (go_big_quiet_want; go_big_quiet_op; first | go_big_quiet_on | go_big_quiet_call ((fail))) | quiet_step ((fail))))
 refine wpQuiet_nil ?_;rintro W2 ⟨⟨_, hb2⟩, rfl⟩;go_wp2;refine bodyPost_ret (v := .int .i64 ((n + m : Nat) : Int)) (by simp [results, Tryz.results192, go_sem]) rfl ?_;exact ⟨rfl, hb2⟩
end Go.Proofs.YtlefmmhlpgmbjaaGreat
