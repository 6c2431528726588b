/- (*placer).place, whole: by induction over the tree. Plain: what the program loads is what the reference loads and finds well formed. -/
import Derived.Test.YtlefmmhlpgmbjaaGreatS20
import Derived.Test.YtlefmmhlpgmbjaaGreatS18
import Derived.Test.YtlefmmhlpgmbjaaGreatS01
namespace Go.Proofs.YtlefmmhlpgmbjaaGreat
set_option maxRecDepth 100000
open Go.RowKit
def zmh (base pb kb ub kn : Nat) (f : ByteArray -> Option Int) (t : AT) (tv : Value) (un : Nat) (used : List Int) (o : Option (Nd × Plc)) (w : World) (e : Ending) (w' : World) : Prop :=
 KeepB (pb :: ub :: (tv.ownBlock.toList ++ t.fp)) w w' /\ ((o = none /\ e = .returned (.bool false)) \/
  ∃ n' q t' fo' fc' tv', o = some (n', q) /\ e = .returned (.bool true) /\ t'.b = t.b /\ t'.fp = t.fp /\ t'.nd = n' /\ Lies base w' t' /\ PlS w' base pb kb ub kn f fo' fc' tv' (un + t.nd.pre.length) q (used ++ n'.nodes.map Nd.page) /\ ∀ g, tv'.ownBlock = some g -> tv.ownBlock = some g \/ w.heap.size <= g)
theorem Nd.nodes_eq (n : Nd) : n.nodes = (n.kids.map Nd.nodes).flatten ++ [n] := by
 cases n with | mk ps ks g =>
  have : ∀ l : List Nd, Nd.nodesK l = (l.map Nd.nodes).flatten := by
   intro l
   induction l with
   | nil => rfl
   | cons x l ih => rw [Nd.nodesK, ih]; rfl
  rw [Nd.nodes, this]; rfl
theorem Shp.encOk {n : Nd} (h : Shp n) (hp : ∀ k ∈ n.kids, 0 <= k.page /\ k.page <= 1000000) : EncOk n := by
 cases h with
 | lf ps pg h1 h3 hk => exact .inl ⟨rfl, h3, hk⟩
 | inn kids pg h2 h8 hk => exact .inr ⟨h2, h8, fun k hk' => ⟨(hk k hk').first, (hk k hk').least, (hp k hk').1, (hp k hk').2⟩⟩
set_option maxRecDepth 100000 in
set_option maxHeartbeats 4000000 in
theorem zlZ (base pb kb ub kn : Nat) (f : ByteArray -> Option Int) : ∀ (t : AT) (w : World) (fo : Option Addr) (fc : Nat) (tv : Value) (un : Nat) (p : Plc) (used : List Int) (ta tb th : Nat), 1 <= ta -> 2 <= tb -> Tm ta tb th t.nd -> Lies base w t -> t.fp.Nodup -> PlS w base pb kb ub kn f fo fc tv un p used ->
  PlcB (fun s => f (bs s)) p -> base <= w.heap.size -> un + t.nd.pre.length <= 1000000 -> p.ws.length + t.nd.pre.length <= 1000000 ->
  Calls Tryz.prog 76 #[.pointer (some ⟨pb, 0, none⟩), t.ptr] w (zmh base pb kb ub kn f t tv un used (za0 (fun s => f (bs s)) t.nd p) w) := by
 intro t
 induction t using AT.ind with
 | h b pv kv ps kids page ih =>
 intro w fo fc tv un p used ta tb th hta htb tm h hnd hS hB hbw hun hws;obtain ⟨R, hR⟩ : ∃ R, zmh base pb kb ub kn f (.mk b pv kv ps kids page) tv un used (za0 (fun s => f (bs s)) (AT.mk b pv kv ps kids page).nd p) w = R := ⟨_, rfl⟩;rw [hR];have HR := zhI hR;obtain ⟨D1, D2, D3, D4, D5, D6, D7⟩ := hS.apart h;have hx := h.hx;have hk := h.hk;have hc := h.hc;simp only [AT.b, AT.pv, AT.kv, AT.kids, AT.page] at hx hk hc;simp only [AT.ptr, AT.b];obtain ⟨ok, ck, lk⟩ := hk.lit;subst lk;obtain ⟨n, hn⟩ : ∃ n, kids.length = n := ⟨_, rfl⟩;have cX := hx.cell;have lX := hx.lt;unfold nodeC at cX;have hn8 : kids.length <= 8 := by have := (tm.shp hta htb).kids_len;rw [AT.nd_kids, List.length_map] at this;exact this
 rw [hn] at cX hn8;have HIH := zhI ih;obtain ⟨ip, hip, hz0, hz1, hz2⟩ := info_parts zg0;have Hi := zhI (zaI hip (zaI hz0 (zaI hz1 hz2)));clear hip hz0 hz1 hz2;have H0 := zhI (zaI h (zaI hnd (zaI hS (zaI hB (zaI hbw (zaI hun (zaI hws tm)))))));have HD := zhI (zaI D1 (zaI D2 (zaI D3 (zaI D4 (zaI D5 (zaI D6 D7))))));have Hn := zhI hn;clear ih h hnd hS hB hbw hun hws tm D1 D2 D3 D4 D5 D6 D7 hx hk hc hn hR;go_enter Tryz.func76, Tryz.ntmps76;go_wp2;clear cX lX
 go_loopw [15] (fun i wr => ∃ (k : Nat) (Kd : List AT) (fo' : Option Addr) (fc' : Nat) (tv' : Value) (q : Plc), k <= n /\ i = .int .i64 k /\ Bx wr b (nodeC kids.isEmpty pv (.slice ok n ck) page) 129 /\
  Hid (Kd.length = k /\ zaT (fun s => f (bs s)) (kids.map AT.nd) p = (zaT (fun s => f (bs s)) ((kids.drop k).map AT.nd) q).map (fun x => (Kd.map AT.nd ++ x.1, x.2)) /\ (∀ s ∈ Kd ++ kids.drop k, Lies base wr s) /\ Kd.map AT.ptr = (kids.take k).map AT.ptr /\ Kd.map AT.fp = (kids.take k).map AT.fp /\ Kd.map (fun s => s.nd.er) = (kids.take k).map (fun s => s.nd.er) /\ (∀ s ∈ Kd, 0 <= s.nd.page /\ s.nd.page <= 1000000)) /\
  Hid (PlS wr base pb kb ub kn f fo' fc' tv' (un + (((kids.take k).map AT.nd).map Nd.pre).flatten.length) q (used ++ ((Kd.map AT.nd).map Nd.nodes).flatten.map Nd.page) /\ PlcB (fun s => f (bs s)) q /\ q.ws.length <= p.ws.length + (((kids.take k).map AT.nd).map Nd.pre).flatten.length) /\
  Hid ((∀ g, tv'.ownBlock = some g -> tv.ownBlock = some g \/ w.heap.size <= g) /\ KeepB (pb :: ub :: (tv.ownBlock.toList ++ (AT.mk b pv (.slice ok kids.length ck) ps kids page).fp)) w wr /\
   RowO wr base 88 1 (.slice ok kids.length ck) kids.length (kids.map AT.ptr) /\ RowO wr base 77 2 pv ps.length (kvsC ps))) (fun i _ => n - (intOf i).toNat)
 case atStart => obtain ⟨h, hnd, hS, hB, hbw, hun, hws, tm⟩ := H0.out;refine ⟨0, [], fo, fc, tv, p, by omega, rfl, by rw [<- Hn.out]; exact h.hx, zhI ⟨rfl, by simp, fun s hs => h.hc s (show s ∈ kids by simpa using hs), rfl, rfl, rfl, fun s hs => by cases hs⟩, zhI ⟨by simpa using hS, hB, by omega⟩, zhI ⟨fun g hg => .inl hg, KeepB.refl _ _, h.hk, h.hp⟩⟩
 case round =>
  obtain ⟨k, Kd, fo1, fc1, tv1, q, hk, rfl, hx, H1, H2, H3⟩ := hrel;have cX := hx.cell;have lX := hx.lt;unfold nodeC at cX
  by_cases hlt : k < n
  .
   have hlk : k < kids.length := by rw [Hn.out]; exact hlt
   obtain ⟨q1, q2, q3, q4, q5, q6, q7⟩ := H1.out;obtain ⟨r1, r2, r3⟩ := H2.out;obtain ⟨s1, s2, s3, s4⟩ := H3.out;obtain ⟨h, hnd, hS, hB, hbw, hun, hws, tm⟩ := H0.out;obtain ⟨g, c, e1, c0, hle, hg⟩ := zaY s3 hlk;have hgl := (s3.lt g hg).2;obtain ⟨rfl, rfl⟩ : some ⟨g, 0, none⟩ = ok /\ c = ck := by have h := e1; simp at h; exact ⟨h.1.symm, h.2.symm⟩
   have hkm : kids[k] ∈ kids := List.getElem_mem hlk;have hdr : kids.drop k = kids[k] :: kids.drop (k + 1) := List.drop_eq_getElem_cons hlk;obtain ⟨kc, hkc⟩ : ∃ x, kids[k] = x := ⟨_, rfl⟩;have htk : (((kids.take (k + 1)).map AT.nd).map Nd.pre).flatten = (((kids.take k).map AT.nd).map Nd.pre).flatten ++ kc.nd.pre := by rw [List.take_succ_eq_append_getElem hlk, List.map_append, List.map_append, List.flatten_append, hkc]; simp
   have hle2 : (((kids.take (k + 1)).map AT.nd).map Nd.pre).flatten.length <= ((kids.map AT.nd).map Nd.pre).flatten.length := by
    have : kids.map AT.nd = (kids.take (k + 1)).map AT.nd ++ (kids.drop (k + 1)).map AT.nd := by rw [<- List.map_append, List.take_append_drop]
    rw [this, List.map_append, List.flatten_append, zlA]; omega
   have hpl : (AT.mk b pv (.slice (some ⟨g, 0, none⟩) kids.length c) ps kids page).nd.pre.length = 1 + ((kids.map AT.nd).map Nd.pre).flatten.length := by rw [Nd.pre_eq, AT.nd_kids, zlC]; simp only [AT.kids]; omega
   rw [htk, zlA] at hle2;rw [hkc] at hkm hdr c0;have htc : Tm 2 4 (th - 1) kc.nd := by
    cases th with
    | zero => have := tm.lf'.1; rw [AT.nd_kids, List.map_eq_nil_iff] at this; rw [show (AT.mk b pv (.slice (some ⟨g, 0, none⟩) kids.length c) ps kids page).kids = kids from rfl] at this; rw [this] at hlk; simp at hlk
    | succ th => exact tm.inn'.2.2.2.2 _ (by rw [AT.nd_kids]; exact List.mem_map.2 ⟨kc, hkm, rfl⟩)
   have hfpk : kc.fp.Nodup /\ ∀ y ∈ kc.fp, y ∈ (AT.mk b pv (.slice (some ⟨g, 0, none⟩) kids.length c) ps kids page).fp := by have hsub : ∀ y ∈ kc.fp, y ∈ AT.fpL kids := fun y hy => AT.mem_fpL.2 ⟨kc, hkm, hy⟩;refine ⟨?_, fun y hy => by rw [AT.fp]; exact List.mem_cons_of_mem _ (List.mem_append_right _ (List.mem_append_right _ (hsub y hy)))⟩;have := hnd;rw [AT.fp] at this;have h5 := (zaZ.1 this).1.2.2;rw [zdI kids hlk, zaQ, za1, hkc] at h5;exact (List.nodup_append.1 (List.nodup_append.1 h5).2.1).1
   have hih := HIH.out kc hkm wr fo1 fc1 tv1 _ q _ 2 4 (th - 1) (by decide) (by decide) htc (q3 kc (by rw [hdr]; simp)) hfpk.1 r1 r2 (znT hbw s2.2.2.2.1) (by omega) (by omega);have Hih := zhI hih;unfold AT.ptr at c0 Hih;obtain ⟨D1, D2, D3, D4, D5, D6, D7⟩ := HD.out;have hltw := h.lt;have hkn : (AT.fpL kids).Nodup /\ b ∉ AT.fpL kids /\ g ∉ AT.fpL kids /\ ∀ y ∈ pv.ownBlock.toList, y ∉ AT.fpL kids := by have := hnd;rw [AT.fp] at this;obtain ⟨⟨_, _, n3⟩, ⟨_, _, m3⟩, _, d2, d3⟩ := zaZ.1 this;exact ⟨n3, m3, d3 g (by simp [Value.ownBlock]), d2⟩
   have hsubL : ∀ y ∈ AT.fpL kids, y ∈ (AT.mk b pv (.slice (some ⟨g, 0, none⟩) kids.length c) ps kids page).fp := fun y hy => by rw [AT.fp]; exact List.mem_cons_of_mem _ (List.mem_append_right _ (List.mem_append_right _ hy))
   have hkcL : ∀ y ∈ kc.fp, y ∈ AT.fpL kids := fun y hy => AT.mem_fpL.2 ⟨kc, hkm, hy⟩;have hM : ∀ y ∈ (AT.mk b pv (.slice (some ⟨g, 0, none⟩) kids.length c) ps kids page).fp, y ∉ kc.fp -> y ∉ pb :: ub :: (tv1.ownBlock.toList ++ kc.fp) := fun y hy hyk hm => by
    simp only [zmC, zmA] at hm;rcases hm with e | e | e | e
    . exact D1 (e ▸ hy)
    . exact D3 (e ▸ hy)
    .
     rcases s1 y (by simpa using e) with e | e
     . exact D4 y e hy
     . have := (hltw y hy).2; omega
    . exact hyk e
   have hML : ∀ y ∈ pb :: ub :: (tv1.ownBlock.toList ++ kc.fp), y ∈ pb :: ub :: (tv.ownBlock.toList ++ (AT.mk b pv (.slice (some ⟨g, 0, none⟩) kids.length c) ps kids page).fp) \/ w.heap.size <= y := fun y hm => by
    simp only [zmC, zmA] at hm |-;rcases hm with e | e | e | e
    . exact .inl (.inl e)
    . exact .inl (.inr (.inl e))
    .
     rcases s1 y (by simpa using e) with e | e
     . exact .inl (.inr (.inr (.inl (by rw [e]; simp))))
     . exact .inr e
    . exact .inl (.inr (.inr (.inr (hsubL y (hkcL y e)))))
   have hkc2 : AT.fpL kids = AT.fpL (kids.take k) ++ (kc.fp ++ AT.fpL (kids.drop (k + 1))) := by rw [<- za1, <- hdr, <- zaQ, List.take_append_drop]
   have hkn1 := hkn.1;rw [hkc2] at hkn1;have hn1 := List.nodup_append.1 hkn1;have hn2 := List.nodup_append.1 hn1.2.1;have hoth : ∀ s ∈ Kd ++ kids.drop (k + 1), ∀ y ∈ s.fp, y ∈ (AT.mk b pv (.slice (some ⟨g, 0, none⟩) kids.length c) ps kids page).fp /\ y ∉ kc.fp := fun s hs y hy => by
    rcases zmA.1 hs with hs | hs
    . obtain ⟨s', hs', e⟩ := List.mem_map.1 (q5 ▸ List.mem_map.2 ⟨s, hs, rfl⟩ : s.fp ∈ (kids.take k).map AT.fp);rw [<- e] at hy;have h1 : y ∈ AT.fpL (kids.take k) := AT.mem_fpL.2 ⟨s', hs', hy⟩;exact ⟨hsubL y (by rw [hkc2]; exact List.mem_append_left _ h1), fun hm => hn1.2.2 y h1 y (List.mem_append_left _ hm) rfl⟩
    . have h1 : y ∈ AT.fpL (kids.drop (k + 1)) := AT.mem_fpL.2 ⟨s, hs, hy⟩;exact ⟨hsubL y (by rw [hkc2]; exact List.mem_append_right _ (List.mem_append_right _ h1)), fun hm => hn2.2.2 y hm y h1 rfl⟩
   have hbM : b ∉ pb :: ub :: (tv1.ownBlock.toList ++ kc.fp) := hM b (by rw [AT.fp]; simp) fun hm => hkn.2.1 (hkcL b hm);have hgM : g ∉ pb :: ub :: (tv1.ownBlock.toList ++ kc.fp) := hM g (by rw [AT.fp]; simp [Value.ownBlock]) fun hm => hkn.2.2.1 (hkcL g hm);have hpM : ∀ y, pv.ownBlock = some y -> y ∉ pb :: ub :: (tv1.ownBlock.toList ++ kc.fp) := fun y hy => hM y (by rw [AT.fp, hy]; simp) fun hm => hkn.2.2.2 y (by rw [hy]; simp) (hkcL y hm);have HQ := zhI (zaI hML (zaI hM (zaI hoth (zaI hbM (zaI hgM (zaI hpM (zaI htk (zaI hdr (zaI htc hx)))))))));obtain ⟨cb, hcb⟩ : ∃ x, kc.b = x := ⟨_, rfl⟩;rw [hcb] at c0 Hih;rw [Hn.out] at hle;clear q1 q2 q3 q4 q5 q6 q7 r1 r2 r3 s1 s2 s3 s4 h hnd hS hB hbw hun hws tm e1 hg hkm hdr hkc htk hle2 hpl htc hfpk hih D1 D2 D3 D4 D5 D6 D7 hltw hkn hsubL hkcL hM hML hkc2 hkn1 hn1 hn2 hoth hbM hgM hpM hx hcb hlk;go_wp2_with fail;refine Hih.out.mono ?_;rintro e W5 ⟨hK5, hr5⟩;have HK5 := zhI hK5;clear hK5 Hih c0 hgl hle;rcases hr5 with ⟨ho, rfl⟩ | ⟨n', q', t', fo2, fc2, tv2, ho, rfl, hb', hfp', hnd', hl', hS', hown'⟩
   . have Ho := zhI ho;clear ho;go_wp2;rw [<- HR.out];obtain ⟨hML, hM, hoth, hbM, hgM, hpM, htk, hdr, htc, hx⟩ := HQ.out;obtain ⟨q1, q2, q3, q4, q5, q6, q7⟩ := H1.out;refine ⟨H3.out.2.1.trans' HK5.out hML, .inl ⟨?_, rfl⟩⟩;rw [zbh, AT.nd_kids];simp only [AT.kids];rw [q2, hdr, List.map_cons, zaT, Ho.out];rfl
   .
    have H5 := zhI (zaI ho (zaI hb' (zaI hfp' (zaI hnd' (zaI hl' (zaI hS' hown'))))));clear ho hb' hfp' hnd' hl' hS' hown';go_wp2;go_roundw
    case rel =>
     obtain ⟨hML, hM, hoth, hbM, hgM, hpM, htk, hdr, htc, hx⟩ := HQ.out;obtain ⟨q1, q2, q3, q4, q5, q6, q7⟩ := H1.out;obtain ⟨r1, r2, r3⟩ := H2.out;obtain ⟨s1, s2, s3, s4⟩ := H3.out;obtain ⟨ho, hb', hfp', hnd', hl', hS', hown'⟩ := H5.out;obtain ⟨a1, a2, a3⟩ := zeX _ _ _ _ ho;have a4 := zdg _ _ _ _ ho;have hlk : k < kids.length := by rw [Hn.out]; exact hlt
     have htk2 : kids.take (k + 1) = kids.take k ++ [kc] := by rw [List.take_succ_eq_append_getElem hlk];have := List.drop_eq_getElem_cons hlk;rw [hdr] at this;rw [<- (List.cons.inj this).1]
     refine ⟨k + 1, Kd ++ [t'], fo2, fc2, tv2, q', by omega, by go_num, HK5.out.bx hx hbM, zhI ⟨by simp [q1], ?_, ?_, ?_, ?_, ?_, ?_⟩, zhI ⟨?_, ⟨r2.1, fun g hg => r2.2 g (a2 g hg)⟩, ?_⟩, zhI ⟨?_, s2.trans' HK5.out hML, s3.keepB HK5.out (fun y hy => by rw [zaO hy]; exact hgM), s4.keepB HK5.out hpM⟩⟩
     . rw [q2, hdr, List.map_cons, zaT, ho];simp only;rw [Option.map_map];congr 1;funext x;simp [hnd']
     .
      intro s hs;have hs' : s = t' \/ s ∈ Kd ++ kids.drop (k + 1) := by
       simp only [zmA, zmS] at hs |-;rcases hs with (h | h) | h
       . exact .inr (.inl h)
       . exact .inl h
       . exact .inr (.inr h)
      rcases hs' with rfl | hs'
      . exact hl'
      .
       refine (q3 s ?_).keepB HK5.out fun y hy => hM y (hoth s hs' y hy).1 (hoth s hs' y hy).2;rcases zmA.1 hs' with h | h
       . exact List.mem_append_left _ h
       . exact List.mem_append_right _ (by rw [hdr]; exact List.mem_cons_of_mem _ h)
     . rw [htk2, List.map_append, List.map_append, q4]; simp [AT.ptr, hb']
     . rw [htk2, List.map_append, List.map_append, q5]; simp [hfp']
     . rw [htk2, List.map_append, List.map_append, q6]; simp [hnd', a1]
     .
      intro s hs;rcases zmA.1 hs with h | h
      . exact q7 s h
      . rw [zmS.1 h, hnd']; exact a3 r2
     .
      have e1 : un + (((kids.take (k + 1)).map AT.nd).map Nd.pre).flatten.length = un + (((kids.take k).map AT.nd).map Nd.pre).flatten.length + kc.nd.pre.length := by rw [htk, zlA]; omega
      have e2 : used ++ (((Kd ++ [t']).map AT.nd).map Nd.nodes).flatten.map Nd.page = used ++ ((Kd.map AT.nd).map Nd.nodes).flatten.map Nd.page ++ n'.nodes.map Nd.page := by simp [hnd']
      rw [e1, e2];exact hS'
     . rw [htk, zlA]; omega
     .
      intro y hy;rcases hown' y hy with h | h
      . exact s1 y h
      . exact .inr (znT s2.2.2.2.1 h)
    case measure => simp [intOf]; omega
  .
   obtain rfl : k = n := by omega
   obtain ⟨q1, q2, q3, q4, q5, q6, q7⟩ := H1.out;obtain ⟨r1, r2, r3⟩ := H2.out;obtain ⟨s1, s2, s3, s4⟩ := H3.out;obtain ⟨h, hnd, hS, hB, hbw, hun, hws, tm⟩ := H0.out;have hfull : kids.take k = kids := List.take_of_length_le (by rw [Hn.out]; exact Nat.le_refl _);have hempty : kids.drop k = [] := List.drop_of_length_le (by rw [Hn.out]; exact Nat.le_refl _);rw [hfull] at q4 q5 q6 r1 r3;rw [hempty] at q2 q3;rw [List.map_nil, zaT, Option.map_some] at q2;simp only [List.append_nil] at q2 q3;have hKl : Kd.length = kids.length := by rw [q1, Hn.out]
   have hem : Kd.isEmpty = kids.isEmpty := by
    cases hK : Kd with
    | nil => rw [hK] at hKl; have : kids = [] := List.eq_nil_of_length_eq_zero hKl.symm; rw [this]
    | cons x l => rw [hK] at hKl; cases hk' : kids with
     | nil => rw [hk'] at hKl; simp at hKl
     | cons => rfl
   obtain ⟨t1, ht1⟩ : ∃ t, AT.mk b pv (.slice ok kids.length ck) ps Kd page = t := ⟨_, rfl⟩;have hl1 : Lies base wr t1 := by rw [<- ht1];exact .mk _ _ _ _ _ _ h.hb (by rw [hem, Hn.out]; exact hx) s4 (by rw [hKl, q4]; exact s3) q3
   have her : t1.nd.er = (AT.mk b pv (.slice ok kids.length ck) ps kids page).nd.er := by rw [<- ht1, at_er, at_er, q6]
   have htm1 : Tm ta tb th t1.nd := Tm.er_iff.1 (her ▸ Tm.er_iff.2 tm);have hn1 : t1.nd = .mk ps (Kd.map AT.nd) page := by rw [<- ht1, AT.nd_eq]; rfl
   have hok : EncOk t1.nd := (htm1.shp hta htb).encOk fun x hx => by rw [hn1] at hx;obtain ⟨s, hs, rfl⟩ := List.mem_map.1 hx;exact q7 s hs
   have henc := zgz base t1 wr hl1 hok;have hpt : t1.ptr = .pointer (some ⟨b, 0, none⟩) := by rw [<- ht1]; rfl
   obtain ⟨sE, hsE⟩ : ∃ s, bs (encD t1.nd) = s := ⟨_, rfl⟩;rw [hpt, hsE] at henc;have hsz : sE.size <= 1000 := by rw [<- hsE, zaj];have := zfK hok;unfold encD padZ;rw [zlA, List.length_replicate];omega
   have hfp1 : t1.fp = (AT.mk b pv (.slice ok kids.length ck) ps kids page).fp := by rw [<- ht1, AT.fp, AT.fp, AT.fpL_eq, AT.fpL_eq, q5]
   have hbs : b ∈ t1.fp := by rw [hfp1, AT.fp]; simp
   have hpl : (AT.mk b pv (.slice ok kids.length ck) ps kids page).nd.pre.length = 1 + ((kids.map AT.nd).map Nd.pre).flatten.length := by rw [Nd.pre_eq, AT.nd_kids, zlC]; simp only [AT.kids]; omega
   have hpn : za0 (fun s => f (bs s)) (AT.mk b pv (.slice ok kids.length ck) ps kids page).nd p = match f sE with
     | some g => some (.mk ps (Kd.map AT.nd) g, q)
     | none => match q.free with
      | [] => none
      | g :: r => some (.mk ps (Kd.map AT.nd) g, ⟨r, q.ws ++ [⟨g, sE⟩]⟩) := by
    rw [zbh, AT.nd_kids, AT.nd_ps];simp only [AT.kids, AT.ps];rw [q2];simp only;have e : encD (.mk ps (Kd.map AT.nd) 0) = encD t1.nd := by rw [hn1]; rfl
    rw [e, hsE];cases f sE with
    | some g => rfl
    | none => cases q.free <;> rfl
   obtain ⟨used1, hused⟩ : ∃ u, used ++ ((Kd.map AT.nd).map Nd.nodes).flatten.map Nd.page = u := ⟨_, rfl⟩;obtain ⟨un1, hun1⟩ : ∃ u, un + ((kids.map AT.nd).map Nd.pre).flatten.length = u := ⟨_, rfl⟩;rw [hused, hun1] at r1;have hub : un1 + 1 <= 1000000 /\ q.ws.length + 1 <= 1000000 := ⟨by omega, by omega⟩;have Henc := zhI henc;have HF := zhI (zaI hl1 (zaI hsz (zaI hpn (zaI hfp1 (zaI hn1 (zaI hused (zaI hun1 (zaI hpl (zaI ht1 hub)))))))));have HS := zhI (zaI r1 r2);have HK := zhI (zaI s1 s2);clear q1 q2 q3 q4 q5 q6 q7 r1 r2 r3 s1 s2 s3 s4 h hnd hS hB hbw hun hws tm hfull hempty hKl hem hl1 her htm1 hn1 hok henc hpt hsE hsz hfp1 hbs hpl hpn hused hun1 hub ht1 hx;go_wp2_with fail;refine Henc.out.mono ?_;rintro e W1 ⟨rfl, hb1⟩;have hbw1 : base <= wr.heap.size := znT H0.out.2.2.2.2.1 HK.out.2.2.2.2.1;have hS1 := HS.out.1.keep ((KeepB.refl [] wr).of_below hb1) (by simp) hbw1 (by simp) (by simp) (by simp) (by simp);have hl1 := HF.out.1.staysAll hb1;have hK1 : KeepB (pb :: ub :: (tv.ownBlock.toList ++ (AT.mk b pv (.slice ok kids.length ck) ps kids page).fp)) w W1 := HK.out.2.of_below hb1;have xP := hS1.box;have hget := zk4 hS1.known sE (by have := HF.out.2.1; unfold maxLen; omega);have hx1 := hl1.hx;have ht1 := HF.out.2.2.2.2.2.2.2.2.1;rw [<- ht1] at hx1;simp only [AT.b, AT.pv, AT.kv, AT.kids, AT.page] at hx1;rw [Hn.out] at hx1;clear cX lX Henc;have cX := hx1.cell;have lX := hx1.lt;unfold nodeC at cX;have cP := xP.cell;have lP := xP.lt;have fP := xP.free;have fX := hx1.free;have H5 := zhI (zaI hS1 (zaI hl1 (zaI hK1 hbw1)));have Hb1 := zhI hb1;have hbp : b ≠ pb := fun e => HD.out.1 (by rw [<- e, AT.fp]; simp);have hpb : pb ≠ b := fun e => hbp e.symm;cases hf : f sE
   case' some g =>
    rw [hf] at hget;simp only [Option.getD_some, Option.isSome_some] at hget;have Hf := zhI hf;have HS2 := zhI hS1;have Hl2 := zhI hl1;have HK2 := zhI hK1;have Hown := zhI HK.out.1;have Hg : Hid (PgOk g) := zhI (by
     have := HS.out.2.1 sE.data.toList g (by simp only; rw [bs_of]; exact hf);exact ⟨by omega, by omega⟩)
    have Hpn2 : Hid (za0 (fun s => f (bs s)) (AT.mk b pv (.slice ok kids.length ck) ps kids page).nd p = some (.mk ps (Kd.map AT.nd) g, q)) := zhI (by rw [HF.out.2.2.1, hf]);clear hS1 hl1 hK1 hbw1 xP hx1 ht1 hb1 hf;go_upto_region 15 with fail
    clear hget;obtain ⟨Wc, rfl⟩ : ∃ Wc, Wc = W1 := ⟨_, rfl⟩
   case' none =>
    rw [hf] at hget;simp only [Option.getD_none, Option.isSome_none] at hget;have Hf := zhI hf;obtain ⟨fr, hfr⟩ : ∃ l, q.free = l := ⟨_, rfl⟩;rw [hfr] at cP;have hfs := hS1.fs;have hfi := hS1.fr;rw [hfr] at hfs hfi;have Hfr := zhI hfr;clear hS1 hl1 hK1 hbw1 xP hx1 ht1 hb1 hf hfr;cases fr
    case' nil =>
     clear hfs hfi;go_wp2;rw [<- HR.out];refine ⟨H5.out.2.2.1, .inl ⟨?_, rfl⟩⟩;rw [HF.out.2.2.1, Hf.out, Hfr.out]
    case' cons g r =>
     obtain ⟨fb, off, rfl, hc1, hfb⟩ := hfi 0 (by simp);rw [Nat.add_zero] at hc1;simp only [List.getElem_cons_zero] at hc1;have hfl : fb < W1.heap.size := znL hfb (znT H5.out.2.2.2 Hb1.out.size);have hfc : r.length + 1 <= fc1 := by rcases hfs with ⟨h, _⟩ | ⟨_, _, h, _⟩ <;> simp_all
     obtain ⟨rn, hrn⟩ : ∃ m, r.length = m := ⟨_, rfl⟩;simp only [zlC, hrn] at cP hfc;have Hrn := zhI (zaI hrn (zaI hfs (zaI hfi hfb)));clear hfs hfi hfb hrn;have hfrg : ∀ W, zas (· < base) W (some ⟨fb, off, none⟩) (g :: r) -> zas (· < base) W (some ⟨fb, off + 1, none⟩) r := fun W h i hi => by
      obtain ⟨b', o', e, hc, hs⟩ := h (i + 1) (by simpa using hi);obtain ⟨rfl, rfl⟩ : fb = b' /\ off = o' := by simpa using e
      exact ⟨fb, off + 1, rfl, by rw [show off + 1 + i = off + (i + 1) by omega]; simpa using hc, hs⟩
     have Hfrg := zhI hfrg;clear hfrg
     by_cases hf1 : fc1 = 1
     case' pos =>
      subst hf1;obtain rfl : rn = 0 := by omega
      go_upto_region 14 with fail
      have hS1 := H5.out.1;obtain ⟨W2, hW2⟩ : ∃ W2, W1.setCell ⟨pb, 1, none⟩ (.slice (some ⟨fb, off, none⟩) 0 (0)) = W2 := ⟨_, rfl⟩;rw [hW2];have hKp : KeepB [pb] W1 W2 := by rw [<- hW2]; exact (KeepB.refl _ W1).set (by simp)
      have hbase1 : base <= W1.heap.size := znT H5.out.2.2.2 Hb1.out.size;obtain ⟨A1, A2, A3, A4, A5, A6, A7⟩ := hS1.apart H5.out.2.1;have hfp1 := HF.out.2.2.2.1;obtain ⟨oo, cn, hS2⟩ : ∃ oo cn, PlS W2 base pb kb ub kn f (some ⟨fb, oo, none⟩) cn tv1 un1 ⟨r, q.ws⟩ used1 := by
       refine ⟨off, 0, ?_⟩;have hbx := hS1.box.set 1 (.slice (some ⟨fb, off, none⟩) 0 (0));rw [hW2] at hbx;have hfrk := hS1.fr.kept hKp (by simpa using hS1.pbB) hbase1;rw [Hfr.out] at hfrk;refine ⟨by rw [Hrn.out.1]; exact hbx, hS1.known.same (hKp.2.2.2.2 kb hS1.known.lt (by simpa using fun e : kb = pb => A5 e.symm)), ?_, ?_, zbK hS1.tk hKp (fun y hy => by simpa using (A7 y hy).1), hS1.us.same (hKp.2.2.2.2 ub hS1.us.lt (by simpa using fun e : ub = pb => A6 e.symm)), hS1.pbB, hS1.ubB, hS1.kub, hS1.sz⟩
       . (rw [List.eq_nil_of_length_eq_zero Hrn.out.1]; intro i hi; simp at hi)
       . exact .inr ⟨_, rfl, by show r.length <= 0; rw [Hrn.out.1]; exact Nat.le_refl 0, by unfold maxLen; omega⟩
     case' neg =>
      go_upto_region 14 with fail
      have hS1 := H5.out.1;obtain ⟨W2, hW2⟩ : ∃ W2, W1.setCell ⟨pb, 1, none⟩ (.slice (some ⟨fb, (off + 1), none⟩) rn (fc1 - 1)) = W2 := ⟨_, rfl⟩;rw [hW2];have hKp : KeepB [pb] W1 W2 := by rw [<- hW2]; exact (KeepB.refl _ W1).set (by simp)
      have hbase1 : base <= W1.heap.size := znT H5.out.2.2.2 Hb1.out.size;obtain ⟨A1, A2, A3, A4, A5, A6, A7⟩ := hS1.apart H5.out.2.1;have hfp1 := HF.out.2.2.2.1;obtain ⟨oo, cn, hS2⟩ : ∃ oo cn, PlS W2 base pb kb ub kn f (some ⟨fb, oo, none⟩) cn tv1 un1 ⟨r, q.ws⟩ used1 := by
       refine ⟨(off + 1), fc1 - 1, ?_⟩;have hbx := hS1.box.set 1 (.slice (some ⟨fb, (off + 1), none⟩) rn (fc1 - 1));rw [hW2] at hbx;have hfrk := hS1.fr.kept hKp (by simpa using hS1.pbB) hbase1;rw [Hfr.out] at hfrk;refine ⟨by rw [Hrn.out.1]; exact hbx, hS1.known.same (hKp.2.2.2.2 kb hS1.known.lt (by simpa using fun e : kb = pb => A5 e.symm)), ?_, ?_, zbK hS1.tk hKp (fun y hy => by simpa using (A7 y hy).1), hS1.us.same (hKp.2.2.2.2 ub hS1.us.lt (by simpa using fun e : ub = pb => A6 e.symm)), hS1.pbB, hS1.ubB, hS1.kub, hS1.sz⟩
       . exact Hfrg.out _ hfrk
       . exact (by rcases Hrn.out.2.1 with ⟨h, _⟩ | ⟨a, e, h1, h2⟩; cases h; exact .inr ⟨_, rfl, by have h3 : r.length + 1 <= fc1 := h1; show r.length <= fc1 - 1; omega, by omega⟩)
     all_goals
      have hL2 : Lies base W2 t1 := H5.out.2.1.keepB hKp (fun y hy h => A1 (by rw [<- zmS.1 h]; exact hy));have hK2 : KeepB (pb :: ub :: (tv.ownBlock.toList ++ (AT.mk b pv (.slice ok kids.length ck) ps kids page).fp)) w W2 := by rw [<- hW2]; exact H5.out.2.2.1.set (by simp)
      have xP2 := hS2.box;have hx2 := hL2.hx;have ht1 := HF.out.2.2.2.2.2.2.2.2.1;rw [<- ht1] at hx2;simp only [AT.b, AT.pv, AT.kv, AT.kids, AT.page] at hx2;rw [Hn.out] at hx2;simp only [Hrn.out.1] at xP2;clear cX lX fX cP lP fP hget hc1 hfl;have cP := xP2.cell;have lP := xP2.lt;have fP := xP2.free;have hown2a := hS2.tk.alloc (.cells #[.int .i64 g, .string sE] 80);simp only at hown2a;have H1c : Hid (∀ u ∈ [Value.int .i64 g, Value.string sE], u.oneCell' = true) := zhI (by intro u hu; simp at hu; rcases hu with rfl | rfl <;> rfl)
      have HRW : Hid (Bx (W2.alloc (.cells #[.int .i64 g, .string sE] 80)) W2.heap.size [.int .i64 g, .string sE].toArray 80) := zhI (Bx.new W2 #[.int .i64 g, .string sE] 80);have xPa := xP2.alloc (.cells #[.int .i64 g, .string sE] 80);have hbz : base <= W2.heap.size := znT hbase1 hKp.2.2.2.1;have hwsl : q.ws.length + 1 <= 1000000 := HF.out.2.2.2.2.2.2.2.2.2.2;have H6 := zhI (zaI hS2 (zaI hL2 (zaI hK2 hbz)));clear hS1 hW2 hKp hbase1 A1 A2 A3 A4 A5 A6 A7 hfp1 hS2 hL2 hK2 xP2 hx2 ht1 hfc;go_upto_region 15 with (at_builtin; refine wpList_append_own_at _ rfl _ _ 23 rfl base 80 ip _ 2 24 Tryz.underlying23 Hi.out.1 Hi.out.2.1 Hi.out.2.2.1 Hi.out.2.2.2 rfl (by decide) tv1 q.ws.length (zaP q.ws) rfl hown2a ⟨W2.heap.size, 0, none⟩ 1 1 [.int .i64 g, .string sE] rfl rfl (zdh HRW.out) H1c.out (by unfold maxLen; omega) (by omega) (by simp; omega) ?_; intro v3 w3 hown3 hg3 hnil3 hv3; obtain ⟨o3, c3, rfl⟩ := zaR hown3; have xP3 := xPa.grown hg3 (fun e => zab hown2a xPa (by decide) e.symm); have cP3 := xP3.cell; have fP3 := xP3.free; have lP3 := xP3.lt)
      obtain ⟨Wc, hWc⟩ : ∃ Wc, w3.setCell ⟨pb, 2, none⟩ (.slice o3 (q.ws.length + 1) c3) = Wc := ⟨_, rfl⟩;rw [hWc];obtain ⟨hS2, hL2, hK2, hbz⟩ := H6.out;obtain ⟨A1, A2, A3, A4, A5, A6, A7⟩ := hS2.apart hL2;have hz3 := hg3.size;have hza : (W2.alloc (.cells #[.int .i64 g, .string sE] 80)).heap.size = W2.heap.size + 1 := by simp
      have hv3' : ∀ y, (Value.slice o3 (q.ws.length + 1) c3).ownBlock = some y -> tv1.ownBlock = some y \/ W2.heap.size + 1 <= y := fun y hy => by
       rcases hv3 with h | h
       . exact .inl (by rw [<- h]; exact hy)
       . exact .inr (by rw [hza] at h; rw [h] at hy; cases hy; exact Nat.le_refl _)
      have hKc : KeepB (pb :: tv1.ownBlock.toList) W2 Wc := by rw [<- hWc];exact (((KeepB.refl _ W2).of_below (Below.one W2 _)).growL hg3 (fun y hy => .inl (by rw [hy]; simp))).set (by simp)
      have hcL : ∀ y, y < W2.heap.size -> y ≠ pb -> (∀ z, tv1.ownBlock = some z -> y ≠ z) -> y ∉ pb :: tv1.ownBlock.toList := fun y _ h1 h2 hm => by
       rcases zmC.1 hm with e | e
       . exact h1 e
       . exact h2 y (by simpa using e) rfl
      have hLc : Lies base Wc t1 := hL2.keepB hKc fun y hy => hcL y (hL2.lt y hy).2 (fun e => A1 (e ▸ hy)) (fun z hz e => A4 z hz (e ▸ hy));have hS3 : PlS Wc base pb kb ub kn f (some ⟨fb, oo, none⟩) cn (.slice o3 (q.ws.length + 1) c3) un1 ⟨r, q.ws ++ [⟨g, sE⟩]⟩ used1 := by
       have hbx := xP3.set 2 (.slice o3 (q.ws.length + 1) c3);rw [hWc] at hbx;refine ⟨by simp only [Hrn.out.1]; exact hbx, hS2.known.same (hKc.2.2.2.2 kb hS2.known.lt (hcL kb hS2.known.lt (fun e => A5 e.symm) (fun z hz e => (A7 z hz).2.1 e.symm))), hS2.fr.kept hKc ?_ hbz, hS2.fs, ?_, hS2.us.same (hKc.2.2.2.2 ub hS2.us.lt (hcL ub hS2.us.lt (fun e => A6 e.symm) (fun z hz e => (A7 z hz).2.2 e.symm))), hS2.pbB, hS2.ubB, hS2.kub, ?_⟩
       .
        intro y hy;rcases zmC.1 hy with e | e
        . rw [e]; exact hS2.pbB
        . exact (hS2.tk.lt y (by simpa using e)).1
       .
        rw [<- hWc];have e : zaP (q.ws ++ [⟨g, sE⟩]) = zaP q.ws ++ [.int .i64 g, .string sE] := by rw [zeR]; rfl
        simp only [zlA, zlC, List.length_nil, e];exact zac hown3 (a := ⟨pb, 2, none⟩) (zab hown3 xP3 (by decide)) _
       .
        intro y hy;rcases zmA.1 hy with h | h
        . exact hS2.sz y h
        . rw [zmS.1 h]; exact HF.out.2.1
      have hKw : KeepB (pb :: ub :: (tv.ownBlock.toList ++ (AT.mk b pv (.slice ok kids.length ck) ps kids page).fp)) w Wc := hK2.trans' hKc fun y hy => by
       rcases zmC.1 hy with e | e
       . exact .inl (by rw [e]; simp)
       .
        rcases HK.out.1 y (by simpa using e) with h | h
        . exact .inl (by rw [h]; simp)
        . exact .inr h
      have hxc := hLc.hx;have ht1 := HF.out.2.2.2.2.2.2.2.2.1;rw [<- ht1] at hxc;simp only [AT.b, AT.pv, AT.kv, AT.kids, AT.page] at hxc;rw [Hn.out] at hxc;have xPc := hS3.box;simp only [Hrn.out.1] at xPc;have HS2 := zhI hS3;have Hl2 := zhI hLc;have HK2 := zhI hKw;have hwz := H6.out.2.2.1.2.2.2.1;have Hown : Hid (∀ y, (Value.slice o3 (q.ws.length + 1) c3).ownBlock = some y -> tv.ownBlock = some y \/ w.heap.size <= y) := zhI (fun y hy => by
       rcases hv3' y hy with h | h
       . exact HK.out.1 y h
       . exact .inr (by omega))
      have Hg : Hid (PgOk g) := zhI (by
       have := HS.out.2.2 g (by rw [Hfr.out]; simp);exact ⟨by omega, by omega⟩)
      have Hpn2 : Hid (za0 (fun s => f (bs s)) (AT.mk b pv (.slice ok kids.length ck) ps kids page).nd p = some (.mk ps (Kd.map AT.nd) g, ⟨r, q.ws ++ [⟨g, sE⟩]⟩)) := zhI (by rw [HF.out.2.2.1, Hf.out, Hfr.out]);clear cP lP fP cP3 fP3 lP3 hown2a H1c HRW xPa hown3 hg3 hnil3 hv3 xP3 hS2 hL2 hK2 hbz A1 A2 A3 A4 A5 A6 A7 hz3 hza hv3' hKc hcL hLc hS3 hKw ht1 hwz hWc;have cX := hxc.cell;have lX := hxc.lt;have fX := hxc.free;unfold nodeC at cX;have cP := xPc.cell;have lP := xPc.lt;have fP := xPc.free;clear hxc xPc
   all_goals
    have HU : Hid (MapI (Wc.setCell ⟨b, 3, none⟩ (.int .i64 g)) ub un1 used1) := zhI (HS2.out.us.same (Below.heap_setCell _ ⟨b, 3, none⟩ _ _ (fun e => HD.out.2.2.1 (by have e' : ub = b := e; rw [e', AT.fp]; simp))));have hub1 : un1 + 1 <= 1000000 := HF.out.2.2.2.2.2.2.2.2.2.1;go_wp2_with (first | (at_mapUpdate; refine zeG rfl _ _ _ rfl rfl HU.out (by unfold maxLen; omega) g Hg.out rfl rfl ?_; intro W4 hM4 hg4) | fail);rw [<- HR.out];obtain ⟨hl1, hsz, hpn, hfp1, hn1, hused, hun1, hpl, ht1, hub⟩ := HF.out;obtain ⟨D1, D2, D3, D4, D5, D6, D7⟩ := HD.out;have hSc := HS2.out;have hLc := Hl2.out;have hKc := HK2.out;have hnd := H0.out.2.1;have hbf : b ∈ (AT.mk b pv (.slice ok kids.length ck) ps kids page).fp := by rw [AT.fp]; simp
    have hnd1 : t1.fp.Nodup := by rw [hfp1]; exact hnd
    have hub2 : ub ∉ t1.fp := by rw [hfp1]; exact D3
    rw [<- ht1] at hLc hnd1 hub2;have hxc := hLc.hx;have hpc := hLc.hp;have hkc := hLc.hk;have hcc := hLc.hc;simp only [AT.b, AT.pv, AT.kv, AT.ps, AT.kids, AT.page] at hxc hpc hkc hcc;rw [AT.fp] at hnd1;obtain ⟨-, ⟨m1, m2, m3⟩, -, -, -⟩ := zaZ.1 hnd1;have hsub1 : ∀ y, (y ∈ pv.ownBlock.toList \/ y ∈ (Value.slice ok kids.length ck).ownBlock.toList \/ y ∈ AT.fpL Kd) -> y ∈ (AT.mk b pv (.slice ok kids.length ck) ps Kd page).fp := fun y hy => by rw [AT.fp]; simp only [zmC, zmA]; exact .inr hy
    have hstep : ∀ y, y < Wc.heap.size -> y ≠ b -> y ≠ ub -> W4.heap[y]? = Wc.heap[y]? := fun y hy h1 h2 =>
     (hg4.block y (by simpa using hy) (by simpa using fun e => h2 e)).trans (Below.heap_setCell _ ⟨b, 3, none⟩ _ _ h1)
    have hltc := hLc.lt;have hL4 : Lies base W4 (.mk b pv (.slice ok kids.length ck) ps Kd g) := by
     refine .mk _ _ _ _ _ _ hLc.hb ?_ (hpc.same fun y hy => ?_) (hkc.same fun y hy => ?_) (fun c hc => (hcc c hc).same fun y hy => ?_)
     . have := hxc.set 3 (.int .i64 g);exact this.grown hg4 (by simpa using fun e : b = ub => D3 (e ▸ hbf))
     .
      have hm : y ∈ pv.ownBlock.toList := by rw [hy]; simp
      exact hstep y (hpc.lt y hy).2 (fun e => m1 (e ▸ hm)) (fun e => hub2 (e ▸ hsub1 y (.inl hm)))
     .
      have hm : y ∈ (Value.slice ok kids.length ck).ownBlock.toList := by rw [hy]; simp
      exact hstep y (hkc.lt y hy).2 (fun e => m2 (e ▸ hm)) (fun e => hub2 (e ▸ hsub1 y (.inr (.inl hm))))
     . have hm : y ∈ AT.fpL Kd := AT.mem_fpL.2 ⟨c, hc, hy⟩;exact hstep y ((hcc c hc).lt y hy).2 (fun e => m3 (e ▸ hm)) (fun e => hub2 (e ▸ hsub1 y (.inr (.inr hm))))
    have hK4 : KeepB (pb :: ub :: (tv.ownBlock.toList ++ (AT.mk b pv (.slice ok kids.length ck) ps kids page).fp)) w W4 := (hKc.set (by simp [hbf])).growL hg4 (fun r hr => .inl (by cases hr; simp));have hbwc : base <= Wc.heap.size := znT H0.out.2.2.2.2.1 hKc.2.2.2.1;obtain ⟨-, -, -, A4, -, -, A7⟩ := hSc.apart (Hl2.out);refine ⟨hK4, .inr ⟨.mk ps (Kd.map AT.nd) g, _, .mk b pv (.slice ok kids.length ck) ps Kd g, _, _, _, Hpn2.out, rfl, rfl, ?_, ?_, hL4, ⟨?_, ?_, ?_, hSc.fs, ?_, ?_, hSc.pbB, hSc.ubB, hSc.kub, hSc.sz⟩, Hown.out⟩⟩
    . rw [<- hfp1, <- ht1, AT.fp, AT.fp]
    . rw [AT.nd_eq]; rfl
    . exact (hSc.box.setO (a := ⟨b, 3, none⟩) (fun e => hpb e) _).grown hg4 (by simpa using fun e : pb = ub => D6 e)
    . exact hSc.known.same (hstep kb hSc.known.lt (fun e => D2 (by rw [e]; exact hbf)) hSc.kub)
    . intro i hi;obtain ⟨fb', off', e, hc, hs⟩ := hSc.fr i hi;refine ⟨fb', off', e, ?_, hs⟩;rw [cell_of_block (hstep fb' (znL hs hbwc) (fun e => by have := (hltc b (by rw [AT.fp]; simp)).1; omega) (fun e => by have := hSc.ubB; omega))];exact hc
    .
     refine ⟨hSc.tk.1, ?_⟩;rcases hSc.tk.2 with h | ⟨g', cap, cur, h1, h2, h3, h4⟩
     . exact .inl h
     . exact .inr ⟨g', cap, cur, h1, h2, (hstep g' (Array.getElem?_eq_some_iff.1 h3).1 (fun e => A4 g' (by rw [h1]; rfl) (by rw [hfp1, e]; exact hbf)) (fun e => (A7 g' (by rw [h1]; rfl)).2.2 e)).trans h3, h4⟩
    . rw [hpl, show un + (1 + ((kids.map AT.nd).map Nd.pre).flatten.length) = un1 + 1 by omega, Nd.nodes_eq];simp only [Nd.kids, List.map_append, List.map_cons, List.map_nil, <- List.append_assoc, hused];exact hM4
theorem zkx {l : List Nd} {h : Nat} (h0 : l ≠ []) (hl : ∀ k ∈ l, k.dep = h + 1) : depL (l.map Nd.dep) = h + 2 := by
 cases l with
 | nil => exact absurd rfl h0
 | cons k r => have hk := hl k (by simp);rw [List.map_cons, depL, hk, if_neg, if_neg (by omega)];simp only [List.any_eq_true, not_exists, not_and, List.mem_map];rintro x ⟨c, hc, rfl⟩;simpa using hl c (by simp [hc])
theorem Tm.dep : ∀ {n : Nd} {a b h : Nat}, Tm a b h n -> n.dep = h + 1 := by
 intro n
 induction n using Nd.ind with
 | h ps kids page ih =>
  intro a b h t;cases t with
  | lf => rfl
  | inn _ _ h _ _ g2 g0 g8 hk => rw [Nd.dep_eq];exact zkx (show kids ≠ [] from fun e => by rw [e] at g0; simp at g0) fun k hk' => ih k hk' (hk k hk')
theorem Tm.not_small' {h : Nat} {n : Nd} (t : Tm 2 4 h n) : n.small = false := by
 unfold Nd.small;cases h with
 | zero => obtain ⟨hk, h1, _, _⟩ := t.lf'; rw [if_pos hk]; simpa using h1
 | succ h => obtain ⟨_, h0, h1, _, _⟩ := t.inn'; rw [if_neg h0]; simpa using h1
theorem Tm.smallB : ∀ {n : Nd} {a b h : Nat}, Tm a b h n -> n.smallB = false := by
 intro n
 induction n using Nd.ind with
 | h ps kids page ih =>
  intro a b h t;rw [Nd.smallB_eq];cases t with
  | lf => rfl
  | inn _ _ h _ _ g2 g0 g8 hk =>
   simp only [List.any_eq_false, Nd.kids];intro k hk';rw [(hk k hk').not_small', ih k hk' (hk k hk')]
   decide
theorem zmc {l : List Nat} (h0 : l ≠ []) {h : Nat} (h1 : depL l = h + 1) : ∃ m, h = m + 1 /\ ∀ d ∈ l, d = m + 1 := by
 cases l with
 | nil => exact absurd rfl h0
 | cons d r =>
  rw [depL] at h1;split at h1
  . cases h1
  .
   rename_i hr
   split at h1
   . cases h1
   .
    rename_i hd
    refine ⟨d - 1, by omega, fun x hx => ?_⟩;rcases zmC.1 hx with rfl | hx
    . omega
    .
     simp only [List.any_eq_true, not_exists, not_and] at hr;have := hr x hx;have : x = d := by simpa using this
     omega
theorem Shp.tm : ∀ {n : Nd} {h : Nat}, Shp n -> n.dep = h + 1 -> n.smallB = false -> Tm 1 2 h n := by
 intro n
 induction n using Nd.ind with
 | h ps kids page ih =>
  intro h s hd hs;cases s with
  | lf _ _ h1 h3 hk =>
   have : h = 0 := by have : (Nd.mk ps [] page).dep = 1 := rfl; omega
   subst this;exact .lf _ _ _ _ h1 h3 hk
  | inn _ _ h2 h8 hk =>
   have hne : kids ≠ [] := fun e => by rw [e] at h2; simp at h2
   rw [Nd.dep_eq] at hd;simp only [Nd.kids] at hd;obtain ⟨m, rfl, hm⟩ := zmc (by simpa using hne) hd;rw [Nd.smallB_eq] at hs;simp only [List.any_eq_false, Nd.kids] at hs;refine .inn _ _ _ _ _ h2 (by omega) h8 fun k hk' => ?_;have h5 := hs k hk';simp only [Bool.or_eq_true, not_or, Bool.not_eq_true] at h5;exact ((ih k hk' (hk k hk') (hm _ (List.mem_map.2 ⟨k, hk', rfl⟩)) h5.2).mono (Nat.le_refl _) (by decide : 2 <= 2) |> fun t => by
    have hsm := h5.1;unfold Nd.small at hsm;cases m with
    | zero => obtain ⟨a1, a2, a3, a4⟩ := t.lf'; rw [if_pos a1] at hsm; exact .mk_lf a1 (by simpa using hsm) a3 a4
    | succ m => obtain ⟨a1, a0, a2, a3, a4⟩ := t.inn'; rw [if_neg a0] at hsm; exact .mk_inn a1 a0 (by simpa using hsm) a3 a4)
theorem zbE {n : Nd} (s : Shp n) : zcl n = true ↔ Asc n.prs /\ ∃ h, Tm 1 2 h n := by
 unfold zcl;simp only [Bool.and_eq_true, Bool.not_eq_true', decide_eq_true_eq];rw [zc5];constructor
 . rintro ⟨⟨h1, h2⟩, h3⟩;obtain ⟨h, hh⟩ : ∃ h, n.dep = h + 1 := ⟨n.dep - 1, by omega⟩;exact ⟨h1, h, s.tm hh h3⟩
 . rintro ⟨h1, h, t⟩;exact ⟨⟨h1, by rw [t.dep]; omega⟩, t.smallB⟩
theorem zdC (s : List UInt8) (n : Nat) : (zar s n).length = n := by simp [zar]
theorem zkh {g : Int -> List Int -> Option (Nd × Nat × List Int)} {g' : Int -> List Int -> Option (Nd × List Int)} (hg : ∀ p u n k u', g p u = some (n, k, u') -> g' p u = some (n, u')) :
  ∀ {l : List Int} {o : Option Nat} {u u' : List Int} {ns : List Nd} {k : Nat}, kidsV g l o u = some (ns, k, u') -> kidsW g' l u = some (ns, u') /\ (l = [] -> k = o.getD 0) /\ (l ≠ [] -> (o = none \/ o = some k) /\ ∀ n ∈ ns, ∃ p u1 u2, g p u1 = some (n, k, u2))
 | [], o, u, u', ns, k, h => by simp only [kidsV, Option.some.injEq, Prod.mk.injEq] at h;obtain ⟨rfl, rfl, rfl⟩ := h;exact ⟨rfl, fun _ => rfl, fun h => absurd rfl h⟩
 | p :: r, o, u, u', ns, k, h => by
  rw [kidsV] at h;split at h
  . cases h
  .
   rename_i n k1 u1 hx
   split at h
   . cases h
   .
    rename_i ho
    obtain ⟨⟨m, k2, u2⟩, hm, e⟩ := Option.map_eq_some_iff.1 h;simp only [Prod.mk.injEq] at e;obtain ⟨rfl, rfl, rfl⟩ := e;obtain ⟨i1, i2, i3⟩ := zkh hg hm;have hk : k1 = k2 := by
     by_cases hr : r = []
     . exact (i2 hr).symm
     .
      rcases (i3 hr).1 with h | h
      . cases h
      . simpa using h
    subst hk;refine ⟨?_, fun h => (by cases h), fun _ => ⟨?_, ?_⟩⟩
    . rw [kidsW, hg _ _ _ _ _ hx];simp only [i1, Option.map_some]
    .
     rcases o with _ | o
     . exact .inl rfl
     . right;simp only [ne_eq, reduceCtorEq, not_false_eq_true, true_and, Decidable.not_not] at ho;exact ho
    .
     intro x hx';rcases zmC.1 hx' with rfl | hx'
     . exact ⟨_, _, _, hx⟩
     .
      by_cases hr : r = []
      . subst hr;simp only [kidsV, Option.some.injEq, Prod.mk.injEq] at hm;rw [<- hm.1] at hx';cases hx'
      . exact (i3 hr).2 x hx'
theorem zjH {g : Int -> List Int -> Option (Nd × Nat × List Int)} {g' : Int -> List Int -> Option (Nd × List Int)} {k : Nat} {Q : Nd -> Prop} (hg : ∀ p u n u', Q n -> g' p u = some (n, u') -> g p u = some (n, k, u')) :
  ∀ {l : List Int} {o : Option Nat} {u u' : List Int} {ns : List Nd}, (∀ n ∈ ns, Q n) -> (o = none \/ o = some k) -> kidsW g' l u = some (ns, u') -> kidsV g l o u = some (ns, if l = [] then o.getD 0 else k, u')
 | [], o, u, u', ns, hq, ho, h => by simp only [kidsW, Option.some.injEq, Prod.mk.injEq] at h;obtain ⟨rfl, rfl⟩ := h;rfl
 | p :: r, o, u, u', ns, hq, ho, h => by
  rw [kidsW] at h;split at h
  . cases h
  .
   rename_i n u1 hx
   obtain ⟨⟨m, u2⟩, hm, e⟩ := Option.map_eq_some_iff.1 h;simp only [Prod.mk.injEq] at e;obtain ⟨rfl, rfl⟩ := e;rw [kidsV, hg _ _ _ _ (hq n (by simp)) hx];simp only;rw [if_neg (by rcases ho with rfl | rfl <;> simp)]
   rw [zjH hg (o := some k) (fun x hx' => hq x (by simp [hx'])) (.inr rfl) hm];simp only [Option.map_some, Option.getD_some, ite_self, if_neg (List.cons_ne_nil _ _)]
theorem zfM {d : Dsk} {frm til : Int} : ∀ (f : Nat) {root : Bool} {page : Int} {used u : List Int} {n : Nd} {k : Nat}, loadP d frm til f root page used = some (n, k, u) ->
  loadR d frm til f page used = some (n, u) /\ ∃ h, k = h + 1 /\ Tm (if root then 1 else 2) (if root then 2 else 4) h n
 | 0, _, _, _, _, _, _, h => by cases h
 | f + 1, root, page, used, u, n, k, h => by
  rw [loadP] at h;rw [loadR];split at h
  . cases h
  .
   rename_i hp
   rw [if_neg hp];split at h
   .
    rename_i h76
    rw [if_pos h76];split at h
    . cases h
    .
     rename_i hc
     rw [if_neg (by omega)];split at h
     . cases h
     .
      rename_i ps hps
      try (rw [hps]; simp only)
      split at h
      .
       rename_i he
       rw [if_pos he];simp only [Option.some.injEq, Prod.mk.injEq] at h;obtain ⟨rfl, rfl, rfl⟩ := h;obtain ⟨e1, e2⟩ := zbn hps;refine ⟨rfl, 0, rfl, .lf _ _ _ _ ?_ (by omega) e2⟩;cases root
       . simp only [true_and] at hc; simp only [Bool.false_eq_true, if_false]; omega
       . simp only [if_true]; omega
      . cases h
   .
    rename_i h76
    rw [if_neg h76];split at h
    . cases h
    .
     rename_i hc
     rw [not_or, not_or, not_or] at hc;obtain ⟨c1, c2, c3, c4⟩ := hc;rw [if_neg (by rintro (h | h | h); exact c1 h; omega; omega)];split at h
     . cases h
     .
      rename_i kids k1 u1 hk
      obtain ⟨i1, i2, i3⟩ := zkh (g' := loadR d frm til f) (fun p u n k u' hg => (zfM f hg).1) hk;rw [i1];simp only;split at h
      .
       rename_i he
       rw [if_pos he];simp only [Option.some.injEq, Prod.mk.injEq] at h;obtain ⟨rfl, rfl, rfl⟩ := h;obtain ⟨e1, e2⟩ := zcb hk;have hlen : kids.length = ((pageL d page).getD 1 0).toNat := by rw [e1]; simp [zar]
       have hne : zar ((pageL d page).drop 2) ((pageL d page).getD 1 0).toNat ≠ [] := fun e => by have := congrArg List.length e;rw [zdC, List.length_nil] at this;omega
       obtain ⟨-, i4⟩ := i3 hne;have hex : ∀ n ∈ kids, ∃ h, k1 = h + 1 /\ Tm 2 4 h n := fun n hn => by obtain ⟨p, u2, u3, hg⟩ := i4 n hn;exact (zfM f hg).2
       have hk0 : kids ≠ [] := fun e => by rw [e, List.length_nil] at hlen; omega
       obtain ⟨c, r, rfl⟩ := List.exists_cons_of_ne_nil hk0;obtain ⟨h, rfl, -⟩ := hex c (by simp);refine ⟨rfl, h + 1, rfl, .inn _ _ _ _ _ ?_ (by simp) (by omega) fun n hn => ?_⟩
       .
        cases root
        . simp only [true_and] at c4; simp only [Bool.false_eq_true, if_false]; omega
        . simp only [if_true]; omega
       .
        obtain ⟨h', e, t⟩ := hex n hn;obtain rfl : h' = h := by omega
        exact t
      . cases h
theorem zbW {g : Int -> List Int -> Option (Nd × List Int)} : ∀ {l : List Int} {u u' : List Int} {ns : List Nd}, kidsW g l u = some (ns, u') -> ns.length = l.length /\ ∀ n ∈ ns, ∃ p u1 u2, g p u1 = some (n, u2)
 | [], u, u', ns, h => by simp only [kidsW, Option.some.injEq, Prod.mk.injEq] at h;obtain ⟨rfl, rfl⟩ := h;exact ⟨rfl, fun n hn => by cases hn⟩
 | p :: r, u, u', ns, h => by
  rw [kidsW] at h;split at h
  . cases h
  .
   rename_i n u1 hx
   obtain ⟨⟨m, u2⟩, hm, e⟩ := Option.map_eq_some_iff.1 h;simp only [Prod.mk.injEq] at e;obtain ⟨rfl, rfl⟩ := e;obtain ⟨i1, i2⟩ := zbW hm;refine ⟨by simp [i1], fun x hx' => ?_⟩;rcases zmC.1 hx' with rfl | hx'
   . exact ⟨_, _, _, hx⟩
   . exact i2 x hx'
theorem zdu {d : Dsk} {frm til : Int} : ∀ (f : Nat) {page : Int} {used u : List Int} {n : Nd}, loadR d frm til f page used = some (n, u) -> Shp n
 | 0, _, _, _, _, h => by cases h
 | f + 1, page, used, u, n, h => by
  rw [loadR] at h;split at h
  . cases h
  .
   split at h
   .
    split at h
    . cases h
    .
     rename_i hc
     split at h
     . cases h
     .
      rename_i ps hps
      split at h
      . simp only [Option.some.injEq, Prod.mk.injEq] at h;obtain ⟨rfl, -⟩ := h;obtain ⟨e1, e2⟩ := zbn hps;exact .lf _ _ (by omega) (by omega) e2
      . cases h
   .
    split at h
    . cases h
    .
     rename_i hc
     rw [not_or, not_or] at hc;obtain ⟨c1, c2, c3⟩ := hc;split at h
     . cases h
     .
      rename_i kids u1 hk
      split at h
      .
       simp only [Option.some.injEq, Prod.mk.injEq] at h;obtain ⟨rfl, -⟩ := h;obtain ⟨e1, e2⟩ := zbW hk;have hlen : kids.length = ((pageL d page).getD 1 0).toNat := by rw [e1]; simp [zar]
       exact .inn _ _ (by omega) (by omega) fun x hx => by obtain ⟨p, u2, u3, hg⟩ := e2 x hx;exact zdu f hg
      . cases h
theorem zkg {d : Dsk} {frm til : Int} : ∀ (f : Nat) {root : Bool} {page : Int} {used u : List Int} {n : Nd} {h : Nat}, loadR d frm til f page used = some (n, u) -> Tm (if root then 1 else 2) (if root then 2 else 4) h n ->
  loadP d frm til f root page used = some (n, h + 1, u)
 | 0, _, _, _, _, _, _, h, _ => by cases h
 | f + 1, root, page, used, u, n, h, hl, t => by
  rw [loadR] at hl;rw [loadP];split at hl
  . cases hl
  .
   rename_i hp
   rw [if_neg hp];split at hl
   .
    rename_i h76
    rw [if_pos h76];split at hl
    . cases hl
    .
     rename_i hc
     split at hl
     . cases hl
     .
      rename_i ps hps
      obtain ⟨e1, e2⟩ := zbn hps;split at hl
      .
       rename_i he
       simp only [Option.some.injEq, Prod.mk.injEq] at hl;obtain ⟨rfl, rfl⟩ := hl;obtain rfl : h = 0 := t.leaf.2 rfl;obtain ⟨-, t1, t3, -⟩ := t.lf';simp only [Nd.ps] at t1 t3;rw [if_neg (by
        rintro (h | h | ⟨h1, h2⟩)
        . omega
        . omega
        . subst h1; simp only [Bool.false_eq_true, if_false] at t1; omega)]
       try (rw [hps]; simp only)
       rw [if_pos he]
      . cases hl
   .
    rename_i h76
    rw [if_neg h76];split at hl
    . cases hl
    .
     rename_i hc
     rw [not_or, not_or] at hc;obtain ⟨c1, c2, c3⟩ := hc;split at hl
     . cases hl
     .
      rename_i kids u1 hk
      split at hl
      .
       rename_i he
       simp only [Option.some.injEq, Prod.mk.injEq] at hl;obtain ⟨rfl, rfl⟩ := hl;obtain ⟨e1, e2⟩ := zbW hk;have hlen : kids.length = ((pageL d page).getD 1 0).toNat := by rw [e1]; simp [zar]
       have hk0 : kids ≠ [] := fun e => by rw [e, List.length_nil] at hlen; omega
       obtain ⟨h, rfl⟩ : ∃ m, h = m + 1 := by
        cases h with
        | zero => exact absurd (t.leaf.1 rfl) hk0
        | succ m => exact ⟨m, rfl⟩
       obtain ⟨-, -, t2, t8, tk⟩ := t.inn';simp only [Nd.kids] at t2 t8 tk;have hne : zar ((pageL d page).drop 2) ((pageL d page).getD 1 0).toNat ≠ [] := fun e => by have := congrArg List.length e;rw [zdC, List.length_nil] at this;omega
       rw [if_neg (by
        rintro (h | h | h | ⟨h1, h2⟩)
        . exact c1 h
        . omega
        . omega
        . subst h1; simp only [Bool.false_eq_true, if_false] at t2; omega)]
       rw [zjH (g := loadP d frm til f false) (k := h + 1) (Q := Tm 2 4 h) (fun p u n u' hq hg => zkg f hg hq) (o := none) tk (.inl rfl) hk];simp only [if_neg hne];rw [if_pos he]
      . cases hl
theorem zmu (d : Dsk) (frm til : Int) (r : Nat) : treeP d frm til r = treeX d frm til r := by
 unfold treeP treeX;split
 . rfl
 .
  cases hR : loadR d frm til (fuelX frm til) r [] with
  | none =>
   simp only;cases hP : loadP d frm til (fuelX frm til) true r [] with
   | none => rfl
   | some x => obtain ⟨n, k, u⟩ := x;have := (zfM _ hP).1;rw [hR] at this;cases this
  | some y =>
   obtain ⟨n, u⟩ := y;have hs := zdu _ hR;simp only;cases hP : loadP d frm til (fuelX frm til) true r [] with
   | none => simp only;rw [if_neg];intro hf;obtain ⟨-, h, t⟩ := (zbE hs).1 hf;have := zkg _ (root := true) hR t;rw [hP] at this;cases this
   | some x =>
    obtain ⟨n', k, u'⟩ := x;obtain ⟨e, h, -, t⟩ := zfM _ hP;rw [hR] at e;simp only [Option.some.injEq, Prod.mk.injEq] at e;obtain ⟨rfl, rfl⟩ := e;simp only
    by_cases ha : ascK n.prs = true
    . rw [if_pos ha, if_pos ((zbE hs).2 ⟨(zc5 _).1 ha, h, t⟩)]
    . rw [if_neg ha, if_neg fun hf => ha ((zc5 _).2 ((zbE hs).1 hf).1)]
theorem zjM (d : Dsk) (frm til : Int) : readP d frm til = readX d frm til := by unfold readP readX; rw [zmu]; rfl
theorem zm7 (d : Dsk) (frm til : Int) : openP d frm til = openX d frm til := by unfold openP openX; rw [zjM]; rfl
theorem zb3 (x : Ix) : zat x = za7 x := by unfold zat za7; rw [zjM]; rfl
theorem zk2 {d : Dsk} {frm til : Int} {r : Nat} {t : Option Nd} {u : List Int} (h : treeX d frm til r = some (t, u)) : OTm t := by
 unfold treeX at h;split at h
 . simp only [Option.some.injEq, Prod.mk.injEq] at h;obtain ⟨rfl, -⟩ := h;intro n e; cases e
 .
  split at h
  . cases h
  .
   rename_i n u1 hl
   split at h
   .
    rename_i hf
    simp only [Option.some.injEq, Prod.mk.injEq] at h;obtain ⟨rfl, -⟩ := h;intro m e;cases e;obtain ⟨h1, h2⟩ := (zbE (zdu _ hl)).1 hf;exact ⟨h2, h1⟩
   . cases h
theorem zg9 {x : Ix} {t : Option Nd} (h : za7 x = some t) : OTm t := by
 unfold za7 at h;split at h
 . cases h
 .
  split at h
  . cases h
  .
   rename_i y t' hr
   split at h
   .
    simp only [Option.some.injEq] at h;subst h;unfold readX at hr;split at hr
    . cases hr
    .
     split at hr
     . cases hr
     .
      rename_i t2 u2 ht
      simp only [Option.some.injEq, Prod.mk.injEq] at hr;rw [<- hr.2];exact zk2 ht
   . cases h
end Go.Proofs.YtlefmmhlpgmbjaaGreat
