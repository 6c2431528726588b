/- A map from strings to ints as a partial function (the pages of the old nodes by their contents); the placer's memory. btree.contents: the pages of the old nodes by their contents. Plain laws of placing; the placer's state in memory. -/
import Derived.Test.YtlefmmhlpgmbjaaGreatS19
import Derived.StringKeys
import Derived.Test.YtlefmmhlpgmbjaaGreatS15
import Derived.Test.YtlefmmhlpgmbjaaGreatS01
namespace Go.Proofs.YtlefmmhlpgmbjaaGreat
set_option maxRecDepth 100000
open Go.RowKit
theorem zed : Maps.Keyed Tryz.prog 9 := Maps.string_keyed Tryz.underlying9
theorem keyS {s : ByteArray} (hs : s.size <= maxLen) : keyOf Tryz.prog 9 (.string s) = some (.string s.data.toList) := WideMaps.keyOf_string_mk Tryz.underlying9 hs
theorem zlp (w : World) : (zeroValue 3).run Tryz.prog w = .ok (.int .i64 0) w := by kernel_rfl
theorem ziU {a b : ByteArray} (h : a.data.toList = b.data.toList) : a = b := ByteArray.ext (Array.ext' h)
def MapS (w : World) (b n : Nat) (f : ByteArray -> Option Int) : Prop :=
 ∃ D : DataW Unit, w.ownsMap Tryz.prog 9 (plainElem Tryz.prog 3) b n D /\ ∀ s : ByteArray, Maps.has D (.string s.data.toList) = (f s).isSome /\ ∀ p, f s = some p -> D.atKey (.string s.data.toList) (.lit (.int .i64 0)) = .lit (.int .i64 p)
theorem MapS.made (w : World) : MapS (w.alloc (.map #[] 0)) w.heap.size 0 (fun _ => none) := ⟨.map [], World.ownsMap_made _ _ _ _, fun _ => ⟨rfl, fun _ h => by cases h⟩⟩
theorem MapS.kept {w w' : World} {b n : Nat} {f : ByteArray -> Option Int} {row : Option Nat} (h : MapS w b n f) (hg : w.grownBy w' row) (hne : some b ≠ row) : MapS w' b n f := by
 obtain ⟨D, h1, h2⟩ := h;exact ⟨D, h1.kept hg hne, h2⟩
theorem MapS.lt {w : World} {b n : Nat} {f : ByteArray -> Option Int} (h : MapS w b n f) : b < w.heap.size := by
 obtain ⟨D, h1, _⟩ := h;exact h1.lt
theorem MapS.obj {w : World} {b n : Nat} {f : ByteArray -> Option Int} (h : MapS w b n f) : ∃ es clock, w.heap[b]? = some (.map es clock) := by
 obtain ⟨D, ⟨es, clock, h1, _⟩, _⟩ := h;exact ⟨es, clock, h1⟩
theorem MapI.obj {w : World} {b n : Nat} {l : List Int} (h : MapI w b n l) : ∃ es clock, w.heap[b]? = some (.map es clock) := by
 obtain ⟨D, ⟨es, clock, h1, _⟩, _⟩ := h;exact ⟨es, clock, h1⟩
theorem MapS.same {w w' : World} {b n : Nat} {f : ByteArray -> Option Int} (h : MapS w b n f) (hs : w'.heap[b]? = w.heap[b]?) : MapS w' b n f := by
 obtain ⟨D, ⟨es, clock, h1, h3⟩, h2⟩ := h;exact ⟨D, ⟨es, clock, hs.trans h1, h3⟩, h2⟩
def putF (f : ByteArray -> Option Int) (s : ByteArray) (p : Int) : ByteArray -> Option Int := fun t => if t = s then some p else f t
section
variable {ops : Array Oper} {rest : List Oper} {o : Oper} {a : Act} {Q : Exit -> Act -> World -> Prop} {w : World}
theorem zlc {b n : Nat} {f : ByteArray -> Option Int} (hown : MapS w b n f) (hn : n < maxLen) (s : ByteArray) (hs : s.size <= maxLen) (p : Int) (hp : PgOk p) :
  ∃ w', (Instr.mapUpdate 118 (.map (some b)) (.string s) (.int .i64 p)).run Tryz.prog w = .ok () w' /\ MapS w' b (n + 1) (putF f s p) /\ w.grownBy w' (some b) := by
 obtain ⟨D, h1, h2⟩ := hown;obtain ⟨w', hr, ho, hgr⟩ := h1.update zed Tryz.underlying118 hn (key := .string s) (val := .int .i64 p) (kl := .string s.data.toList) (d := .lit (.int .i64 p)) (ps := []) (keyS hs) (plainElem_int Tryz.underlying3 (wf_pg hp));refine ⟨w', hr, ⟨_, ho, fun t => ?_⟩, hgr⟩;unfold putF
 by_cases ht : t = s
 . subst ht;rw [if_pos rfl];refine ⟨by rw [Maps.has_put_same h1.isMap (zed.key (keyS hs))]; rfl, fun q hq => ?_⟩;obtain rfl : p = q := Option.some.inj hq;rw [Maps.atKey_put_same h1.isMap (zed.key (keyS hs))]
 . rw [if_neg ht];have hne : (Lit.string t.data.toList) ≠ .string s.data.toList := fun e => ht (ziU (by injection e));exact ⟨by rw [Maps.has_put_other hne]; exact (h2 t).1, fun q hq => by rw [Maps.atKey_put_other hne]; exact (h2 t).2 q hq⟩
theorem zk4 {b n : Nat} {f : ByteArray -> Option Int} (h : MapS w b n f) (s : ByteArray) (hs : s.size <= maxLen) : (Instr.lookup 118 (.map (some b)) (.string s) true).run Tryz.prog w = .ok (.tuple #[.int .i64 ((f s).getD 0), .bool (f s).isSome]) w := by
 obtain ⟨D, h1, h2⟩ := h;obtain ⟨h3, h4⟩ := h2 s;obtain ⟨v, ps, hr, hv⟩ := h1.look_ok zed Tryz.underlying118 (zlp w) (plainElem_int Tryz.underlying3 (by decide)) (keyS hs);rw [hr, h3];obtain ⟨c, rfl, e, -⟩ := plainElem_int_inv Tryz.underlying3 hv;have e1 := congrArg Prod.fst e;simp only at e1;cases hf : f s with
 | none =>
  rw [hf] at h3;rw [Maps.atKey_of_not_has h3] at e1;injection e1 with e1
  injection e1 with _ e1
  rw [<- e1]; rfl
 | some p =>
  rw [h4 p hf] at e1;injection e1 with e1
  injection e1 with _ e1
  rw [<- e1]; rfl
end
mutual
def Nd.pre : Nd -> List Nd
 | .mk ps ks g => .mk ps ks g :: Nd.preK ks
def Nd.preK : List Nd -> List Nd
 | [] => []
 | k :: ks => k.pre ++ Nd.preK ks
end
theorem Nd.preK_eq (l : List Nd) : Nd.preK l = (l.map Nd.pre).flatten := by
 induction l with
 | nil => rfl
 | cons x l ih => rw [Nd.preK, ih]; rfl
theorem Nd.pre_eq (n : Nd) : n.pre = n :: (n.kids.map Nd.pre).flatten := by cases n; rw [Nd.pre, Nd.preK_eq]; rfl
def contL (f : ByteArray -> Option Int) (l : List Nd) : ByteArray -> Option Int := l.foldl (fun f k => putF f (bs (encD k)) k.page) f
theorem zkb (f : ByteArray -> Option Int) (a b : List Nd) : contL f (a ++ b) = contL (contL f a) b := List.foldl_append
def zeo (n : Nd) : Prop := ∀ k ∈ n.pre, EncOk k /\ PgOk k.page
theorem zeo.kid {n k : Nd} (h : zeo n) (hk : k ∈ n.kids) : zeo k := fun x hx => h x (by rw [Nd.pre_eq]; exact List.mem_cons_of_mem _ (List.mem_flatten.2 ⟨_, List.mem_map.2 ⟨k, hk, rfl⟩, hx⟩))
theorem zeo.self {n : Nd} (h : zeo n) : EncOk n /\ PgOk n.page := h n (by rw [Nd.pre_eq]; simp)
theorem Lies.cells {base : Nat} {w : World} : ∀ {t : AT}, Lies base w t -> ∀ x ∈ t.fp, ∃ cs ty fz, w.heap[x]? = some (.cells cs ty fz) /\ (ty = 129 \/ ty = 77 \/ ty = 88) := by
 intro t
 induction t using AT.ind with
 | h b pv kv ps kids page ih =>
  intro h x hx;have h2 := h.hx;have h3 := h.hp;have h4 := h.hk;have h5 := h.hc;simp only [AT.b, AT.pv, AT.kv, AT.kids, AT.ps] at h2 h3 h4 h5;rw [AT.fp, zmC, zmA, zmA] at hx;have hrow : ∀ {e : TypeId} {k n : Nat} {v : Value} {xs : List Value}, RowO w base e k v n xs -> ∀ g ∈ v.ownBlock.toList, ∃ cs, w.heap[g]? = some (.cells cs e (0, 0)) := by
   intro e k n v xs hr g hg;rcases hr.2 with ⟨rfl, _⟩ | ⟨g', cap, cur, rfl, _, hh, _⟩
   . simp [Value.ownBlock] at hg
   .
    have : g = g' := by have h := hg; simp [Value.ownBlock] at h; exact h
    subst this;exact ⟨_, hh⟩
  rcases hx with rfl | hx | hx | hx
  . exact ⟨_, _, _, h2, .inl rfl⟩
  . obtain ⟨cs, hh⟩ := hrow h3 x hx;exact ⟨_, _, _, hh, .inr (.inl rfl)⟩
  . obtain ⟨cs, hh⟩ := hrow h4 x hx;exact ⟨_, _, _, hh, .inr (.inr rfl)⟩
  . obtain ⟨t, ht, hx⟩ := AT.mem_fpL.1 hx;exact ih t ht (h5 t ht) x hx
theorem Lies.ne_map {base : Nat} {w : World} {t : AT} (h : Lies base w t) {b : Nat} (hb : ∃ es clock, w.heap[b]? = some (.map es clock)) : b ∉ t.fp := fun hm => by
 obtain ⟨cs, ty, fz, e, _⟩ := h.cells b hm;obtain ⟨es, clock, e2⟩ := hb;rw [e] at e2;cases e2
theorem Lies.grownM {base : Nat} {w w' : World} {t : AT} (h : Lies base w t) {b : Nat} (hb : b ∉ t.fp) (hg : w.grownBy w' (some b)) : Lies base w' t :=
 h.same fun x hx => hg.block x (h.lt x hx).2 (fun e => hb (by
  have : x = b := by simpa using e
  rw [<- this]; exact hx))
theorem grownBy_trans {a b c : World} {row : Option Nat} (h : a.grownBy b row) (k : b.grownBy c row) : a.grownBy c row :=
 ⟨k.os.trans h.os, k.tape.trans h.tape, k.output.trans h.output, znT h.size k.size, fun j hj hn => (k.block j (znL hj h.size) hn).trans (h.block j hj hn)⟩
theorem zbT {a b : World} (h : Below a.heap.size a b) (row : Option Nat) : a.grownBy b row := grownBy_below h (Nat.le_refl _) row
theorem zfK {n : Nd} (h : EncOk n) : (encL n).length <= 400 := by
 unfold encL;rcases h with ⟨h1, h2, h3⟩ | ⟨h1, h2, h3⟩
 . rw [if_pos h1];have := zf9 h3 h2 n.ps.length;rw [zhJ] at this;omega
 . rw [if_neg (by intro e; rw [e] at h1; simp at h1)];have := zh4 (kids := n.kids) h3 h2 n.kids.tail.length;rw [zhV] at this;omega
set_option maxRecDepth 100000 in
set_option maxHeartbeats 4000000 in
theorem zhH (base kb : Nat) : ∀ (t : AT) (w : World) (m : Nat) (f : ByteArray -> Option Int), Lies base w t -> zeo t.nd -> MapS w kb m f -> m + t.nd.pre.length <= 1000000 ->
  Calls Tryz.prog 73 #[t.ptr, .map (some kb)] w fun e w' => e = .returned (.tuple #[]) /\ MapS w' kb (m + t.nd.pre.length) (contL f t.nd.pre) /\ w.grownBy w' (some kb) := by
 intro t
 induction t using AT.ind with
 | h b pv kv ps kids page ih =>
 intro w m f h hE hM hm;have hx := h.hx;have hk := h.hk;have hc := h.hc;simp only [AT.b, AT.pv, AT.kv, AT.kids, AT.page] at hx hk hc;simp only [AT.ptr, AT.b];obtain ⟨Nn, hN⟩ : ∃ n, (AT.mk b pv kv ps kids page).nd = n := ⟨_, rfl⟩;have hnk : Nn.kids = kids.map AT.nd := by rw [<- hN, AT.nd_kids]; rfl
 have hnp : Nn.page = page := by rw [<- hN, AT.nd_page]; rfl
 rw [hN] at hE hm |-;have henc := fun W hb => zgz base (.mk b pv kv ps kids page) W (h.staysAll (w' := W) hb) (by rw [hN]; exact hE.self.1);rw [hN] at henc;simp only [AT.ptr, AT.b] at henc;obtain ⟨sE, hsE⟩ : ∃ s, bs (encD Nn) = s := ⟨_, rfl⟩;rw [hsE] at henc;have hpre : Nn.pre = Nn :: (Nn.kids.map Nd.pre).flatten := Nd.pre_eq Nn;have hsz : sE.size <= maxLen := by
  rw [<- hsE, zaj];have : (encD Nn).length <= 2000 := by unfold encD padZ;have := zfK hE.self.1;rw [zlA, List.length_replicate]; omega
  unfold maxLen; omega
 have hpl : Nn.pre.length = 1 + ((kids.map AT.nd).map Nd.pre).flatten.length := by rw [hpre, hnk, zlC]; omega
 have hkb := h.ne_map hM.obj;have hlt := h.lt;have HE := zhI hE;have HIH := zhI ih;have HH := zhI (zaI h hkb);have Hpre := zhI (zaI hpre (zaI hnk (zaI hnp (zaI hsE hpl))));have Henc := zhI henc;have HM := zhI hM;have Hsz := zhI hsz;have Hpg : Hid (PgOk page) := zhI (hnp ▸ hE.self.2);obtain ⟨og, cg, lg⟩ := hk.lit;rw [lg] at hx;have hn8 : kids.length <= 8 := by
  have hl : Nn.kids.length = kids.length := by rw [hnk, List.length_map]
  rcases hE.self.1 with ⟨h1, _⟩ | ⟨_, h1, _⟩
  . rw [h1] at hl; simp at hl; omega
  . omega
 obtain ⟨n, hn⟩ : ∃ n, kids.length = n := ⟨_, rfl⟩;rw [hn] at hx hn8;have Hk := zhI (zaI lg (zaI hk hc));have Hn := zhI hn;have cX := hx.cell;have lX := hx.lt;unfold nodeC at cX;have Hm : Hid (m + Nn.pre.length <= 1000000) := zhI hm;clear hpl hkb hlt hE ih h hpre hnk hnp hsE henc hM hsz hN lg hk hc hn hm hx;go_enter Tryz.func73, Tryz.ntmps73;go_upto_region 1 with fail
 have cQ := Lat.cells w;refine zal 7 1 #[true, true, true, true, true, true, true, false] (fun i => if i = 2 then some (annK (.string sE)) else if i = 4 then some (annK (.pointer (some ⟨b, 0, none⟩))) else none) (by kernel_rfl) (by rfl) (by rfl) (by kernel_rfl) ?_;simp only [List.take_succ_cons, List.take_zero];refine LW.block 2 2 (by rfl) (by kernel_rfl) (by kernel_rfl) ?_;simp only [ztP]
 repeat (first | go_big_quiet_skip | (go_big_quiet_want; go_big_quiet_op; go_big_quiet_on))
 refine wpQuiet_nil ?_;refine LW.lzy _ (by rfl) (by rfl) ?_ ?_
 . intro yL _;unfold lzAt;go_simp;exact zaH (Henc.out _ yL.2)
 intro _;simp only [Act.put, zsP]
 (try simp only [annK])
 refine LW.block 1 4 (by rfl) (by kernel_rfl) (by kernel_rfl) ?_;simp only [ztP]
 repeat (first | go_big_quiet_skip | (go_big_quiet_want; go_big_quiet_op; go_big_quiet_on))
 refine wpQuiet_nil ?_;refine LW.lzy _ (by rfl) (by rfl) ?_ ?_
 . intro yL _;exact zaL ((by rfl))
 intro _;simp only [Act.put, zsP]
 (try simp only [annK])
 refine LW.block 2 7 (by rfl) (by kernel_rfl) (by kernel_rfl) ?_;simp only [ztP]
 repeat (first | go_big_quiet_skip | (go_big_quiet_want; go_big_quiet_op; go_big_quiet_on))
 refine wpQuiet_nil ?_;refine LW.done ?_;intro W2 hG;have hb2 := hG.below;refine wpAny_ready (rs := [7]) (by kernel_rfl) (by simp) ?_;refine AllReady.cons rfl (fun K hK => ?_) AllReady.nil;go_simp;have hkw := (HH.out.1.staysAll hb2);have hM2 : MapS W2 kb m f := HM.out.kept (zbT hb2 none) (by simp);obtain ⟨W3, hr3, hM3, hg3⟩ := zlc hM2 (by have := Hm.out; have := Hpre.out.2.2.2.2; unfold maxLen; omega) sE Hsz.out page Hpg.out;rw [hr3];go_simp;refine hK _ _ ?_;clear hK K hr3;simp only [zsP];refine wpAny_done (by kernel_rfl) ?_ _;have hkb2 : kb ∉ (AT.mk b pv kv ps kids page).fp := HH.out.2;have hl3 : Lies base W3 (.mk b pv kv ps kids page) := hkw.grownM hkb2 hg3;have hG3 : w.grownBy W3 (some kb) := grownBy_trans (zbT hb2 _) hg3;obtain ⟨f1, hf1⟩ : ∃ g, putF f sE page = g := ⟨_, rfl⟩;rw [hf1] at hM3;have hx3 := hl3.hx;have hk3 := hl3.hk;simp only [AT.b, AT.pv, AT.kv, AT.kids, AT.page] at hx3 hk3;rw [Hk.out.1, Hn.out] at hx3;clear cX lX cQ;have cX := hx3.cell;have lX := hx3.lt;unfold nodeC at cX;have H3 := zhI (zaI hl3 (zaI hM3 (zaI hG3 hf1)));clear hG hb2 hkw hM2 hM3 hg3 hkb2 hl3 hG3 hf1 hx3 hk3;go_wp2;clear cX lX
 go_loopw [20] (fun i wr => ∃ k : Nat, k <= n /\ i = .int .i64 k /\ Lies base wr (.mk b pv kv ps kids page) /\ MapS wr kb (m + 1 + (((kids.take k).map AT.nd).map Nd.pre).flatten.length) (contL f1 (((kids.take k).map AT.nd).map Nd.pre).flatten) /\ w.grownBy wr (some kb)) (fun i _ => n - (intOf i).toNat)
 case atStart => exact ⟨0, by omega, rfl, H3.out.1, by simpa [contL] using H3.out.2.1, H3.out.2.2.1⟩
 case round =>
  obtain ⟨k, hk, rfl, hl, hM, hG⟩ := hrel;have hkr := hl.hk;simp only [AT.kv, AT.kids] at hkr
  by_cases hlt : k < n
  .
   have hlk : k < kids.length := by rw [Hn.out]; exact hlt
   obtain ⟨g, c, e1, c0, hle, hg⟩ := zaY hkr hlk;have hgl := (hkr.lt g hg).2;have hog := Hk.out.1;rw [e1] at hog;obtain ⟨rfl, rfl⟩ : some ⟨g, 0, none⟩ = og /\ c = cg := by have h := hog; simp at h; exact ⟨h.1, h.2⟩
   have hkm : kids[k] ∈ kids := List.getElem_mem hlk;have hcl := hl.hc kids[k] hkm;have htk : (((kids.take (k + 1)).map AT.nd).map Nd.pre).flatten = (((kids.take k).map AT.nd).map Nd.pre).flatten ++ kids[k].nd.pre := by rw [List.take_succ_eq_append_getElem hlk, List.map_append, List.map_append, List.flatten_append]; simp
   have hle2 : (((kids.take (k + 1)).map AT.nd).map Nd.pre).flatten.length <= ((kids.map AT.nd).map Nd.pre).flatten.length := by
    have : kids.map AT.nd = (kids.take (k + 1)).map AT.nd ++ (kids.drop (k + 1)).map AT.nd := by rw [<- List.map_append, List.take_append_drop]
    rw [this, List.map_append, List.flatten_append, zlA]; omega
   have hih := HIH.out kids[k] hkm wr _ _ hcl (HE.out.kid (by rw [Hpre.out.2.1]; exact List.mem_map.2 ⟨_, hkm, rfl⟩)) hM (by
    have := Hm.out; have := Hpre.out.2.2.2.2; rw [htk, zlA] at hle2; omega)
   have Hih := zhI hih;have Htk := zhI htk;have Hkm := zhI (zaI hkm (zaI hl hG));have HkM := zhI hM;unfold AT.ptr at c0 Hih;rw [Hn.out] at hle;obtain ⟨cb, hcb⟩ : ∃ x, kids[k].b = x := ⟨_, rfl⟩;rw [hcb] at c0 Hih;clear hih htk hkm hcl hle2 hog e1 hkr hg hM hG hl hcb;go_wp2_with fail;refine Hih.out.mono ?_;rintro e W5 ⟨rfl, hM5, hG5⟩;have H5 := zhI (zaI hM5 hG5);clear hM5 hG5 Hih c0 hgl hle;go_wp2;go_roundw
   case rel => refine ⟨k + 1, by omega, by go_num, Hkm.out.2.1.grownM HH.out.2 H5.out.2, ?_, grownBy_trans Hkm.out.2.2 H5.out.2⟩;rw [Htk.out, zkb, zlA, <- Nat.add_assoc];exact H5.out.1
   case measure => simp [intOf]; omega
  .
   obtain rfl : k = n := by omega
   have hfull : kids.take k = kids := List.take_of_length_le (by rw [Hn.out]; exact Nat.le_refl _);rw [hfull] at hM;have HF := zhI (zaI hM hG);clear hM hG hl hkr hfull;go_wp2;refine bodyPost_end (v := .tuple #[]) (by simp [results, Tryz.results73, go_sem]) rfl ?_;obtain ⟨hpre, hnk, hnp, hsE, hpl⟩ := Hpre.out;refine ⟨rfl, ?_, HF.out.2⟩;rw [hpl, hpre, hnk, <- Nat.add_assoc];have hc1 : contL f (Nn :: ((kids.map AT.nd).map Nd.pre).flatten) = contL f1 ((kids.map AT.nd).map Nd.pre).flatten := by rw [<- H3.out.2.2.2, <- hsE, <- hnp]; rfl
   rw [hc1];exact HF.out.1
theorem zbh (look : List UInt8 -> Option Int) (n : Nd) (p : Plc) : za0 look n p = match zaT look n.kids p with
  | none => none
  | some (kids, q) => match look (encD (.mk n.ps kids 0)) with
   | some g => some (.mk n.ps kids g, q)
   | none => match q.free with
    | [] => none
    | g :: r => some (.mk n.ps kids g, ⟨r, q.ws ++ [⟨g, bs (encD (.mk n.ps kids 0))⟩]⟩) := by
 cases n; rw [za0]; rfl
def PlcB (look : List UInt8 -> Option Int) (p : Plc) : Prop := (∀ s g, look s = some g -> 0 <= g /\ g <= 1000000) /\ ∀ g ∈ p.free, 0 <= g /\ g <= 1000000
theorem zjR {look : List UInt8 -> Option Int} {ks : List Nd} (ih : ∀ k ∈ ks, ∀ p n' q, za0 look k p = some (n', q) -> n'.er = k.er /\ (∀ g ∈ q.free, g ∈ p.free) /\ (PlcB look p -> 0 <= n'.page /\ n'.page <= 1000000)) :
  ∀ {p : Plc} {ks' : List Nd} {q : Plc}, zaT look ks p = some (ks', q) -> ks'.map Nd.er = ks.map Nd.er /\ (∀ g ∈ q.free, g ∈ p.free) /\ (PlcB look p -> ∀ k ∈ ks', 0 <= k.page /\ k.page <= 1000000) := by
 induction ks with
 | nil => intro p ks' q h;rw [zaT] at h;simp only [Option.some.injEq, Prod.mk.injEq] at h;obtain ⟨rfl, rfl⟩ := h;exact ⟨rfl, fun g hg => hg, fun _ k hk => by cases hk⟩
 | cons k ks ihl =>
  intro p ks' q h;rw [zaT] at h;split at h
  . cases h
  .
   rename_i n1 q1 h1
   obtain ⟨⟨m, q2⟩, hm, e⟩ := Option.map_eq_some_iff.1 h;simp only [Prod.mk.injEq] at e;obtain ⟨rfl, rfl⟩ := e;obtain ⟨a1, a2, a3⟩ := ih k (by simp) _ _ _ h1;obtain ⟨b1, b2, b3⟩ := ihl (fun x hx => ih x (by simp [hx])) hm;refine ⟨by rw [List.map_cons, List.map_cons, a1, b1], fun g hg => a2 g (b2 g hg), fun hB x hx => ?_⟩;rcases zmC.1 hx with rfl | hx
   . exact a3 hB
   . exact b3 ⟨hB.1, fun g hg => hB.2 g (a2 g hg)⟩ x hx
theorem zeX {look : List UInt8 -> Option Int} : ∀ (n : Nd) (p : Plc) (n' : Nd) (q : Plc), za0 look n p = some (n', q) -> n'.er = n.er /\ (∀ g ∈ q.free, g ∈ p.free) /\ (PlcB look p -> 0 <= n'.page /\ n'.page <= 1000000) := by
 intro n
 induction n using Nd.ind with
 | h ps kids page ih =>
  intro p n' q h;rw [zbh] at h;simp only [Nd.kids, Nd.ps] at h;split at h
  . cases h
  .
   rename_i ks q1 h1
   obtain ⟨b1, b2, b3⟩ := zjR ih h1;have her : ∀ g, (Nd.mk ps ks g).er = (Nd.mk ps kids page).er := fun g => by rw [Nd.er_eq, Nd.er_eq]; simp only [Nd.ps, Nd.kids]; rw [b1]
   split at h
   .
    rename_i g hg
    simp only [Option.some.injEq, Prod.mk.injEq] at h;obtain ⟨rfl, rfl⟩ := h;exact ⟨her g, b2, fun hB => hB.1 _ _ hg⟩
   .
    split at h
    . cases h
    .
     rename_i g r hf
     simp only [Option.some.injEq, Prod.mk.injEq] at h;obtain ⟨rfl, rfl⟩ := h;exact ⟨her g, fun x hx => b2 x (by rw [hf]; simp [show x ∈ r from hx]), fun hB => hB.2 g (b2 g (by rw [hf]; simp))⟩
theorem zgZ {look : List UInt8 -> Option Int} {ks : List Nd} (ih : ∀ k ∈ ks, ∀ p n' q, za0 look k p = some (n', q) -> q.ws.length <= p.ws.length + k.pre.length) :
  ∀ {p : Plc} {ks' : List Nd} {q : Plc}, zaT look ks p = some (ks', q) -> q.ws.length <= p.ws.length + (ks.map Nd.pre).flatten.length := by
 induction ks with
 | nil => intro p ks' q h;rw [zaT] at h;simp only [Option.some.injEq, Prod.mk.injEq] at h;obtain ⟨rfl, rfl⟩ := h;simp
 | cons k ks ihl =>
  intro p ks' q h;rw [zaT] at h;split at h
  . cases h
  .
   rename_i n1 q1 h1
   obtain ⟨⟨m, q2⟩, hm, e⟩ := Option.map_eq_some_iff.1 h;simp only [Prod.mk.injEq] at e;obtain ⟨rfl, rfl⟩ := e;have a1 := ih k (by simp) _ _ _ h1;have b1 := ihl (fun x hx => ih x (by simp [hx])) hm;rw [List.map_cons, List.flatten_cons, zlA];omega
theorem zdg {look : List UInt8 -> Option Int} : ∀ (n : Nd) (p : Plc) (n' : Nd) (q : Plc), za0 look n p = some (n', q) -> q.ws.length <= p.ws.length + n.pre.length := by
 intro n
 induction n using Nd.ind with
 | h ps kids page ih =>
  intro p n' q h;rw [zbh] at h;rw [Nd.pre_eq, zlC];simp only [Nd.kids, Nd.ps] at h |-;split at h
  . cases h
  .
   rename_i ks q1 h1
   have b1 := zgZ ih h1;split at h
   . simp only [Option.some.injEq, Prod.mk.injEq] at h;obtain ⟨rfl, rfl⟩ := h;omega
   .
    split at h
    . cases h
    . simp only [Option.some.injEq, Prod.mk.injEq] at h;obtain ⟨rfl, rfl⟩ := h;simp only [zlA, zlC, List.length_nil];omega
structure PlS (w : World) (base pb kb ub kn : Nat) (f : ByteArray -> Option Int) (fo : Option Addr) (fc : Nat) (tv : Value) (un : Nat) (p : Plc) (used : List Int) : Prop where
 box : Bx w pb #[.map (some kb), .slice fo p.free.length fc, tv, .map (some ub)] 121
 known : MapS w kb kn f
 fr : zas (· < base) w fo p.free
 fs : SlW fo p.free.length fc
 tk : w.ownsRow base 80 2 tv p.ws.length (zaP p.ws)
 us : MapI w ub un used
 pbB : base <= pb
 ubB : base <= ub
 kub : kb ≠ ub
 sz : ∀ x ∈ p.ws, x.data.size <= 1000
theorem KeepB.trans' {L M : List Nat} {A B C : World} (h : KeepB L A B) (k : KeepB M B C) (hs : ∀ y ∈ M, y ∈ L \/ A.heap.size <= y) : KeepB L A C :=
 ⟨k.1.trans h.1, k.2.1.trans h.2.1, k.2.2.1.trans h.2.2.1, znT h.2.2.2.1 k.2.2.2.1, fun b hb hn => (k.2.2.2.2 b (znL hb h.2.2.2.1) (fun hm => by
  rcases hs b hm with g | g
  . exact hn g
  . omega)).trans (h.2.2.2.2 b hb hn)⟩
theorem zas.kept {base : Nat} {w w' : World} {o : Option Addr} {l : List Int} {L : List Nat} (h : zas (· < base) w o l) (hk : KeepB L w w') (hL : ∀ y ∈ L, base <= y) (hb : base <= w.heap.size) : zas (· < base) w' o l := fun i hi => by
 obtain ⟨b, off, e, hc, hs⟩ := h i hi;refine ⟨b, off, e, ?_, hs⟩;rw [cell_of_block (hk.2.2.2.2 b (znL hs hb) fun hm => by have := hL b hm; omega)];exact hc
theorem PlS.apart {w : World} {base pb kb ub kn : Nat} {f : ByteArray -> Option Int} {fo : Option Addr} {fc : Nat} {tv : Value} {un : Nat} {p : Plc} {used : List Int} (h : PlS w base pb kb ub kn f fo fc tv un p used) {t : AT} (hl : Lies base w t) :
  pb ∉ t.fp /\ kb ∉ t.fp /\ ub ∉ t.fp /\ (∀ g, tv.ownBlock = some g -> g ∉ t.fp) /\ pb ≠ kb /\ pb ≠ ub /\ (∀ g, tv.ownBlock = some g -> g ≠ pb /\ g ≠ kb /\ g ≠ ub) := by
 have hbx := h.box;unfold Bx at hbx;obtain ⟨ek, ck, hk⟩ := h.known.obj;obtain ⟨eu, cu, hu⟩ := h.us.obj;have htk : ∀ g, tv.ownBlock = some g -> ∃ cs, w.heap[g]? = some (.cells cs 80 (0, 0)) := fun g hg => by
  rcases h.tk.2 with ⟨rfl, _⟩ | ⟨g', cap, cur, rfl, _, hh, _⟩
  . simp [Value.ownBlock] at hg
  .
   have : g = g' := by have h := hg; simp [Value.ownBlock] at h; exact h.symm
   subst this;exact ⟨_, hh⟩
 refine ⟨fun hm => ?_, hl.ne_map ⟨_, _, hk⟩, hl.ne_map ⟨_, _, hu⟩, fun g hg hm => ?_, ?_, ?_, fun g hg => ?_⟩
 . obtain ⟨cs, ty, fz, e, ht⟩ := hl.cells pb hm;rw [hbx] at e;simp only [Option.some.injEq, Obj.cells.injEq] at e;rcases ht with ht | ht | ht <;> rw [<- e.2.1] at ht <;> exact absurd ht (by decide)
 . obtain ⟨cs, ty, fz, e, ht⟩ := hl.cells g hm;obtain ⟨cs', hh⟩ := htk g hg;rw [hh] at e;simp only [Option.some.injEq, Obj.cells.injEq] at e;rcases ht with ht | ht | ht <;> rw [<- e.2.1] at ht <;> exact absurd ht (by decide)
 . rintro rfl; rw [hbx] at hk; cases hk
 . rintro rfl; rw [hbx] at hu; cases hu
 .
  obtain ⟨cs', hh⟩ := htk g hg;refine ⟨?_, ?_, ?_⟩
  . rintro rfl; rw [hbx] at hh;simp only [Option.some.injEq, Obj.cells.injEq] at hh;exact absurd hh.2.1 (by decide)
  . rintro rfl; rw [hk] at hh; cases hh
  . rintro rfl; rw [hu] at hh; cases hh
theorem zbK {w w' : World} {base k n : Nat} {e : TypeId} {v : Value} {xs : List Value} {L : List Nat} (h : w.ownsRow base e k v n xs) (hK : KeepB L w w') (hv : ∀ g, v.ownBlock = some g -> g ∉ L) : w'.ownsRow base e k v n xs := by
 refine ⟨h.1, ?_⟩;rcases h.2 with h | ⟨g, cap, cur, h1, h2, h3, h4⟩
 . exact .inl h
 . subst h1;exact .inr ⟨g, cap, cur, rfl, h2, (hK.2.2.2.2 g (Array.getElem?_eq_some_iff.1 h3).1 (hv g rfl)).trans h3, h4⟩
theorem PlS.keep {w w' : World} {base pb kb ub kn : Nat} {f : ByteArray -> Option Int} {fo : Option Addr} {fc : Nat} {tv : Value} {un : Nat} {p : Plc} {used : List Int} (h : PlS w base pb kb ub kn f fo fc tv un p used) {L : List Nat} (hK : KeepB L w w')
  (hL : ∀ y ∈ L, base <= y) (hb : base <= w.heap.size) (h1 : pb ∉ L) (h2 : kb ∉ L) (h3 : ub ∉ L) (h4 : ∀ g, tv.ownBlock = some g -> g ∉ L) : PlS w' base pb kb ub kn f fo fc tv un p used :=
 ⟨hK.bx h.box h1, h.known.same (hK.2.2.2.2 kb h.known.lt h2), h.fr.kept hK hL hb, h.fs, zbK h.tk hK h4, h.us.same (hK.2.2.2.2 ub h.us.lt h3), h.pbB, h.ubB, h.kub, h.sz⟩
end Go.Proofs.YtlefmmhlpgmbjaaGreat
