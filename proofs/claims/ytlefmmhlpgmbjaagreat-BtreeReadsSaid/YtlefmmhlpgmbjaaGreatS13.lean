/- btree.get, btree.Get: program's side. Rows whose slice may be shorter than the block: append, copy, clear at elements of any number of cells. No function of the program is named here. slices.Insert of one element. slices.Grow, Concat, Clone. -/
import Derived.Test.YtlefmmhlpgmbjaaGreatS12
import Derived.Test.YtlefmmhlpgmbjaaGreatS06
import Derived.Lib.AppendZerosOnto
import Derived.Lib.Overlaps
import Derived.Laws.Externs
import Derived.Maps.AppendAt
import Derived.Test.YtlefmmhlpgmbjaaGreatS07
import Derived.Lib.AppendZeros
import Derived.Test.YtlefmmhlpgmbjaaGreatS01
namespace Go.Proofs.YtlefmmhlpgmbjaaGreat
set_option maxRecDepth 100000
open Go.RowKit
def Nd.leafAt (key : ByteArray) (n : Nd) : List Kv :=
 match _hk : n.kids[zav n.kids key]? with
 | none => n.ps
 | some c => c.leafAt key
termination_by SizeOf.sizeOf n
decreasing_by exact Nd.kid_lt (List.mem_of_getElem? _hk)
theorem Nd.leafAt_leaf {key : ByteArray} {n : Nd} (h : n.kids = []) : n.leafAt key = n.ps := by
 rw [Nd.leafAt];split
 . rfl
 . rename_i c hc; rw [h] at hc; simp at hc
theorem Nd.leafAt_kid {key : ByteArray} {n : Nd} (h : n.kids ≠ []) : n.leafAt key = (n.kids[zav n.kids key]'(zaG key h)).leafAt key := by
 rw [Nd.leafAt];split
 . rename_i hc; have := zaG key h; rw [List.getElem?_eq_none_iff] at hc; omega
 .
  rename_i c hc
  obtain ⟨hi, rfl⟩ := List.getElem?_eq_some_iff.1 hc;rfl
theorem Nd.leafAt_sub (key : ByteArray) : ∀ {n : Nd}, n.Wf -> (n.leafAt key).Sublist n.prs := by
 intro n
 induction n using Nd.ind with
 | h ps kids page ih =>
  intro hw
  by_cases h : kids = []
  . rw [Nd.leafAt_leaf (n := .mk ps kids page) h, Nd.prs_leaf (n := .mk ps kids page) h];exact List.Sublist.refl _
  . rw [Nd.leafAt_kid (n := .mk ps kids page) h, Nd.prs_inner (n := .mk ps kids page) h];have hm := List.getElem_mem (zaG key h);exact (ih _ hm (hw.kid _ hm)).trans (List.sublist_flatten_of_mem (List.mem_map.2 ⟨_, hm, rfl⟩))
def getL (ps : List Kv) (key : ByteArray) : ByteArray × Bool := if findB ps key then ((ps[findI ps key]?.map (·.2)).getD ByteArray.empty, true) else (ByteArray.empty, false)
def getO (o : Option Nd) (key : ByteArray) : ByteArray × Bool :=
 match o with
 | none => (ByteArray.empty, false)
 | some n => getL (n.leafAt key) key
theorem AT.kid_lt {t c : AT} (h : c ∈ t.kids) : SizeOf.sizeOf c < SizeOf.sizeOf t := by
 cases t with | mk b pv kv ps kids page =>
  have := List.sizeOf_lt_of_mem (show c ∈ kids from h);simp;omega
theorem Shp.kid {n : Nd} (h : Shp n) : ∀ k ∈ n.kids, Shp k := by
 cases h with
 | lf => exact fun k hk => by cases hk
 | inn _ _ _ _ hk => exact hk
theorem Shp.kids_len {n : Nd} (h : Shp n) : n.kids.length <= 8 := by
 cases h with
 | lf => exact Nat.zero_le _
 | inn _ _ _ h8 _ => exact h8
theorem Shp.ps_len {n : Nd} (h : Shp n) : n.ps.length <= 3 := by
 cases h with
 | lf _ _ _ h3 _ => exact h3
 | inn => exact Nat.zero_le _
set_option maxHeartbeats 1600000 in
theorem zhY (key : ByteArray) (w : World) : Calls Tryz.prog 60 #[.pointer none, .string key] w fun e w' => e = .returned (.tuple #[.string ByteArray.empty, .bool false]) /\ w' = w := by
 go_enter Tryz.func60, Tryz.ntmps60;go_wp2;refine bodyPost_ret (v := .tuple #[.string ByteArray.empty, .bool false]) (by simp [results, Tryz.results60, go_sem]; rfl) rfl ?_;exact ⟨rfl, rfl⟩
set_option maxHeartbeats 2000000 in
theorem zhP (base : Nat) (t : AT) (key : ByteArray) (w : World) (h : Lies base w t) (hs : Shp t.nd) (ha : Asc t.nd.prs) :
  Calls Tryz.prog 60 #[t.ptr, .string key] w fun e w' => e = .returned (.tuple #[.string (getO (some t.nd) key).1, .bool (getO (some t.nd) key).2]) /\ Below w.heap.size w w' := by
 obtain ⟨R, hR⟩ : ∃ R, getO (some t.nd) key = R := ⟨_, rfl⟩;rw [hR];have HR := zhI hR;have HA := zhI ((ha.sub (Nd.leafAt_sub key hs.wf)));have HT := zhI (zaI h hs);obtain ⟨sz, hsz⟩ : ∃ n, SizeOf.sizeOf t = n := ⟨_, rfl⟩;have Hsz := zhI hsz;have hp : t.ptr = .pointer (some ⟨t.b, 0, none⟩) := rfl;rw [hp];obtain ⟨tb, htb⟩ : ∃ x, t.b = x := ⟨_, rfl⟩;rw [htb];have Htb := zhI htb;clear hR h hs ha hsz hp htb;go_enter Tryz.func60, Tryz.ntmps60;go_wp2
 go_loopg [0] sz (fun k p wr => ∃ s : AT, p = .pointer (some ⟨s.b, 0, none⟩) /\ Hid (Lies base wr s /\ Shp s.nd /\ s.nd.leafAt key = t.nd.leafAt key /\ SizeOf.sizeOf s = k) /\ Below w.heap.size w wr)
 case atStart => exact ⟨t, by rw [Htb.out], zhI ⟨HT.out.1, HT.out.2, rfl, Hsz.out⟩, Below.refl _ _⟩
 case round =>
  obtain ⟨s, rfl, H, hB⟩ := hrel;obtain ⟨hl, hsh, hla, hsk⟩ := H.out;have hz := hB.size;obtain ⟨b, pv, kv, ps, kids, page⟩ := s;have hx := hl.hx;have hp := hl.hp;have hk := hl.hk;have hc := hl.hc;simp only [AT.b, AT.pv, AT.kv, AT.ps, AT.kids, AT.page] at hx hp hk hc;simp only [AT.b]
  by_cases hk0 : kids = []
  .
   subst hk0;have hlf : ps = t.nd.leafAt key := by rw [<- hla, Nd.leafAt_leaf (by rw [AT.nd_kids]; rfl), AT.nd_ps]; rfl
   have hasc : Asc ps := by rw [hlf]; exact HA.out
   have h3 : ps.length <= 3 := by have := hsh.ps_len; rw [AT.nd_ps] at this; exact this
   have hfd := zhF base b true pv kv page ps key wr hx hp hasc (by omega);have hRe : getL ps key = R := by rw [<- HR.out, hlf]; rfl
   obtain ⟨F, hF⟩ : ∃ F, findI ps key = F := ⟨_, rfl⟩;have HRe : Hid (getL ps key = R) := zhI hRe;have HF := zhI hF;rw [hF] at hfd;have cX := hx.cell;have lX := hx.lt;unfold nodeC at cX;simp only [List.isEmpty_nil] at cX;cases hfb : findB ps key with
   | false => rw [hfb] at hfd;have Hfd := zhI hfd;have HE : Hid (R = (ByteArray.empty, false)) := zhI (by rw [<- hRe]; unfold getL; rw [hfb]; rfl);clear hfd hRe hF hfb hl hsh hla hsk hk hc H hp hlf hasc hx;go_wp2_with fail;refine Hfd.out.mono ?_;rintro e w2 ⟨rfl, hb2⟩;go_wp2;refine bodyPost_ret (v := .tuple #[.string ByteArray.empty, .bool false]) (by simp [results, Tryz.results60, go_sem]; rfl) rfl ?_;rw [HE.out];exact ⟨rfl, Below.then hB hb2 hz⟩
   | true =>
    rw [hfb] at hfd;have hFl : F < ps.length := by
     unfold findB at hfb;rw [hF] at hfb;have := of_decide_eq_true hfb;rcases Nat.lt_or_ge F ps.length with h | h
     . exact h
     . rw [List.getElem?_eq_none (by omega)] at this; cases this
    obtain ⟨g, c, rfl, -, c1, hle, hg⟩ := zb9 hp hFl;have hgl := (hp.lt g hg).2;have HE : Hid (R = (ps[F].2, true)) := zhI (by rw [<- hRe]; unfold getL; rw [hfb, if_pos rfl, hF, List.getElem?_eq_getElem hFl]; rfl);have Hfd := zhI hfd;obtain ⟨vl, hvl⟩ : ∃ x, ps[F].2 = x := ⟨_, rfl⟩;rw [hvl] at c1 HE;obtain ⟨n, hn⟩ : ∃ n, ps.length = n := ⟨_, rfl⟩;rw [hn] at cX hFl hle;have Hx := zhI hx;clear hfd hRe hF hfb hl hsh hla hsk hk hc H hp hlf hasc hvl hn hg h3 hx;go_wp2_with fail;refine Hfd.out.mono ?_;rintro e w2 ⟨rfl, hb2⟩;have x2 := Hx.out.belowAll hb2;have d1 : w2.cell? ⟨g, F * 2 + 1, none⟩ = some (.string vl) := by rw [hb2.cell hgl]; exact c1
    have gl2 : g < w2.heap.size := znL hgl hb2.size;clear c1 cX lX;have cX := x2.cell;have lX := x2.lt;unfold nodeC at cX;simp only [List.isEmpty_nil] at cX;go_wp2;refine bodyPost_ret (v := .tuple #[.string vl, .bool true]) (by simp [results, Tryz.results60, go_sem]) rfl ?_;rw [HE.out];exact ⟨rfl, Below.then hB hb2 hz⟩
  .
   have hkm : kids.map AT.nd ≠ [] := by simpa using hk0
   have hk1 : 0 < kids.length := List.length_pos_iff.2 hk0;have hCl := zaG key hkm;obtain ⟨C, hC⟩ : ∃ C, zav (kids.map AT.nd) key = C := ⟨_, rfl⟩;have hla2 := Nd.leafAt_kid (key := key) (n := (AT.mk b pv kv ps kids page).nd) (by rw [AT.nd_kids]; exact hkm);have hkl := hsh.kids_len;rw [AT.nd_kids] at hkl;have hkl2 : kids.length <= 8 := by rw [List.length_map] at hkl; exact hkl
   have hfst : ∀ c ∈ kids, c.nd.first = true := fun c hc' => (hsh.kid _ (by rw [AT.nd_kids]; exact List.mem_map.2 ⟨c, hc', rfl⟩)).first;have hch : ∀ W, Below wr.heap.size wr W -> Calls Tryz.prog 100 #[.pointer (some ⟨b, 0, none⟩), .string key] W fun e w' => e = .returned (.int .i64 C) /\ Below W.heap.size W w' := fun W hb => by have := zgo base (.mk b pv kv ps kids page) key W (hl.staysAll hb) hk0 hfst (by show kids.length <= 1000; omega);refine this.mono ?_;rintro e w' ⟨rfl, rfl⟩;exact ⟨by rw [<- hC]; rfl, Below.refl _ _⟩
   have hClk : C < kids.length := by rw [hC, List.length_map] at hCl; exact hCl
   obtain ⟨g, c, rfl, c0, hle, hg⟩ := zaY hk hClk;have hgl := (hk.lt g hg).2;have hrel : Hid (Lies base wr kids[C] /\ Shp kids[C].nd /\ kids[C].nd.leafAt key = t.nd.leafAt key /\ SizeOf.sizeOf kids[C] < gk) := zhI ⟨hc _ (List.getElem_mem hClk), hsh.kid _ (by rw [AT.nd_kids]; exact List.mem_map.2 ⟨_, List.getElem_mem hClk, rfl⟩), by rw [<- hla, hla2];congr 1;simp only [AT.nd_kids, AT.kids, hC, List.getElem_map], by rw [<- hsk]; exact AT.kid_lt (List.getElem_mem hClk)⟩
   have hem : kids.isEmpty = false := by cases kids <;> simp_all
   have Hch := zhI hch;obtain ⟨kc, hkc⟩ : ∃ x, kids[C] = x := ⟨_, rfl⟩;rw [hkc] at hrel c0;unfold AT.ptr at c0;obtain ⟨n, hn⟩ : ∃ n, kids.length = n := ⟨_, rfl⟩;have cX := hx.cell;have lX := hx.lt;unfold nodeC at cX;rw [hem, hn] at cX;rw [hn] at hClk hle;have HBw : Hid (∀ x : Lat wr, Below wr.heap.size wr x.w) := zhI (fun x => x.h);have cQ := Lat.cells wr;have HB := zhI hB;clear hl hsh hla hsk hx hp hk hc H hk0 hkm hk1 hCl hC hla2 hkl hkl2 hfst hch hg hem hkc hn hB;go_upto_region 4 with fail
   refine zay (by kernel_rfl) (by kernel_rfl) ?_
   repeat (any_goals (first | go_big_quiet_skip | (go_big_quiet_want; go_big_quiet_op; first | go_big_quiet_on | go_big_quiet_call (((go_at_call 100; with_reducible exact Calls.lat (Hch.out _ (HBw.out _)))))) | quiet_step (((go_at_call 100; with_reducible exact Calls.lat (Hch.out _ (HBw.out _)))))))
   refine wpQuiet_nil ?_;rintro W2 ⟨⟨_, hb2⟩, rfl⟩;clear cQ cX lX c0;go_wp2
   go_roundg (SizeOf.sizeOf kc)
   case rel => exact ⟨kc, rfl, zhI ⟨hrel.out.1.staysAll hb2, hrel.out.2.1, hrel.out.2.2.1, rfl⟩, Below.then HB.out hb2 hz⟩
   case measure => exact hrel.out.2.2.2
theorem zms (base : Nat) (o : Option AT) (key : ByteArray) (w : World) (h : LiesO base w o) (hs : ∀ t, o = some t -> Shp t.nd /\ Asc t.nd.prs) :
  Calls Tryz.prog 60 #[rootV o, .string key] w fun e w' => e = .returned (.tuple #[.string (getO (ndO o) key).1, .bool (getO (ndO o) key).2]) /\ Below w.heap.size w w' := by
 cases o with
 | none => refine (zhY key w).mono ?_;rintro e w' ⟨rfl, rfl⟩;exact ⟨rfl, Below.refl _ _⟩
 | some t => exact zhP base t key w (h t rfl).1 (hs t rfl).1 (hs t rfl).2
theorem zmb {d : Dsk} {frm til : Int} {r : Nat} {t : Option Nd} {u : List Int} (hc : chk d = 0) (hf : fits5 d frm til = true) (h : treeP d frm til r = some (t, u)) :
  zaV frm til u /\ ∀ n, t = some n -> Shp n /\ Asc n.prs /\ n.prs.length <= 6000 := by
 obtain ⟨f1, f2, f3, f4, f5⟩ := zax hf;have hr := zag (zaq hc).1;unfold treeP at h;split at h
 . simp only [Option.some.injEq, Prod.mk.injEq] at h;obtain ⟨rfl, rfl⟩ := h;exact ⟨⟨List.nodup_nil, fun _ h => by cases h⟩, fun n h => by cases h⟩
 .
  split at h
  . cases h
  .
   rename_i n k u' hl
   split at h
   .
    rename_i ha
    simp only [Option.some.injEq, Prod.mk.injEq] at h;obtain ⟨rfl, rfl⟩ := h;have hu := (zcH _ hl ⟨List.nodup_nil, fun _ h => by cases h⟩).1;refine ⟨hu, fun m hm => ?_⟩;cases hm;refine ⟨zeW _ hl, (zc5 _).1 ha, ?_⟩;have h1 := zej _ hl;have h2 := hu.len (by omega);simp at h1;omega
   . cases h
theorem zez {d : Dsk} {frm til : Int} (h : fitX d frm til = 0) : chk d = 0 /\ fits5 d frm til = true := by
 unfold fitX at h;split at h
 . cases h
 .
  split at h
  . cases h
  .
   rename_i h1 h2
   exact ⟨by simpa using h1, by simpa using h2⟩
theorem zg8 {x : Ix} {t : Option Nd} (h : zat x = some t) : ∀ n, t = some n -> Shp n /\ Asc n.prs /\ n.prs.length <= 6000 := by
 unfold zat at h;split at h
 . cases h
 .
  rename_i hf
  obtain ⟨hc, hf5⟩ := zez (by simpa using hf);split at h
  . cases h
  .
   rename_i y t' hr
   split at h
   .
    cases h;unfold readP at hr;split at hr
    . cases hr
    .
     split at hr
     . cases hr
     .
      rename_i t'' u ht
      cases hr;exact (zmb hc hf5 ht).2
   . cases h
def getPP (x : Ix) (key : ByteArray) : ByteArray × Int :=
 match zat x with
 | none => (ByteArray.empty, 1)
 | some t => if (getO t key).2 then ((getO t key).1, 0) else (ByteArray.empty, 7)
set_option maxHeartbeats 1600000 in
theorem znl (x : Ix) (v : Value) (key : ByteArray) (w : World) (hx : IxV w v x) :
  Calls Tryz.prog 20 #[v, .string key] w fun e w' => e = .returned (.tuple #[.string (getPP x key).1, .int .i64 (getPP x key).2]) /\ Below w.heap.size w w' := by
 have hx0 := hx;obtain ⟨po, pc, co, cc, fo, fc, rfl, -, -, -⟩ := hx;have hB0 := Below.one w (.cells (ixC x.disk po co pc cc x.frm x.til x.ver x.root fo x.free.length fc) 33);have htr := zfN x _ _ (hx0.below hB0);have Htr := zhI htr;obtain ⟨R, hR⟩ : ∃ R, getPP x key = R := ⟨_, rfl⟩;rw [hR];have HR := zhI hR;clear htr hx0 hR;go_enter Tryz.func20, Tryz.ntmps20;go_wp2_with fail;refine Htr.out.mono ?_;rintro e w1 ⟨hb1, hres⟩;have hB1 := btr hB0 hb1;cases hv : zat x with
 | none => rw [hv] at hres;obtain ⟨u, rfl⟩ := hres;have HE : Hid (R = (ByteArray.empty, 1)) := zhI (by rw [<- HR.out]; unfold getPP; rw [hv]);clear hv;go_wp2;refine bodyPost_ret (v := .tuple #[.string ByteArray.empty, .int .i64 1]) (by simp [results, Tryz.results20, go_sem]; rfl) rfl ?_;rw [HE.out];exact ⟨rfl, hB1⟩
 | some t =>
  rw [hv] at hres;obtain ⟨a, rfl, hLO, hnd⟩ := hres;have hok := zg8 hv;have hg := zms _ a key w1 hLO (fun t' ht' => by have := hok t'.nd (by rw [<- hnd, ht']; rfl);exact ⟨this.1, this.2.1⟩)
  rw [hnd] at hg;obtain ⟨gv, gb, hgg⟩ : ∃ gv gb, getO t key = (gv, gb) := ⟨_, _, rfl⟩;rw [hgg] at hg;obtain ⟨p, hp⟩ : ∃ p, rootV a = .pointer p := by cases a with
   | none => exact ⟨none, rfl⟩
   | some t => exact ⟨_, rfl⟩
  rw [hp] at hg |-;have Hg := zhI hg;have HRg : Hid (R = if gb then (gv, 0) else (ByteArray.empty, 7)) := zhI (by rw [<- HR.out]; unfold getPP; rw [hv]; simp only [hgg]);clear hv hg hgg hok hLO hnd hp;cases gb with
  | false => have HE : Hid (R = (ByteArray.empty, 7)) := zhI (by rw [HRg.out]; rfl);go_wp2_with fail;refine Hg.out.mono ?_;rintro e w2 ⟨rfl, hb2⟩;go_wp2;refine bodyPost_ret (v := .tuple #[.string ByteArray.empty, .int .i64 7]) (by simp [results, Tryz.results20, go_sem]; rfl) rfl ?_;rw [HE.out];exact ⟨rfl, btr hB1 hb2⟩
  | true => have HE : Hid (R = (gv, 0)) := zhI (by rw [HRg.out]; rfl);go_wp2_with fail;refine Hg.out.mono ?_;rintro e w2 ⟨rfl, hb2⟩;go_wp2;refine bodyPost_ret (v := .tuple #[.string gv, .int .i64 0]) (by simp [results, Tryz.results20, go_sem]) rfl ?_;rw [HE.out];exact ⟨rfl, btr hB1 hb2⟩
theorem zaF (w : World) (g : Nat) (cs : Array Value) : w.grownBy (w.setRow g cs) (some g) :=
 ⟨rfl, rfl, rfl, by simp, fun k _ hk => setRow_other w g k _ (fun e => hk (by rw [e]))⟩
theorem setRow_size (w : World) (g : Nat) (cs : Array Value) : (w.setRow g cs).heap.size = w.heap.size := by simp
theorem RowO.mk' {w : World} {base g n cap k : Nat} {e : TypeId} {cur : Array Value} {xs : List Value} (hl : xs.length = n * k) (hb : base <= g) (hh : w.heap[g]? = some (.cells cur e (0, 0))) (hn : n <= cap) (hc : cap <= maxLen) (hs : cap * k <= cur.size) (ht : cur.toList.take (n * k) = xs) :
  RowO w base e k (.slice (some ⟨g, 0, none⟩) n cap) n xs := ⟨hl, .inr ⟨g, cap, cur, rfl, hb, hh, hn, hc, hs, ht⟩⟩
section
variable {P : Program}
theorem zd5 (w : World) (base : Nat) (t ty e : TypeId) (i : TypeInfo) (z : Value) (k bytes : Nat) (ht : P.underlying t = some (.slice e)) (hi : P.info? e = some i) (hz : i.zero = some z)
  (hsize : i.size = k) (hby : i.bytes = bytes) (hzs : z.cells.size = k) (hsz : 0 < k) (v : Value) (n : Nat) (xs : List Value) (h : RowO w base e k v n xs) (a : Addr) (m c : Nat) (news : List Value)
  (hl : news.length = m * k) (hnews : ∀ j u, news[j]? = some u -> w.cell? (a.add j) = some u) (h1 : ∀ u ∈ news, u.oneCell' = true) (hnm : n + m <= 1000000) (hbb : bytes <= 64) (hbase : base <= w.heap.size) :
  ∃ v' w', (Builtin.append_ #[t, t] ty #[v, .slice (some a) m c]).run P w = .ok v' w' /\ RowO w' base e k v' (n + m) (xs ++ news) /\ w.grownBy w' v.ownBlock /\ (v'.ownBlock = v.ownBlock \/ v'.ownBlock = some w.heap.size) := by
 have hb2 : (n + m) * bytes <= 64000000 := znT (Nat.mul_le_mul hnm hbb) (by decide);rcases h.2 with ⟨rfl, rfl⟩ | ⟨g, cap, cur, rfl, hb, hg, hn, hc, hs, htk⟩
 . have hx : xs = [] := List.eq_nil_of_length_eq_zero (by simpa using h.1);subst hx;obtain ⟨v', w', hr, h2, h3, -, h5⟩ := run_append_own_at (P := P) w base t ty e i z k bytes ht hi hz hsize hby hzs hsz (.slice none 0 0) 0 [] (World.ownsRow_nil _ _ _ _) a m c news hl hnews h1 (by unfold maxLen; omega) (by omega) hbase;exact ⟨v', w', hr, RowO.own h2, h3, h5⟩
 .
  have hlen : (xs ++ news).length = (n + m) * k := by rw [zlA, h.1, hl, Nat.add_mul]
  have hxl : (cur.toList.take (n * k)).length = n * k := by rw [htk]; exact h.1
  by_cases hroom : n + m <= cap
  .
   have hfit : n * i.size + news.length <= cur.size := by rw [hsize, hl, <- Nat.add_mul];exact znT (Nat.mul_le_mul_right _ hroom) hs
   have hr := run_append_room (P := P) w t ty e i ht hi g n cap cur hg a m c news (by rw [hsize]; exact hl) hnews h1 hroom hfit;rw [hsize] at hr hfit;refine ⟨_, _, hr, RowO.mk' hlen hb (setRow_heap w g cur _ e _ hg) hroom hc ?_ ?_, zaF w g _, .inl rfl⟩
   . simp only [List.size_toArray, zlA, List.length_drop, hxl, Array.length_toList];omega
   . rw [List.toList_toArray, <- htk, List.take_append_of_le_length (by rw [zlA, hxl, hl, Nat.add_mul]; exact Nat.le_refl _)];exact List.take_of_length_le (by rw [zlA, hxl, hl, Nat.add_mul]; exact Nat.le_refl _)
  .
   have hcl : ∀ j u, xs[j]? = some u -> w.cell? ((⟨g, 0, none⟩ : Addr).add j) = some u := fun j u hj => by rw [Addr.add_lit, Nat.zero_add];have hjl := (List.getElem?_eq_some_iff.1 hj).1;have := zb7 htk hjl;simp [World.cell?, hg];rw [<- Array.getElem?_toList, this];rw [<- hj, List.getElem?_eq_getElem hjl]
   have hr := run_append_grow (P := P) w t ty e i z ht hi hz ⟨g, 0, none⟩ n cap xs (by rw [hsize]; exact h.1) hcl a m c news (by rw [hsize]; exact hl) hnews (by omega) (by omega) (by rw [hby]; exact growslice_fits (by omega) (by omega));have hge := grownCap_ge w (n + m) cap e;refine ⟨_, _, hr, RowO.mk' hlen hbase (heap_alloc_new w.drew _) hge (grownCap_le_maxLen w (n + m) cap e (by unfold maxLen; omega)) ?_ ?_, ⟨rfl, rfl, rfl, by simp, fun j hj _ => Below.heap_alloc w.drew _ j hj⟩, .inr rfl⟩
   . simp only [Array.size_append, List.size_toArray, size_zeroCells, hzs, h.1, hl, <- Nat.add_mul];refine Nat.mul_le_mul_right _ ?_;omega
   . simp only [Array.toList_append];rw [<- hlen, List.take_left' (by simp [List.length_append])]
theorem za6 (w : World) (dT sT ty e : TypeId) (i : TypeInfo) (k : Nat) (hu : P.underlying dT = some (.slice e)) (hi : P.info? e = some i) (hsize : i.size = k) (g o : Nat) (cur : Array Value) (hg : w.heap[g]? = some (.cells cur e (0, 0))) (dLen dCap : Nat) (a : Addr) (sLen sCap : Nat) (cs : List Value)
  (hn : cs.length = Nat.min sLen dLen * k) (hsrc : ∀ j u, cs[j]? = some u -> w.cell? (a.add j) = some u) (h1 : ∀ u ∈ cs, u.oneCell' = true) (hfit : o + cs.length <= cur.size) :
  (Builtin.copy_ #[dT, sT] ty #[.slice (some ⟨g, o, none⟩) dLen dCap, .slice (some a) sLen sCap]).run P w = .ok (goInt (Nat.min sLen dLen)) (w.setRow g (cur.toList.take o ++ cs ++ cur.toList.drop (o + cs.length)).toArray) := by
 have hf := run_firstCells_some (P := P) w i.size (Nat.min sLen dLen) a sLen sCap cs (by rw [hsize]; exact hn) hsrc;have hst := run_storeCells_at P g o e cs 0 cur w hg (by simpa using hfit) h1;simp only [Nat.add_zero] at hst;simp only [Builtin.copy_, List.getElem?_toArray, List.getElem?_cons_zero, List.getElem?_cons_succ, Sem.run_bind, Sem.run_pure, Result.andThen_ok, run_underlying hu, Builtin.lenOf, sizeOf, typeInfo];simp [hi, hf, hst]
theorem zet (w : World) (t e ty : TypeId) (z : Value) (k : Nat) (ht : P.underlying t = some (.slice e)) (hv : ∀ w, (zeroValue e).run P w = .ok z w) (hz : z.cells.size = k) (h1 : ∀ u ∈ z.cells.toList, u.oneCell' = true) (g o n c : Nat) (hn : 0 < n) (cur : Array Value) (hg : w.heap[g]? = some (.cells cur e (0, 0))) (hfit : o + n * k <= cur.size) :
  ∃ zs : List Value, zs.length = n * k /\ (Builtin.clear_ #[t] ty #[.slice (some ⟨g, o, none⟩) n c]).run P w = .ok (.tuple #[]) (w.setRow g (cur.toList.take o ++ zs ++ cur.toList.drop (o + n * k)).toArray) := by
 obtain ⟨m, rfl⟩ : ∃ m, n = m + 1 := ⟨n - 1, by omega⟩;have hzl : (Builtin.zeroCells z.cells (m + 1)).toList.length = (m + 1) * k := by rw [Array.length_toList, size_zeroCells, hz]
 have hz1 : ∀ u ∈ (Builtin.zeroCells z.cells (m + 1)).toList, u.oneCell' = true := by
  intro u hu;simp only [Builtin.zeroCells, Array.toList_map, List.mem_map, Array.toList_range, List.mem_range] at hu;obtain ⟨j, hjl, rfl⟩ := hu
  by_cases hk0 : z.cells.size = 0
  . rw [hk0] at hjl; omega
  . have hlt : j % z.cells.size < z.cells.size := Nat.mod_lt _ (by omega);rw [getElem!_pos z.cells _ hlt];exact h1 _ (Array.getElem_mem_toList hlt)
 refine ⟨_, hzl, ?_⟩;have hst := run_storeCells_at P g o e (Builtin.zeroCells z.cells (m + 1)).toList 0 cur w hg (by rw [hzl]; simpa using hfit) hz1;simp only [Nat.add_zero, hzl] at hst;simp [Builtin.clear_, run_underlying ht, hv, hst]
end
section
variable {P : Program} {ops : Array Oper} {rest : List Oper} {o : Oper} {a : Act} {K : Act -> World -> Prop} {Q : Exit -> Act -> World -> Prop} {w : World}
theorem wp_copy_run (d s : Operand) (t t' : TypeId) (ho : o.op = .call { callee := .builtin .copy, args := #[d, s], argTypes := #[t, t'] }) (v u : Value) (hd : a.eval d = v) (hs : a.eval s = u) {v' : Value} {w' : World}
  (hr : (Builtin.copy_ #[t, t'] o.type #[v, u]).run P w = .ok v' w') (h : K (a.put o.dst v') w') : o.wp P a w K Q := by
 unfold Oper.wp execOp;simp only [ho, resolve, invoke, builtin, Sem.run_bind, Sem.run_pure, Result.andThen_ok, List.map_toArray, List.map_cons, List.map_nil, hd, hs, hr];exact h
theorem wp_append_run (d s : Operand) (t t' : TypeId) (ho : o.op = .call { callee := .builtin .append, args := #[d, s], argTypes := #[t, t'] }) (v u : Value) (hd : a.eval d = v) (hs : a.eval s = u) {v' : Value} {w' : World}
  (hr : (Builtin.append_ #[t, t'] o.type #[v, u]).run P w = .ok v' w') (h : K (a.put o.dst v') w') : o.wp P a w K Q := by
 unfold Oper.wp execOp;simp only [ho, resolve, invoke, builtin, Sem.run_bind, Sem.run_pure, Result.andThen_ok, List.map_toArray, List.map_cons, List.map_nil, hd, hs, hr];exact h
theorem zaA (hgd : o.guard = none) (d s : Operand) (t t' : TypeId) (ho : o.op = .call { callee := .builtin .append, args := #[d, s], argTypes := #[t, t'] }) (v u : Value) (hd : a.eval d = v) (hs : a.eval s = u) {v' : Value} {w' : World}
  (hr : (Builtin.append_ #[t, t'] o.type #[v, u]).run P w = .ok v' w') (h : wpList P ops Q rest (a.put o.dst v') w') : wpList P ops Q (o :: rest) a w :=
 wpList_plain hgd fun _ hK => wp_append_run d s t t' ho v u hd hs hr (hK _ _ h)
end
theorem zcF {w : World} {g k n : Nat} {e : TypeId} {cur : Array Value} {xs : List Value} (hg : w.heap[g]? = some (.cells cur e (0, 0))) (ht : cur.toList.take (n * k) = xs) (o : Nat) :
  ∀ j u, (xs.drop o)[j]? = some u -> w.cell? ((⟨g, o, none⟩ : Addr).add j) = some u := by
 intro j u hj;rw [List.getElem?_drop] at hj;have hjl := (List.getElem?_eq_some_iff.1 hj).1;have := zb7 ht hjl;rw [Addr.add_lit];simp [World.cell?, hg];rw [<- Array.getElem?_toList, this];rw [<- hj, List.getElem?_eq_getElem hjl]
theorem zdh {w : World} {g : Nat} {e : TypeId} {ys : List Value} (h : Bx w g ys.toArray e) : ∀ j u, ys[j]? = some u -> w.cell? ((⟨g, 0, none⟩ : Addr).add j) = some u := by
 intro j u hj;rw [Addr.add_lit, Nat.zero_add, h.cell];simpa using hj
theorem zfs {α : Type} {C xs ys : List α} {a m k : Nat} (hC : C.take m = xs) (hm : m + k <= C.length) (ha : a <= m) (hy : ys.length = k) (hx : xs.length = m) :
  (((C.take (a + k) ++ xs.drop a ++ C.drop (a + k + (xs.drop a).length)).take a ++ ys ++ (C.take (a + k) ++ xs.drop a ++ C.drop (a + k + (xs.drop a).length)).drop (a + ys.length)).take (m + k) = xs.take a ++ ys ++ xs.drop a) /\
  ((C.take (a + k) ++ xs.drop a ++ C.drop (a + k + (xs.drop a).length)).take a ++ ys ++ (C.take (a + k) ++ xs.drop a ++ C.drop (a + k + (xs.drop a).length)).drop (a + ys.length)).length = C.length /\ (C.take (a + k) ++ xs.drop a ++ C.drop (a + k + (xs.drop a).length)).length = C.length := by
 have hdl : (xs.drop a).length = m - a := by rw [List.length_drop, hx]
 have htl : (C.take (a + k)).length = a + k := by rw [List.length_take]; omega
 obtain ⟨R, hR⟩ : ∃ R, C.drop (a + k + (xs.drop a).length) = R := ⟨_, rfl⟩;have hRl : R.length = C.length - (a + k + (m - a)) := by rw [<- hR, List.length_drop, hdl]
 rw [hR];have h1 : (C.take (a + k) ++ xs.drop a ++ R).take a = xs.take a := by rw [List.append_assoc, List.take_append_of_le_length (by omega), List.take_take, <- hC, List.take_take, Nat.min_eq_left (by omega), Nat.min_eq_left ha]
 have h2 : (C.take (a + k) ++ xs.drop a ++ R).drop (a + ys.length) = xs.drop a ++ R := by rw [List.append_assoc, hy];exact List.drop_left' htl
 have h3 : (xs.take a).length = a := by rw [List.length_take]; omega
 rw [h1, h2];refine ⟨?_, ?_, ?_⟩
 . rw [<- List.append_assoc];refine List.take_left' ?_;rw [zlA, zlA, h3, hy, hdl];omega
 . rw [zlA, zlA, zlA, h3, hy, hdl, hRl];omega
 . rw [zlA, zlA, htl, hdl, hRl];omega
theorem zfC {α : Type} {xs Z ys : List α} {a m k : Nat} (hZ : m + k - a <= Z.length) (ha : a <= m) (hy : ys.length = k) (hx : xs.length = m) :
  ((((xs.take a ++ Z).take a ++ ys ++ (xs.take a ++ Z).drop (a + ys.length)).take (a + k) ++ xs.drop a ++ ((xs.take a ++ Z).take a ++ ys ++ (xs.take a ++ Z).drop (a + ys.length)).drop (a + k + (xs.drop a).length)).take (m + k) = xs.take a ++ ys ++ xs.drop a) /\
  (((xs.take a ++ Z).take a ++ ys ++ (xs.take a ++ Z).drop (a + ys.length)).take (a + k) ++ xs.drop a ++ ((xs.take a ++ Z).take a ++ ys ++ (xs.take a ++ Z).drop (a + ys.length)).drop (a + k + (xs.drop a).length)).length = a + Z.length /\
  ((xs.take a ++ Z).take a ++ ys ++ (xs.take a ++ Z).drop (a + ys.length)).length = a + Z.length := by
 have hdl : (xs.drop a).length = m - a := by rw [List.length_drop, hx]
 have h3 : (xs.take a).length = a := by rw [List.length_take]; omega
 have h1 : (xs.take a ++ Z).take a = xs.take a := List.take_left' h3;rw [h1];obtain ⟨R, hR⟩ : ∃ R, (xs.take a ++ Z).drop (a + ys.length) = R := ⟨_, rfl⟩;have hRl : R.length = Z.length - k := by rw [<- hR, List.length_drop, zlA, h3, hy]; omega
 rw [hR];have h4 : (xs.take a ++ ys).length = a + k := by rw [zlA, h3, hy]
 have h5 : (xs.take a ++ ys ++ R).take (a + k) = xs.take a ++ ys := List.take_left' h4;rw [h5];obtain ⟨R2, hR2⟩ : ∃ R2, (xs.take a ++ ys ++ R).drop (a + k + (xs.drop a).length) = R2 := ⟨_, rfl⟩;have hR2l : R2.length = R.length - (m - a) := by rw [<- hR2, List.length_drop, zlA, h4, hdl]; omega
 rw [hR2];refine ⟨?_, ?_, ?_⟩
 . refine List.take_left' ?_;rw [zlA, h4, hdl];omega
 . rw [zlA, zlA, h4, hdl, hR2l, hRl];omega
 . rw [zlA, h4, hRl];omega
end Go.Proofs.YtlefmmhlpgmbjaaGreat
namespace Go.Proofs.YtlefmmhlpgmbjaaGreat
set_option maxRecDepth 100000
open Go.RowKit Go.Shelf
set_option maxRecDepth 100000 in
set_option maxHeartbeats 2000000 in
theorem zk0 (base : Nat) (v : Value) (n : Nat) (xs : List Value) (w : World) (h : RowO w base 77 2 v n xs) (i : Nat) (hi : i <= n) (tb : Nat) (ys : List Value) (hy : ys.length = 2) (hx : Bx w tb ys.toArray 77) (hne : v.ownBlock ≠ some tb)
  (h1x : ∀ u ∈ xs, u.oneCell' = true) (h1y : ∀ u ∈ ys, u.oneCell' = true) (hn : n <= 1000) (hbase : base <= w.heap.size) :
  Calls Tryz.prog 161 #[v, .int .i64 i, .slice (some ⟨tb, 0, none⟩) 1 1] w fun e w' => ∃ v', e = .returned v' /\ RowO w' base 77 2 v' (n + 1) (xs.take (i * 2) ++ ys ++ xs.drop (i * 2)) /\ w.grownBy w' v.ownBlock /\ (v'.ownBlock = v.ownBlock \/ v'.ownBlock = some w.heap.size) := by
 obtain ⟨i0, hi0, hz0, hz1, hz2⟩ := info_parts zbo
 by_cases hin : i = n
 .
  subst hin;obtain ⟨o, c, rfl, hsl, -⟩ := h.at;have hcap : i <= c := by rcases hsl with ⟨_, h, _⟩ | ⟨_, _, h, _⟩ <;> omega
  have hxl := h.1;obtain ⟨v', w', hr, h2, h3, h4⟩ := zd5 (P := Tryz.prog) w base 41 41 77 i0 _ 2 32 Tryz.underlying41 hi0 hz0 hz1 hz2 rfl (by decide) _ i xs h ⟨tb, 0, none⟩ 1 1 ys (by rw [hy]) (zdh hx) h1y (by omega) (by decide) hbase;have Hr := zhI hr;have Hres := zhI (zaI h2 (zaI h3 h4));clear hr h2 h3 h4 h
  by_cases hci : c = i
  . subst hci;go_enter Tryz.func161, Tryz.ntmps161;go_wp2_with (at_builtin; refine zaA rfl _ _ 41 41 rfl _ _ rfl rfl Hr.out ?_);go_ret;rw [List.take_of_length_le (by omega), List.drop_of_length_le (by omega), List.append_nil];exact ⟨v', rfl, Hres.out.1, Hres.out.2.1, Hres.out.2.2⟩
  . have hcap2 : i <= c := hcap;go_enter Tryz.func161, Tryz.ntmps161;go_wp2_with (at_builtin; refine zaA rfl _ _ 41 41 rfl _ _ rfl rfl Hr.out ?_);go_ret;rw [List.take_of_length_le (by omega), List.drop_of_length_le (by omega), List.append_nil];exact ⟨v', rfl, Hres.out.1, Hres.out.2.1, Hres.out.2.2⟩
 .
  have hin' : i < n := by omega
  rcases h.2 with ⟨rfl, h0⟩ | ⟨g, cap, cur, rfl, hb, hg, hnc, hcm, hs, htk⟩
  . omega
  have hxl := h.1;have hmx : cap <= 9223372036854775807 := by unfold maxLen at hcm; omega
  have hi1 : ((i : Int) + 1) = ((i + 1 : Nat) : Int) := by omega
  have hdl : (xs.drop (i * 2)).length = (n - i) * 2 := by rw [List.length_drop, hxl]; omega
  have hds := fun j u hj => zcF hg htk (i * 2) j u hj
  by_cases hroom : n + 1 <= cap
  .
   have z2 : ¬ ((i : Int) = (n : Int)) := by omega
   have z3 : ((i : Int) == (n : Int)) = false := by simp; omega
   have hw1 : IntKind.i64.wrap ((i : Int) + 1) = (i : Int) + 1 := IntWalk.i64_in _ (by omega);have b1 : (0 : Int) <= (i : Int) + 1 := by omega
   have b0 : i <= n := by omega
   have tn : ((i : Int) + 1).toNat = i + 1 := by omega
   have b2 : ¬ (cap = i + 1) := by omega
   have b3 : (i : Int) <= (n : Int) + 1 := by omega
   have b4 : ¬ (cap = i) := by omega
   have b5 : ¬ ((cap : Int) < (n : Int) + 1) := by omega
   have b6 : (n : Int) + 1 <= (cap : Int) := by omega
   have hsa : w.shape? tb = some (77, ys.toArray.size) := by unfold Bx at hx; simp [World.shape?, hx]
   have hsb : w.shape? g = some (77, cur.size) := by simp [World.shape?, hg]
   have hgt : tb ≠ g := fun e => hne (by rw [e]; rfl);have hov : ∀ lb cb, (callFunc 188 #[.slice (some ⟨tb, 0, none⟩) 1 1, .slice (some ⟨g, (i + 1) * 2, none⟩) lb cb]).run Tryz.prog w = .ok (.value (.bool false)) w := fun lb cb => by
    rw [run_callFunc_extern Tryz.func188 (by kernel_rfl) (by kernel_rfl) (by kernel_rfl) (e := Extern.SlicesOverlaps.overlaps #[41, 41] #[4]) (by kernel_rfl),
     Lib.run_overlaps_apart w 41 4 77 Tryz.underlying41 2 Tryz.sizeOf77 ⟨tb, 0, none⟩ ⟨g, (i + 1) * 2, none⟩ 1 1 lb cb hgt _ _ _ _ hsa hsb (by omega) (hx.free 0) (hx.free _)]
    rfl
   have Hds := zhI hds;have Hi0 := zhI (zaI hi0 (zaI hz0 (zaI hz1 hz2)));have HX := zhI (zaI h hx);clear hds hi0 hz0 hz1 hz2 hi1 hsa hsb hx h hi hin;go_enter Tryz.func161, Tryz.ntmps161;go_wp2_with (simp only [hov]);have hshift := zfs (C := cur.toList) (xs := xs) (ys := ys) (a := i * 2) (m := n * 2) (k := 2) htk (by rw [Array.length_toList]; omega) (by omega) hy hxl;have e2 : (i + 1) * 2 = i * 2 + 2 := by omega
   have hc1 := za6 (P := Tryz.prog) w.drew 41 41 3 77 i0 2 Tryz.underlying41 Hi0.out.1 Hi0.out.2.2.1 g ((i + 1) * 2) cur hg (n + 1 - (i + 1)) (cap - (i + 1)) ⟨g, i * 2, none⟩ (n + 1 - i) (cap - i) (xs.drop (i * 2))
    (by rw [hdl, show Nat.min (n + 1 - i) (n + 1 - (i + 1)) = n - i from (Nat.min_eq_right (by omega)).trans (by omega)]) Hds.out (fun u hu => h1x u (List.mem_of_mem_drop hu)) (by rw [hdl]; omega)
   rw [<- e2] at hshift;obtain ⟨D, hD⟩ : ∃ D, cur.toList.take ((i + 1) * 2) ++ xs.drop (i * 2) ++ cur.toList.drop ((i + 1) * 2 + (xs.drop (i * 2)).length) = D := ⟨_, rfl⟩;rw [hD] at hc1 hshift;have hg1 : (w.drew.setRow g D.toArray).heap[g]? = some (.cells D.toArray 77 (0, 0)) := setRow_heap w.drew g cur _ _ _ hg;have hx1 : Bx (w.drew.setRow g D.toArray) tb ys.toArray 77 := (setRow_other w.drew g tb _ hgt).trans HX.out.2;have hc2 := za6 (P := Tryz.prog) (w.drew.setRow g D.toArray) 41 41 3 77 i0 2 Tryz.underlying41 Hi0.out.1 Hi0.out.2.2.1 g (i * 2) D.toArray hg1 (n + 1 - i) (cap - i) ⟨tb, 0, none⟩ 1 1 ys
    (by rw [hy, show Nat.min 1 (n + 1 - i) = 1 from Nat.min_eq_left (by omega)]) (zdh hx1) h1y (by rw [hy, List.size_toArray, hshift.2.2, Array.length_toList]; omega)
   rw [List.toList_toArray] at hc2;obtain ⟨E, hE⟩ : ∃ E, D.take (i * 2) ++ ys ++ D.drop (i * 2 + ys.length) = E := ⟨_, rfl⟩;rw [hE] at hc2 hshift;have hg2 : ((w.drew.setRow g D.toArray).setRow g E.toArray).heap[g]? = some (.cells E.toArray 77 (0, 0)) := setRow_heap _ g _ _ _ _ hg1;have HF : Hid (RowO ((w.drew.setRow g D.toArray).setRow g E.toArray) base 77 2 (.slice (some ⟨g, 0, none⟩) (n + 1) cap) (n + 1) (xs.take (i * 2) ++ ys ++ xs.drop (i * 2)) /\ w.grownBy ((w.drew.setRow g D.toArray).setRow g E.toArray) (some g)) := zhI ⟨RowO.mk' (by rw [zlA, zlA, List.length_take, hy, hdl, hxl]; omega) hb hg2 hroom hcm (by rw [List.size_toArray, hshift.2.1, Array.length_toList]; exact hs) (by rw [List.toList_toArray, show (n + 1) * 2 = n * 2 + 2 by omega]; exact hshift.1),
    ((⟨rfl, rfl, rfl, Nat.le_refl _, fun _ _ _ => rfl⟩ : w.grownBy w.drew (some g)).trans (zaF _ g _)).trans (zaF _ g _)⟩
   have Hc1 := zhI hc1;have Hc2 := zhI hc2;clear hshift hD hE hg1 hx1 hg2 hc1 hc2;refine zah #[false, false, false, false, false, false, false, false, false] 9 (by kernel_rfl) (by rfl) rfl ?_;refine wpAny_take (i := 0) (v := (.slice (some ⟨g, 0, none⟩) (n + 1) cap)) rfl (by kernel_rfl) (by kernel_rfl) (by kernel_rfl) (fun _ _ _ h => h) (Or.inl ⟨by rfl, fun w => by first | rfl | (go_simp; try with_reducible rfl)⟩) ?_;simp only [List.getElem_toArray, List.getElem_cons_zero, Act.put, zsP];refine wpAny_take (i := 1) (v := (.int .i64 i)) rfl (by kernel_rfl) (by kernel_rfl) (by kernel_rfl) (fun _ _ _ h => h) (Or.inl ⟨by rfl, fun w => by first | rfl | (go_simp; try with_reducible rfl)⟩) ?_;simp only [zgP, Act.put, zsP];refine wpAny_take (i := 2) (v := (.int .i64 1)) rfl (by kernel_rfl) (by kernel_rfl) (by kernel_rfl) (fun _ _ _ h => h) (Or.inl ⟨by rfl, fun w => by first | rfl | (go_simp; try with_reducible rfl)⟩) ?_;simp only [zgP, Act.put, zsP];refine wpAny_take (i := 3) (v := (.int .i64 ((i : Int) + 1))) rfl (by kernel_rfl) (by kernel_rfl) (by kernel_rfl) (fun _ _ _ h => h) (Or.inl ⟨by rfl, fun w => by first | rfl | (go_simp; try with_reducible rfl)⟩) ?_;simp only [zgP, Act.put, zsP];refine wpAny_take (i := 4) (v := (.slice (some ⟨g, (i + 1) * 2, none⟩) (n + 1 - (i + 1)) (cap - (i + 1)))) rfl (by kernel_rfl) (by kernel_rfl) (by kernel_rfl) (fun _ _ _ h => h) (Or.inl ⟨by rfl, fun w => by first | rfl | (go_simp; try with_reducible rfl)⟩) ?_;simp only [zgP, Act.put, zsP];refine wpAny_take (i := 5) (v := (.slice (some ⟨g, 0, none⟩) (n + 1) cap)) rfl (by kernel_rfl) (by kernel_rfl) (by kernel_rfl) (fun _ _ _ h => h) (Or.inl ⟨by rfl, fun w => by first | rfl | (go_simp; try with_reducible rfl)⟩) ?_;simp only [zgP, Act.put, zsP];refine wpAny_take (i := 6) (v := (.int .i64 i)) rfl (by kernel_rfl) (by kernel_rfl) (by kernel_rfl) (fun _ _ _ h => h) (Or.inl ⟨by rfl, fun w => by first | rfl | (go_simp; try with_reducible rfl)⟩) ?_;simp only [zgP, Act.put, zsP];refine wpAny_take (i := 7) (v := (.slice (some ⟨g, i * 2, none⟩) (n + 1 - i) (cap - i))) rfl (by kernel_rfl) (by kernel_rfl) (by kernel_rfl) (fun _ _ _ h => h) (Or.inl ⟨by rfl, fun w => by first | rfl | (go_simp; try with_reducible rfl)⟩) ?_;simp only [zgP, Act.put, zsP];refine wpAny_ready (rs := [8]) (by kernel_rfl) (by simp) ?_;refine AllReady.cons rfl (fun K hK => ?_) AllReady.nil;refine wp_copy_run _ _ 41 41 rfl _ _ rfl rfl Hc1.out ?_;refine hK _ _ ?_;clear hK K;simp only [Act.put, zsP];refine wpAny_done (by kernel_rfl) ?_ _;have hc2 := Hc2.out;go_wp2;go_ret;exact ⟨_, rfl, HF.out.1, HF.out.2, .inl rfl⟩
  .
   obtain ⟨q, hq⟩ : ∃ q, n + 1 - i = q := ⟨_, rfl⟩;obtain ⟨N1, hN1⟩ : ∃ N1, w.heap.size = N1 := ⟨_, rfl⟩;have hgl : g < w.heap.size := (Array.getElem?_eq_some_iff.1 hg).1;have holds : (xs.take (i * 2)).length = i * 2 := by rw [List.length_take]; omega
   have hfc := run_firstCells_some (P := Tryz.prog) w.drew i0.size i ⟨g, 0, none⟩ i cap (xs.take (i * 2)) (by rw [hz1]; exact holds) (fun j u hj => by
    have hjl := (List.getElem?_eq_some_iff.1 hj).1;rw [Addr.add_lit, Nat.zero_add];have h2 : xs[j]? = some u := by rw [List.getElem?_take] at hj; split at hj; exact hj; cases hj
    obtain ⟨hj2, hju⟩ := List.getElem?_eq_some_iff.1 h2;have h3 := zb7 htk hj2;show w.cell? _ = _;simp [World.cell?, hg];rw [<- Array.getElem?_toList, h3, hju])
   have ha := Lib.run_append_grow_zeros (P := Tryz.prog) w 41 3 41 77 i0 _ .i64 .i64 Tryz.underlying41 Tryz.underlying3 hi0 hz0 (some ⟨g, 0, none⟩) i cap (xs.take (i * 2)) hfc q (by omega) (by rw [hz1]; decide) (by omega) (by omega) (by rw [hz2]; omega) (by rw [hz2]; exact growslice_fits (by omega) (by omega));rw [show i + q = n + 1 by omega] at ha;have hge := grownCap_ge w (n + 1) cap 77;have hcl := grownCap_le_maxLen w (n + 1) cap 77 (by unfold maxLen; omega);obtain ⟨C, hC⟩ : ∃ C, grownCap w (n + 1) cap 77 = C := ⟨_, rfl⟩;rw [hC] at ha hge hcl;have hCm : C <= 9223372036854775807 := by unfold maxLen at hcl; omega
   obtain ⟨Z, hZ⟩ : ∃ Z : List Value, (Builtin.zeroCells (Value.agg #[Value.string .empty, Value.string .empty]).cells q).toList ++ (Builtin.zeroCells (Value.agg #[Value.string .empty, Value.string .empty]).cells (C - (n + 1))).toList = Z := ⟨_, rfl⟩;have hZl : Z.length = C * 2 - i * 2 := by rw [<- hZ, zlA, Array.length_toList, Array.length_toList, size_zeroCells, size_zeroCells];simp [Value.cells];omega
   have hA : (xs.take (i * 2)).toArray ++ Builtin.zeroCells (Value.agg #[Value.string .empty, Value.string .empty]).cells q ++ Builtin.zeroCells (Value.agg #[Value.string .empty, Value.string .empty]).cells (C - (n + 1)) = (xs.take (i * 2) ++ Z).toArray := by apply Array.ext';rw [<- hZ];simp
   rw [hA, hN1] at ha;have hfr := zfC (xs := xs) (Z := Z) (ys := ys) (a := i * 2) (m := n * 2) (k := 2) (by omega) (by omega) hy hxl;obtain ⟨w1, hw1⟩ : ∃ w1, w.drew.alloc (.cells (xs.take (i * 2) ++ Z).toArray 77) = w1 := ⟨_, rfl⟩;have hB1 : Below w.heap.size w w1 := by rw [<- hw1]; exact ((Below.refl _ w).drew).alloc (Nat.le_refl _) _
   have hg1 : w1.heap[N1]? = some (.cells (xs.take (i * 2) ++ Z).toArray 77 (0, 0)) := by rw [<- hw1, <- hN1]; exact heap_alloc_new w.drew _
   have hx1 : Bx w1 tb ys.toArray 77 := hx.belowAll hB1;have hc2 := za6 (P := Tryz.prog) w1 41 41 3 77 i0 2 Tryz.underlying41 hi0 hz1 N1 (i * 2) _ hg1 (n + 1 - i) (C - i) ⟨tb, 0, none⟩ 1 1 ys
    (by rw [hy, show Nat.min 1 (n + 1 - i) = 1 from Nat.min_eq_left (by omega)]) (zdh hx1) h1y (by rw [hy, List.size_toArray, zlA, holds, hZl]; omega)
   rw [List.toList_toArray] at hc2;obtain ⟨D, hD⟩ : ∃ D, (xs.take (i * 2) ++ Z).take (i * 2) ++ ys ++ (xs.take (i * 2) ++ Z).drop (i * 2 + ys.length) = D := ⟨_, rfl⟩;rw [hD] at hc2 hfr;have hg2 : (w1.setRow N1 D.toArray).drew.heap[N1]? = some (.cells D.toArray 77 (0, 0)) := setRow_heap w1 N1 _ _ _ _ hg1;have hgg : (w1.setRow N1 D.toArray).drew.heap[g]? = some (.cells cur 77 (0, 0)) := ((setRow_other w1 N1 g _ (by omega)).trans (hB1.block g hgl)).trans hg;have e2 : (i + 1) * 2 = i * 2 + 2 := by omega
   have hc1 := za6 (P := Tryz.prog) (w1.setRow N1 D.toArray).drew 41 41 3 77 i0 2 Tryz.underlying41 hi0 hz1 N1 ((i + 1) * 2) D.toArray hg2 (n + 1 - (i + 1)) (C - (i + 1)) ⟨g, i * 2, none⟩ (n - i) (cap - i) (xs.drop (i * 2))
    (by rw [hdl, show Nat.min (n - i) (n + 1 - (i + 1)) = n - i from Nat.min_eq_left (by omega)]) (zcF hgg htk (i * 2)) (fun u hu => h1x u (List.mem_of_mem_drop hu)) (by rw [hdl, List.size_toArray, hfr.2.2, hZl]; omega)
   rw [List.toList_toArray] at hc1;rw [<- e2] at hfr;obtain ⟨E, hE⟩ : ∃ E, D.take ((i + 1) * 2) ++ xs.drop (i * 2) ++ D.drop ((i + 1) * 2 + (xs.drop (i * 2)).length) = E := ⟨_, rfl⟩;rw [hE] at hc1 hfr;have hg3 : ((w1.setRow N1 D.toArray).drew.setRow N1 E.toArray).heap[N1]? = some (.cells E.toArray 77 (0, 0)) := setRow_heap _ N1 _ _ _ _ hg2;have HF : Hid (RowO ((w1.setRow N1 D.toArray).drew.setRow N1 E.toArray) base 77 2 (.slice (some ⟨N1, 0, none⟩) (n + 1) C) (n + 1) (xs.take (i * 2) ++ ys ++ xs.drop (i * 2)) /\ w.grownBy ((w1.setRow N1 D.toArray).drew.setRow N1 E.toArray) (some g)) := zhI ⟨RowO.mk' (by rw [zlA, zlA, List.length_take, hy, hdl, hxl]; omega) (by omega) hg3 hge hcl (by rw [List.size_toArray, hfr.2.1, hZl]; omega) (by rw [List.toList_toArray, show (n + 1) * 2 = n * 2 + 2 by omega]; exact hfr.1), by
    have hz1' : w.heap.size <= w1.heap.size := hB1.size;refine ⟨?_, ?_, ?_, ?_, fun b hb' _ => ?_⟩
    . exact hB1.os
    . exact hB1.tape
    . exact hB1.output
    . rw [setRow_size]; show w.heap.size <= (w1.setRow N1 D.toArray).heap.size; rw [setRow_size]; exact hz1'
    . exact (setRow_other _ N1 b _ (by omega)).trans ((setRow_other w1 N1 b _ (by omega)).trans (hB1.block b hb'))⟩
   have z3 : ((i : Int) == (n : Int)) = false := by simp; omega
   have z2 : ¬ ((i : Int) = (n : Int)) := by omega
   have hq2 : (n : Int) + 1 - (i : Int) = (q : Int) := by omega
   have b0 : i <= n := by omega
   have tn : ((i : Int) + 1).toNat = i + 1 := by omega
   have b1 : (0 : Int) <= (i : Int) + 1 := by omega
   have b2 : ¬ (C = i + 1) := by omega
   have b4 : ¬ (C = i) := by omega
   have b7 : ¬ (cap = i) := by omega
   have b5 : (cap : Int) < (n : Int) + 1 := by omega
   have b8 : i <= n + 1 := by omega
   have b9 : i + 1 <= n + 1 := by omega
   have HN1 := zhI hN1;have hwi : IntKind.i64.wrap ((i : Int) + 1) = (i : Int) + 1 := IntWalk.i64_in _ (by omega);rw [hw1] at ha;have Ha := zhI ha;have Hc1 := zhI hc1;have Hc2 := zhI hc2;clear hfr hZ hZl hA hD hE hg1 hg2 hg3 hgg hx1 hc1 hc2 ha hfc hds hi1 h hx hi hin hq hN1 hw1 hB1 hC hge hcl;go_enter Tryz.func161, Tryz.ntmps161;have hc2 := Hc2.out;go_wp2_with (at_builtin; refine zaA rfl _ _ 41 3 rfl _ _ rfl rfl Ha.out ?_);refine zah #[false, false, false, false, false, false, false, false, false] 9 (by kernel_rfl) (by rfl) rfl ?_;refine wpAny_take (i := 0) (v := (.slice (some ⟨N1, 0, none⟩) (n + 1) C)) rfl (by kernel_rfl) (by kernel_rfl) (by kernel_rfl) (fun _ _ _ h => h) (Or.inl ⟨by rfl, fun w => by first | rfl | (go_simp; try with_reducible rfl)⟩) ?_;simp only [List.getElem_toArray, List.getElem_cons_zero, Act.put, zsP];refine wpAny_take (i := 1) (v := (.int .i64 i)) rfl (by kernel_rfl) (by kernel_rfl) (by kernel_rfl) (fun _ _ _ h => h) (Or.inl ⟨by rfl, fun w => by first | rfl | (go_simp; try with_reducible rfl)⟩) ?_;simp only [zgP, Act.put, zsP];refine wpAny_take (i := 2) (v := (.int .i64 1)) rfl (by kernel_rfl) (by kernel_rfl) (by kernel_rfl) (fun _ _ _ h => h) (Or.inl ⟨by rfl, fun w => by first | rfl | (go_simp; try with_reducible rfl)⟩) ?_;simp only [zgP, Act.put, zsP];refine wpAny_take (i := 3) (v := (.int .i64 ((i : Int) + 1))) rfl (by kernel_rfl) (by kernel_rfl) (by kernel_rfl) (fun _ _ _ h => h) (Or.inl ⟨by rfl, fun w => by first | rfl | (go_simp; try with_reducible rfl)⟩) ?_;simp only [zgP, Act.put, zsP];refine wpAny_take (i := 4) (v := (.slice (some ⟨N1, (i + 1) * 2, none⟩) (n + 1 - (i + 1)) (C - (i + 1)))) rfl (by kernel_rfl) (by kernel_rfl) (by kernel_rfl) (fun _ _ _ h => h) (Or.inl ⟨by rfl, fun w => by first | rfl | (go_simp; try with_reducible rfl)⟩) ?_;simp only [zgP, Act.put, zsP];refine wpAny_take (i := 5) (v := (.slice (some ⟨g, 0, none⟩) n cap)) rfl (by kernel_rfl) (by kernel_rfl) (by kernel_rfl) (fun _ _ _ h => h) (Or.inl ⟨by rfl, fun w => by first | rfl | (go_simp; try with_reducible rfl)⟩) ?_;simp only [zgP, Act.put, zsP];refine wpAny_take (i := 6) (v := (.int .i64 i)) rfl (by kernel_rfl) (by kernel_rfl) (by kernel_rfl) (fun _ _ _ h => h) (Or.inl ⟨by rfl, fun w => by first | rfl | (go_simp; try with_reducible rfl)⟩) ?_;simp only [zgP, Act.put, zsP];refine wpAny_take (i := 7) (v := (.slice (some ⟨g, i * 2, none⟩) (n - i) (cap - i))) rfl (by kernel_rfl) (by kernel_rfl) (by kernel_rfl) (fun _ _ _ h => h) (Or.inl ⟨by rfl, fun w => by first | rfl | (go_simp; try with_reducible rfl)⟩) ?_;simp only [zgP, Act.put, zsP];refine wpAny_ready (rs := [8]) (by kernel_rfl) (by simp) ?_;refine AllReady.cons rfl (fun K hK => ?_) AllReady.nil;refine wp_copy_run _ _ 41 41 rfl _ _ rfl rfl Hc1.out ?_;refine hK _ _ ?_;clear hK K hc2;simp only [Act.put, zsP];refine wpAny_done (by kernel_rfl) ?_ _;go_wp2;go_ret;exact ⟨_, rfl, HF.out.1, HF.out.2, .inr (by rw [HN1.out]; rfl)⟩
theorem RowO.belowAt {w w' : World} {base k n : Nat} {e : TypeId} {v : Value} {xs : List Value} (h : RowO w base e k v n xs) (hb : Below w.heap.size w w') : RowO w' base e k v n xs := h.same fun g e => hb.block g (h.lt g e).2
set_option maxRecDepth 100000 in
set_option maxHeartbeats 1000000 in
theorem zjt (w : World) (m : Int) (n : Nat) (hm : m = n) (hn : n <= 3000) :
  Calls Tryz.prog 211 #[.slice none 0 0, .int .i64 m] w fun e w' => ∃ v, e = .returned v /\ w'.ownsRow w.heap.size 77 2 v 0 [] /\ Below w.heap.size w w' := by
 subst hm;obtain ⟨idg, hidg, hzd, hsd, hbyd⟩ := info_parts zbo;rcases Nat.eq_zero_or_pos n with rfl | hp
 .
  have h0 : ¬ (0 : Int) < ((0 : Nat) : Int) := by omega
  go_enter Tryz.func211, Tryz.ntmps211;go_wp2;go_ret;exact ⟨_, rfl, World.ownsRow_nil _ _ _ _, Below.refl _ _⟩
 .
  have hr := Lib.run_append_nil_zeros (P := Tryz.prog) w 41 3 41 77 idg _ .i64 .i64 Tryz.underlying41 Tryz.underlying3 hidg hzd n hp (by rw [hsd]; decide) (by omega) (by rw [hbyd]; omega);have hge := grownCap_ge w n 0 77;have hcm := grownCap_le_maxLen w n 0 77 (by unfold maxLen; omega);have hsz : (Builtin.zeroCells (Value.agg #[.string .empty, .string .empty]).cells n ++ Builtin.zeroCells (Value.agg #[.string .empty, .string .empty]).cells (grownCap w n 0 77 - n)).size = grownCap w n 0 77 * 2 := by rw [Array.size_append, size_zeroCells, size_zeroCells, <- Nat.add_mul];simp [Value.cells];omega
  have hp' : (0 : Int) < (n : Int) := by omega
  generalize grownCap w n 0 77 = c at *;have hc0 : 0 <= c := by omega
  have Hr := zhI hr;have Hsz := zhI hsz;have Hc := zhI hcm;clear hr hsz hcm hidg hzd hsd hbyd;go_enter Tryz.func211, Tryz.ntmps211;go_wp2_with (refine Lib.wpList_append_run _ rfl (.tmp 20) (.tmp 21) 41 3 rfl (.slice none 0 0) (.int .i64 n) rfl rfl _ _ Hr.out ?_);go_ret;refine ⟨_, rfl, ⟨by simp, .inr ⟨w.heap.size, c, _, rfl, Nat.le_refl _, heap_alloc_new w _, Nat.zero_le _, Hc.out, Hsz.out, by simp⟩⟩, ?_⟩;exact (Below.one w _).drew
theorem zaE {w : World} {base base' : Nat} {e : TypeId} {size : Nat} {v : Value} {n : Nat} {xs : List Value} (h : w.ownsRow base e size v n xs) (hb : base' <= base) : w.ownsRow base' e size v n xs := by
 refine ⟨h.1, ?_⟩;rcases h.2 with h1 | ⟨g, cap, cur, e1, hg, r⟩
 . exact .inl h1
 . exact .inr ⟨g, cap, cur, e1, znT hb hg, r⟩
set_option maxRecDepth 100000 in
set_option maxHeartbeats 2000000 in
theorem zlb (base : Nat) (w : World) (g : Nat) (va vb : Value) (x : Bx w g #[va, vb] 41) (na nb : Nat) (xa xb : List Value) (hA : RowO w base 77 2 va na xa) (hB : RowO w base 77 2 vb nb xb) (h1a : ∀ u ∈ xa, u.oneCell' = true) (h1b : ∀ u ∈ xb, u.oneCell' = true) (la : na <= 1000) (lb : nb <= 1000) :
  Calls Tryz.prog 206 #[.slice (some ⟨g, 0, none⟩) 2 2] w fun e w' => ∃ v, e = .returned v /\ w'.ownsRow w.heap.size 77 2 v (na + nb) (xa ++ xb) /\ Below w.heap.size w w' := by
 have hA0 := hA;have hB0 := hB;obtain ⟨oa, ca, rfl, hsa, -⟩ := hA.at;obtain ⟨ob, cb, rfl, hsb, -⟩ := hB.at;obtain ⟨idg, hidg, hzd, hsd, hbyd⟩ := info_parts zbo;have Hidg := zhI (zaI hidg (zaI hzd (zaI hsd hbyd)));have HA := zhI hA0;have HB := zhI hB0;have HSa := zhI hsa.nil;have HSb := zhI hsb.nil;have X := zhI x;clear hA hB hA0 hB0 x hidg hzd hsd hbyd hsa hsb;go_enter Tryz.func206, Tryz.ntmps206;go_wp2
 go_loopw [3, 11] (fun s i wr => ((i = .int .i64 0 /\ s = .int .i64 0) \/ (i = .int .i64 1 /\ s = .int .i64 (na : Int)) \/ (i = .int .i64 2 /\ s = .int .i64 ((na : Int) + (nb : Int)))) /\ Below w.heap.size w wr) (fun _ i _ => 2 - (intOf i).toNat)
 case atStart => exact ⟨.inl ⟨rfl, rfl⟩, Below.refl _ _⟩
 case round =>
  obtain ⟨hi, hb⟩ := hrel;have xr := X.out.below hb X.out.lt;have c0 : wr.cell? ⟨g, 0, none⟩ = some (.slice oa na ca) := by rw [xr.cell]; rfl
  have c1 : wr.cell? ⟨g, 1, none⟩ = some (.slice ob nb cb) := by rw [xr.cell]; rfl
  rcases hi with ⟨rfl, rfl⟩ | ⟨rfl, rfl⟩ | ⟨rfl, rfl⟩
  .
   have h0 : ¬ ((na : Int) < 0) := by omega
   go_wp2;go_roundw
   case rel => exact ⟨.inr (.inl ⟨rfl, rfl⟩), hb⟩
   case measure => simp [intOf]
  .
   have h0 : ¬ ((na : Int) + (nb : Int) < 0) := by omega
   go_wp2;go_roundw
   case rel => exact ⟨.inr (.inr ⟨rfl, rfl⟩), hb⟩
   case measure => simp [intOf]
  .
   have hgr := zjt wr ((na : Int) + (nb : Int)) (na + nb) (by omega) (by omega);have Hgr := zhI hgr;clear hgr c0 c1 xr;go_wp2_with fail;refine Hgr.out.mono ?_;rintro e w2 ⟨v2, rfl, ho2, hb2⟩;have hB2 := Below.then hb hb2 hb.size;have Ho2 := zhI (zaE ho2 hb.size);clear ho2 hb hb2 Hgr;go_wp2
   go_loopw [6, 27] (fun u i wr => (∃ (m : Nat) (l : List Value), ((i = .int .i64 0 /\ m = 0 /\ l = []) \/ (i = .int .i64 1 /\ m = na /\ l = xa) \/ (i = .int .i64 2 /\ m = na + nb /\ l = xa ++ xb)) /\ wr.ownsRow w.heap.size 77 2 u m l) /\ Below w.heap.size w wr) (fun _ i _ => 2 - (intOf i).toNat)
   case atStart => exact ⟨⟨0, [], .inl ⟨rfl, rfl, rfl⟩, Ho2.out⟩, hB2⟩
   case round =>
    clear Ho2;obtain ⟨⟨m, l, hi, ho⟩, hb⟩ := hrel;have xr := X.out.below hb X.out.lt;have c0 : wr.cell? ⟨g, 0, none⟩ = some (.slice oa na ca) := by rw [xr.cell]; rfl
    have c1 : wr.cell? ⟨g, 1, none⟩ = some (.slice ob nb cb) := by rw [xr.cell]; rfl
    have Ho := zhI ho;have hz := hb.size;clear ho;rcases hi with ⟨rfl, rfl, rfl⟩ | ⟨rfl, rfl, rfl⟩ | ⟨rfl, rfl, rfl⟩
    .
     obtain ⟨o', c', e', -, hr'⟩ := (HA.out.belowAt hb).at;obtain ⟨rfl, rfl⟩ : oa = o' /\ ca = c' := by simpa using e'
     have HR := zhI hr';have hl := zhI HA.out.1;clear hr' e';go_wp2_with (refine zau rfl (.tmp 31) (.tmp 32) 41 rfl w.heap.size 77 idg _ 2 32 Tryz.underlying41 Hidg.out.1 Hidg.out.2.1 Hidg.out.2.2.1 Hidg.out.2.2.2 rfl (by decide) _ _ _ rfl Ho.out oa na ca xa rfl HSa.out hl.out HR.out h1a (by simp [maxLen]; omega) (by omega) (by omega) ?_; intro v3 w3 ho3 hg3);have hb3 : Below w.heap.size w w3 := hb.grown hg3 hz (fun k e => (Ho.out.lt k e).1);rw [Nat.zero_add, List.nil_append] at ho3;go_roundw
     case rel => exact ⟨⟨na, xa, .inr (.inl ⟨rfl, rfl, rfl⟩), ho3⟩, hb3⟩
     case measure => simp [intOf]
    .
     obtain ⟨o', c', e', -, hr'⟩ := (HB.out.belowAt hb).at;obtain ⟨rfl, rfl⟩ : ob = o' /\ cb = c' := by simpa using e'
     have HR := zhI hr';have hl := zhI HB.out.1;clear hr' e';go_wp2_with (refine zau rfl (.tmp 31) (.tmp 32) 41 rfl w.heap.size 77 idg _ 2 32 Tryz.underlying41 Hidg.out.1 Hidg.out.2.1 Hidg.out.2.2.1 Hidg.out.2.2.2 rfl (by decide) _ _ _ rfl Ho.out ob nb cb xb rfl HSb.out hl.out HR.out h1b (by simp [maxLen]; omega) (by omega) (by omega) ?_; intro v3 w3 ho3 hg3);have hb3 : Below w.heap.size w w3 := hb.grown hg3 hz (fun k e => (Ho.out.lt k e).1);go_roundw
     case rel => exact ⟨⟨_, _, .inr (.inr ⟨rfl, rfl, rfl⟩), ho3⟩, hb3⟩
     case measure => simp [intOf]
    . clear c0 c1 xr;go_wp2;go_ret;exact ⟨_, rfl, Ho.out, hb⟩
set_option maxHeartbeats 1000000 in
theorem zdK {S : Nat -> Prop} (w : World) (a : Addr) (m c : Nat) (ys : List Value) (hl : ys.length = m * 2) (h : RowAt S w (some a) ys) (h1 : ∀ u ∈ ys, u.oneCell' = true) (hm : m <= 1000) :
  Calls Tryz.prog 162 #[.slice (some a) m c] w fun e w' => ∃ v, e = .returned v /\ w'.ownsRow w.heap.size 77 2 v m ys /\ Below w.heap.size w w' := by
 obtain ⟨i0, hi, hz0, hz1, hz2⟩ := info_parts zbo;have heql := fun (w : World) (a : Option Addr) (n c : Nat) => Lib.run_eql_slice_nil (P := Tryz.prog) w 41 77 a n c 0 0 Tryz.underlying41;go_enter Tryz.func162, Tryz.ntmps162;go_wp2_with (at_builtin; refine zau rfl _ _ 41 rfl w.heap.size 77 i0 _ 2 32 Tryz.underlying41 hi hz0 hz1 hz2 rfl (by decide) _ 0 [] rfl (World.ownsRow_made w #[] 0 (Nat.le_refl _) (by simp [maxLen]) rfl) _ m c ys rfl (by intro e; cases e) hl (h.below ((Below.refl _ _).alloc (Nat.le_refl _) _)) h1 (by unfold maxLen; omega) (by omega) (by simp) ?_; intro v' w1 hown hg);go_ret;simp only [Nat.zero_add, List.nil_append] at hown;exact ⟨_, rfl, hown, ((Below.refl _ _).alloc (Nat.le_refl _) _).grown hg (by simp) (by intro k hk; cases hk; exact Nat.le_refl _)⟩
end Go.Proofs.YtlefmmhlpgmbjaaGreat
