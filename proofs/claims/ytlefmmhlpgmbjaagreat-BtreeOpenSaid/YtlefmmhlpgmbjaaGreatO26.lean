/- What btree.Commit returns, plain. What a valid index's tree and free pages are; contents at an optional tree. The state of btree.Commit while changes are made. The end of btree.Commit: what is kept; plain laws of its operations. -/
import Derived.Test.YtlefmmhlpgmbjaaGreatO23
import Derived.Test.YtlefmmhlpgmbjaaGreatO25
import Derived.Test.YtlefmmhlpgmbjaaGreatO13
import Derived.Test.YtlefmmhlpgmbjaaGreatO01
namespace Go.Proofs.YtlefmmhlpgmbjaaGreat
set_option maxRecDepth 100000
open Go.RowKit
def za1 (t : Option Nd) (c : Chg) : Bool := ((getO t c.key).2 != c.hasOld) || decide ((getO t c.key).1 ≠ c.old)
def zcE : Option Nd -> ByteArray -> Option Int
 | none => fun _ => none
 | some n => contL (fun _ => none) n.pre
def planP (x : Ix) (t : Option Nd) (l : List Chg) : Option (Option Nd × Plc) :=
 match l.foldl chg1 (t.map Nd.er) with
 | none => some (none, ⟨x.free, []⟩)
 | some n => (za4 (fun s => zcE t (bs s)) n ⟨x.free, []⟩).map fun y => (some y.1, y.2)
def zap (x : Ix) (l : List Chg) : Ix × Int :=
 match zaz x with
 | none => (zeroX, 1)
 | some t =>
  if chgsE none l ≠ 0 then (zeroX, chgsE none l)
  else if l.any (za1 t) then (zeroX, 15)
  else if l = [] then (x, 0)
  else match planP x t l with
   | none => (zeroX, 17)
   | some (n, p) =>
    if x.ver = 1099511627776 then (zeroX, 17)
    else if (perfP x.disk (zaA x p.ws (rootN n))).2 ≠ 0 then ({ x with disk := (perfP x.disk (zaA x p.ws (rootN n))).1 }, (perfP x.disk (zaA x p.ws (rootN n))).2)
    else (⟨(perfP x.disk (zaA x p.ws (rootN n))).1, x.frm, x.til, x.ver + 1, rootN n, zar x.frm x.til (usedN n)⟩, 0)
theorem zg6 (d : Dsk) : ∀ (a b : List DOp), perfP d (a ++ b) = if (perfP d a).2 ≠ 0 then perfP d a else perfP (perfP d a).1 b := by
 intro a
 induction a generalizing d with
 | nil => intro b; simp [perfP]
 | cons o a ih =>
  intro b;rw [List.cons_append, perfP, perfP]
  by_cases h : (opP d o).2 ≠ 0
  . rw [if_pos h, if_pos h, if_pos h]
  . rw [if_neg h, if_neg h, ih]
theorem zhv (look : List UInt8 -> Option Int) : ∀ (n : Nd) (p : Plc), za4 look n.er p = za4 look n p := by
 intro n
 induction n using Nd.ind with
 | h ps kids page ih =>
  intro p;have hK : ∀ (l : List Nd) (p : Plc), (∀ k ∈ l, ∀ p, za4 look k.er p = za4 look k p) -> zaX look (l.map Nd.er) p = zaX look l p := by
   intro l
   induction l with
   | nil => intro p _; rfl
   | cons k l ihl =>
    intro p h;rw [List.map_cons, zaX, zaX, h k (by simp)];split
    . rfl
    . rw [ihl _ fun x hx => h x (by simp [hx])]
  rw [zbj, zbj, Nd.er_kids, Nd.er_ps];simp only [Nd.kids, Nd.ps];rw [hK kids p ih]
def RetXV (w : World) (r : Ix × Int) (e : Ending) (w' : World) : Prop := ∃ v, e = .returned (.tuple #[v, .int .i64 r.2]) /\ IxT w' v r.1 /\ Below w.heap.size w w'
theorem zh8 {x : Ix} {l : List Chg} (h : zaz x = none) : zap x l = (zeroX, 1) := by unfold zap; rw [h]
theorem zer {x : Ix} {l : List Chg} {t : Option Nd} (h : zaz x = some t) (hc : chgsE none l ≠ 0) : zap x l = (zeroX, chgsE none l) := by unfold zap; rw [h]; simp only; rw [if_pos hc]
theorem zbi {x : Ix} {l : List Chg} {t : Option Nd} (h : zaz x = some t) (hc : chgsE none l = 0) (hl : l.any (za1 t) = true) : zap x l = (zeroX, 15) := by unfold zap; rw [h]; simp only; rw [if_neg (by simpa using hc), if_pos hl]
theorem zeS {x : Ix} {t : Option Nd} (h : zaz x = some t) : zap x [] = (x, 0) := by unfold zap; rw [h]; simp [chgsE]
theorem zbO {x : Ix} {l : List Chg} {t : Option Nd} (h : zaz x = some t) (hc : chgsE none l = 0) (hl : l.any (za1 t) = false) (h0 : l ≠ []) (hp : planP x t l = none \/ x.ver = 1099511627776) : zap x l = (zeroX, 17) := by
 unfold zap; rw [h]; simp only; rw [if_neg (by simpa using hc), if_neg (by rw [hl]; decide), if_neg h0];split
 . rfl
 .
  rename_i n p hpl
  rcases hp with hp | hp
  . rw [hp] at hpl; cases hpl
  . rw [if_pos hp]
theorem zbI {x : Ix} {l : List Chg} {t : Option Nd} {n : Option Nd} {p : Plc} (h : zaz x = some t) (hc : chgsE none l = 0) (hl : l.any (za1 t) = false) (h0 : l ≠ []) (hp : planP x t l = some (n, p)) (hv : x.ver ≠ 1099511627776) {D : Dsk} {er : Int} (hD : perfP x.disk (zaA x p.ws (rootN n)) = (D, er)) :
  zap x l = if er ≠ 0 then ({ x with disk := D }, er) else (⟨D, x.frm, x.til, x.ver + 1, rootN n, zar x.frm x.til (usedN n)⟩, 0) := by
 unfold zap; rw [h]; simp only; rw [if_neg (by simpa using hc), if_neg (by rw [hl]; decide), if_neg h0, hp];simp only;rw [if_neg hv, hD]
theorem zgM {d : Dsk} {frm til : Int} (h0 : 0 <= frm) (h1 : til <= 1000000) : ∀ (f : Nat) {root : Bool} {page : Int} {used u : List Int} {n : Nd} {k : Nat}, loadP d frm til f root page used = some (n, k, u) -> ∀ m ∈ n.pre, GoodN frm til m
 | 0, _, _, _, _, _, _, h => by cases h
 | f + 1, root, page, used, u, n, k, h => by
  have hself := (zfP h0 h1 _ h).1;rw [loadP] at h;split at h
  . cases h
  .
   split at h
   .
    split at h
    . cases h
    .
     split at h
     . cases h
     .
      split at h
      . simp only [Option.some.injEq, Prod.mk.injEq] at h;obtain ⟨rfl, -, -⟩ := h;intro m hm;rw [Nd.pre_eq] at hm;simp only [Nd.kids, List.map_nil, List.flatten_nil, zmS] at hm;rw [hm]; exact hself
      . cases h
   .
    split at h
    . cases h
    .
     split at h
     . cases h
     .
      rename_i kids k1 u1 hk
      split at h
      .
       simp only [Option.some.injEq, Prod.mk.injEq] at h;obtain ⟨rfl, -, -⟩ := h;intro m hm;rw [Nd.pre_eq] at hm;rcases zmC.1 hm with hm | hm
       . rw [hm]; exact hself
       . obtain ⟨q, hq, hmq⟩ := List.mem_flatten.1 hm;obtain ⟨c, hc, rfl⟩ := List.mem_map.1 hq;obtain ⟨p, u2, k2, u3, hg⟩ := (zb8 hk).2 c hc;exact zgM h0 h1 f hg m hmq
      . cases h
structure zka (x : Ix) (t : Option Nd) : Prop where
 chk0 : chk x.disk = 0
 fit : fits5 x.disk x.frm x.til = true
 read : readP x.disk x.frm x.til = some (x, t)
 ex : ∃ u, treeP x.disk x.frm x.til x.root.toNat = some (t, u) /\ x.free = zar x.frm x.til u /\ 0 <= x.root
 ver : 1 <= x.ver /\ x.ver <= 1099511627776
theorem zjC (d : Dsk) (frm til : Int) : (headX d frm til).1 <= 1099511627776 := by
 unfold headX;cases h1 : hdrX (pageL d frm) frm til 0 with
 | none => cases h2 : hdrX (pageL d (frm + 1)) frm til 1 with
  | none => simp [pickH]
  | some b => obtain ⟨v, n⟩ := b; have := zce h2; simp [pickH]; omega
 | some a => obtain ⟨v, n⟩ := a; have := zce h1; cases h2 : hdrX (pageL d (frm + 1)) frm til 1 with
  | none => simp [pickH]; omega
  | some b => obtain ⟨v2, n2⟩ := b; have := zce h2; simp only [pickH]; split <;> omega
theorem zd6 {x : Ix} {t : Option Nd} (h : zaz x = some t) : zka x t := by
 obtain ⟨d, frm, til, ver, root, free⟩ := x;unfold zaz at h;split at h
 . cases h
 .
  rename_i hf
  obtain ⟨hc, hf5⟩ := zem (by simpa using hf);split at h
  . cases h
  .
   rename_i y t' hr
   split at h
   .
    rename_i he
    cases h;have hr0 := hr;unfold readP at hr;split at hr
    . cases hr
    .
     rename_i hv0
     split at hr
     . cases hr
     .
      rename_i t'' u ht
      simp only [Option.some.injEq, Prod.mk.injEq] at hr;obtain ⟨rfl, rfl⟩ := hr;simp only at he hv0 ht hr0;obtain ⟨e1, e2, e3⟩ := he;subst e1 e2 e3;refine ⟨hc, hf5, hr0, ⟨u, by simpa using ht, rfl, Int.natCast_nonneg _⟩, ?_⟩;have := zjC d frm til;simp only;omega
   . cases h
theorem zfc {frm til : Int} {u : List Int} {g : Int} (h : g ∈ zar frm til u) : frm + 2 <= g /\ g < til /\ g ∉ u := by
 unfold zar pgsX at h;obtain ⟨h1, h2⟩ := List.mem_filter.1 h;obtain ⟨i, hi, rfl⟩ := List.mem_map.1 h1;rw [List.mem_range] at hi;simp at h2;exact ⟨by omega, by omega, h2⟩
theorem zka.good {x : Ix} {t : Option Nd} (h : zka x t) : 0 <= x.frm /\ x.til <= 1000000 /\ x.frm + 3 <= x.til /\ (∀ n, t = some n -> ∀ m ∈ n.pre, GoodN x.frm x.til m) /\ ∀ g ∈ x.free, x.frm + 2 <= g /\ g < x.til := by
 obtain ⟨f1, f2, f3, f4, f5⟩ := zax h.fit;have hr := zaf (zas h.chk0).1;obtain ⟨u, hu, hfr, hr0⟩ := h.ex;refine ⟨f2, by omega, by omega, fun n hn => ?_, fun g hg => ?_⟩
 .
  subst hn;unfold treeP at hu;split at hu
  . cases hu
  .
   split at hu
   . cases hu
   .
    rename_i n' k u' hl
    split at hu
    . simp only [Option.some.injEq, Prod.mk.injEq] at hu;obtain ⟨rfl, -⟩ := hu;exact zgM f2 (by omega) _ hl
    . cases hu
 . rw [hfr] at hg;have := zfc hg;omega
theorem GoodN.enc {frm til : Int} {m : Nd} (h : GoodN frm til m) (h0 : 0 <= frm) (h1 : til <= 1000000) : EncOk m /\ PgOk m.page := by
 obtain ⟨g1, g2, g3, g4, g5⟩ := h;exact ⟨g5, by unfold PgOk; omega⟩
theorem zhc {l : List Nd} : ∀ {f : ByteArray -> Option Int} {s : ByteArray} {g : Int}, contL f l s = some g -> f s = some g \/ ∃ m ∈ l, bs (encD m) = s /\ m.page = g := by
 induction l with
 | nil => intro f s g h; exact .inl h
 | cons x l ih =>
  intro f s g h;rcases ih (f := putF f (bs (encD x)) x.page) h with h | ⟨m, hm, h1, h2⟩
  .
   unfold putF at h;split at h
   .
    rename_i e
    exact .inr ⟨x, by simp, e.symm, by simpa using h⟩
   . exact .inl h
  . exact .inr ⟨m, by simp [hm], h1, h2⟩
theorem Tm.cnt {n : Nd} : ∀ {h : Nat}, Tm 2 4 h n -> n.pre.length + 1 <= n.prs.length := by
 induction n using Nd.ind with
 | h ps kids page ih =>
  intro h t;cases t with
  | lf _ _ _ _ g1 g3 hk => rw [Nd.pre_eq, Nd.prs_leaf rfl]; simpa [Nd.kids, Nd.ps] using g1
  | inn _ _ h _ _ g2 g0 g8 hk =>
   have hne : kids ≠ [] := fun e => by rw [e] at g0; simp at g0
   rw [Nd.pre_eq, Nd.prs_inner (n := .mk [] kids page) hne];simp only [Nd.kids, zlC];have key : ∀ l : List Nd, (∀ k ∈ l, k.pre.length + 1 <= k.prs.length) -> (l.map Nd.pre).flatten.length + l.length <= (l.map Nd.prs).flatten.length := by
    intro l
    induction l with
    | nil => intro _; simp
    | cons k l ihl => intro hl;have h1 := hl k (by simp);have h2 := ihl fun x hx => hl x (by simp [hx]);simp only [List.map_cons, List.flatten_cons, zlA, zlC];omega
   have := key kids fun k hk' => ih k hk' (hk k hk');omega
theorem Tm.cnt1 {n : Nd} {h : Nat} (t : Tm 1 2 h n) : n.pre.length <= n.prs.length := by
 cases h with
 | zero => obtain ⟨hk, h1, h3, ho⟩ := t.lf';rw [Nd.pre_eq, Nd.prs_leaf hk, hk];simpa using h1
 | succ h =>
  obtain ⟨hp, h0, h1, h3, ho⟩ := t.inn';rw [Nd.pre_eq, Nd.prs_inner h0, zlC];have key : ∀ l : List Nd, (∀ k ∈ l, k.pre.length + 1 <= k.prs.length) -> (l.map Nd.pre).flatten.length + l.length <= (l.map Nd.prs).flatten.length := by
   intro l
   induction l with
   | nil => intro _; simp
   | cons k l ihl => intro hl;have h1 := hl k (by simp);have h2 := ihl fun x hx => hl x (by simp [hx]);simp only [List.map_cons, List.flatten_cons, zlA, zlC];omega
  have := key n.kids fun k hk' => (ho k hk').cnt;omega
theorem zcw : ∀ {l : List Chg} {p : Option Chg}, chgsE p l = 0 -> ∀ c ∈ l, KvOk (c.key, c.new) /\ c.old.size <= 80
 | [], _, _, c, hc => by cases hc
 | x :: l, p, h, c, hc => by
  rw [chgsE] at h;split at h
  . rename_i hx; exact absurd h hx
  .
   rename_i hx
   rcases zmC.1 hc with rfl | hc
   .
    have hx0 : chgE p c = 0 := by simpa using hx
    unfold chgE at hx0;split at hx0
    . cases hx0
    .
     rename_i h1
     exact ⟨⟨by simp only; omega, by simp only; omega⟩, by omega⟩
   . exact zcw h c hc
theorem OTm.er {o : Option Nd} (h : OTm o) : OTm (o.map Nd.er) := by
 intro n hn;cases o with
 | none => cases hn
 | some m => cases hn;obtain ⟨⟨k, h1⟩, h2⟩ := h m rfl;exact ⟨⟨k, Tm.er_iff.2 h1⟩, by rw [Nd.er_prs]; exact h2⟩
theorem zfh {o : Option Nd} (h : OTm o) : Asc (zam o) := by
 cases o with
 | none => exact List.Pairwise.nil
 | some n => exact (h n rfl).2
theorem zed : ∀ {l : List Chg} {o : Option Nd}, OTm o -> (∀ c ∈ l, KvOk (c.key, c.new)) -> OTm (l.foldl chg1 o) /\ (zam (l.foldl chg1 o)).length <= (zam o).length + l.length
 | [], o, h, _ => ⟨h, by simp⟩
 | c :: l, o, h, hk => by
  obtain ⟨h1, h2⟩ := ziL h (fun _ => hk c (by simp));obtain ⟨h3, h4⟩ := zed (l := l) h1 fun x hx => hk x (by simp [hx]);refine ⟨h3, ?_⟩;have h5 : (zam (chg1 o c)).length <= (zam o).length + 1 := by
   rw [h2];split
   . exact (zg5 (zfh h) _).2.1
   . have := (zdZ (zfh h) c.key).2; omega
  rw [List.foldl_cons, zlC];omega
theorem zd3 (kb : Nat) (w : World) : Calls Tryz.prog 73 #[.pointer none, .map (some kb)] w fun e w' => e = .returned (.tuple #[]) /\ w' = w := by
 go_enter Tryz.func73, Tryz.ntmps73;go_wp2;refine bodyPost_ret (v := .tuple #[]) (by simp [results, Tryz.results73, go_sem]) rfl ?_;exact ⟨rfl, rfl⟩
theorem zhw (base kb : Nat) (o : Option AT) (w : World) (h : ∀ t, o = some t -> Lies base w t /\ zeI t.nd /\ t.nd.pre.length <= 900000) (hM : MapS w kb 0 (fun _ => none)) :
  Calls Tryz.prog 73 #[rootV o, .map (some kb)] w fun e w' => e = .returned (.tuple #[]) /\ (∃ m, MapS w' kb m (zcE (ndO o))) /\ w.grownBy w' (some kb) := by
 cases o with
 | none => refine (zd3 kb w).mono ?_;rintro e w' ⟨rfl, rfl⟩;exact ⟨rfl, ⟨0, hM⟩, zbP (Below.refl _ _) _⟩
 | some t => obtain ⟨h1, h2, h3⟩ := h t rfl;refine (zhN base kb t w 0 _ h1 h2 hM (by omega)).mono ?_;rintro e w' ⟨rfl, a1, a2⟩;exact ⟨rfl, ⟨_, a1⟩, a2⟩
structure ComS (w W : World) (C : Array Value) (N B1 Z km : Nat) (f : ByteArray -> Option Int) (fo : Option Addr) (fc : Nat) (tv : Value) (un : Nat) (p : Plc) (used : List Int) (o : Option AT) : Prop where
 xN : Bx W N C 33
 xR : Bx W (N + 1) ixZ 33
 below : Below w.heap.size w W
 pl : PlS W B1 (Z + 1 + 1) Z (Z + 1) km f fo fc tv un p used
 tr : ∀ t, o = some t -> Lies B1 W t /\ t.fp.Nodup
 b1 : B1 <= W.heap.size
 hN : N + 1 < B1
 hw : w.heap.size = N
 hZ : B1 <= Z
theorem zeV {o : Option AT} {y : Nat} : y ∈ fpO o ↔ ∃ t, o = some t /\ y ∈ t.fp := by
 cases o with
 | none => simp [fpO]
 | some t => simp [fpO]
section
variable {w W W' : World} {C : Array Value} {N B1 Z km : Nat} {f : ByteArray -> Option Int} {fo : Option Addr} {fc : Nat} {tv : Value} {un : Nat} {p : Plc} {used : List Int} {o o' : Option AT}
theorem ComS.next (h : ComS w W C N B1 Z km f fo fc tv un p used o) (hb : Below W.heap.size W W') : ComS w W' C N B1 Z km f fo fc tv un p used o :=
 ⟨h.xN.belowAll hb, h.xR.belowAll hb, btr h.below hb, h.pl.keep ((KeepB.refl [] W).of_below hb) (by simp) h.b1 (by simp) (by simp) (by simp) (by simp), fun t ht => ⟨(h.tr t ht).1.staysAll hb, (h.tr t ht).2⟩, znT h.b1 hb.size, h.hN, h.hw, h.hZ⟩
theorem ComS.fpO_ge (h : ComS w W C N B1 Z km f fo fc tv un p used o) : ∀ y ∈ fpO o, B1 <= y := fun y hy => by
 obtain ⟨t, ht, hy⟩ := zeV.1 hy;exact ((h.tr t ht).1.lt y hy).1
theorem ComS.root (h : ComS w W C N B1 Z km f fo fc tv un p used o) {r : Option Nd} {e : Ending} (hr : RootR B1 W o r e W') : ∃ o', e = .returned (rootV o') /\ o'.map (fun t => t.nd.er) = r /\ ComS w W' C N B1 Z km f fo fc tv un p used o' := by
 obtain ⟨o', he, ht, her, -, hK⟩ := hr;have hge := h.fpO_ge;have hN := h.hN;have hnot : ∀ b, b < B1 -> b ∉ fpO o := fun b hb hm => by have := hge b hm; omega
 have hap : ∀ t, o = some t -> Z + 1 + 1 ∉ t.fp /\ Z ∉ t.fp /\ Z + 1 ∉ t.fp /\ (∀ g, tv.ownBlock = some g -> g ∉ t.fp) := fun t ht => by obtain ⟨a1, a2, a3, a4, -⟩ := h.pl.apart (h.tr t ht).1;exact ⟨a1, a2, a3, a4⟩
 refine ⟨o', he, her, hK.bx h.xN (hnot N (by omega)), hK.bx h.xR (hnot _ (by omega)), hK.below h.below h.below.size (fun b hb => ?_), ?_, ht, znT h.b1 hK.2.2.2.1, h.hN, h.hw, h.hZ⟩
 . have := hge b hb; have := h.hw; omega
 .
  refine h.pl.keep hK hge h.b1 (fun hm => ?_) (fun hm => ?_) (fun hm => ?_) (fun g hg hm => ?_)
  . obtain ⟨t, ht, hy⟩ := zeV.1 hm; exact (hap t ht).1 hy
  . obtain ⟨t, ht, hy⟩ := zeV.1 hm; exact (hap t ht).2.1 hy
  . obtain ⟨t, ht, hy⟩ := zeV.1 hm; exact (hap t ht).2.2.1 hy
  . obtain ⟨t, ht, hy⟩ := zeV.1 hm; exact (hap t ht).2.2.2 g hg hy
end
theorem zcP : ∀ (ops : List DOp) (d : Dsk), (perfP d ops).1.cache.length <= d.cache.length + ops.length
 | [], d => by rw [perfP]; simp
 | o :: ops, d => by
  rw [perfP];have h := zda (d := d) (o := o);split
  . rw [zlC]; omega
  . have := zcP ops (opP d o).1;rw [zlC]; omega
def hdW (x : Ix) (root : Int) : PW := ⟨x.frm + (x.ver + 1).tmod 2, bs (hdrL 512 (x.ver + 1).toNat root.toNat)⟩
theorem zgk (x : Ix) (root : Int) : zaA x [] root = wrOps [hdW x root] := rfl
theorem zcI {x : Ix} {ws : List PW} (root : Int) (h : ws ≠ []) : zaA x ws root = wrOps ws ++ wrOps [hdW x root] := by
 unfold zaA;rw [if_neg h];rfl
theorem zeq {x : Ix} {ws : List PW} (root : Int) (h : ws ≠ []) {D : Dsk} {e : Int} (hp : perfP x.disk (wrOps ws) = (D, e)) (he : e ≠ 0) : perfP x.disk (zaA x ws root) = (D, e) := by
 rw [zcI root h, zg6, hp, if_pos he]
theorem ze0 {x : Ix} {ws : List PW} (root : Int) (h : ws ≠ []) {D : Dsk} (hp : perfP x.disk (wrOps ws) = (D, 0)) : perfP x.disk (zaA x ws root) = perfP D (wrOps [hdW x root]) := by
 rw [zcI root h, zg6, hp, if_neg (by simp)]
def slO : Value -> Option Addr | .slice o _ _ => o | _ => none
def slC : Value -> Nat | .slice _ _ c => c | _ => 0
def annFr (L : List Int) : Ann := ⟨fun r => .slice (slO (r.x 0)) L.length (slC (r.x 0)), fun r W => SlW (slO (r.x 0)) L.length (slC (r.x 0)) /\ IntsT W (slO (r.x 0)) L⟩
theorem lz_fr {f : FuncId} {args : Array Value} {L : List Int} {W : World} (h : Calls Tryz.prog f args W fun e w' => ∃ o c, e = .returned (.slice o L.length c) /\ w'.ownsRow W.heap.size 3 1 (.slice o L.length c) L.length (intsV L) /\ Below W.heap.size W w') :
  Calls Tryz.prog f args W fun e w' => ∃ u, e = .returned u /\ zcM (annFr L) W u w' :=
 h.mono fun _ w' ⟨o, c, he, ho, hb⟩ => ⟨_, he, hb, fun _ => .slice o L.length c, rfl, fun w'' hb' => ⟨by
  obtain ⟨o', c', e, hs, -, -⟩ := zag ho;obtain ⟨rfl, rfl⟩ : o = o' /\ c = c' := by simpa using e
  exact hs, (IntsT.own ho).below hb'⟩⟩
def annNx (frm til ver : Int) (L : List Int) : Ann := ⟨fun r => .agg #[.int .i64 0, .slice none 0 0, .slice none 0 0, .int .i64 0, .int .i64 frm, .int .i64 til, .int .i64 ver, .int .i64 0, .slice (slO (r.x 0)) L.length (slC (r.x 0))], fun r W => SlW (slO (r.x 0)) L.length (slC (r.x 0)) /\ IntsT W (slO (r.x 0)) L⟩
def zhp (t : TypeId) (cs : Array Value) : Ann := ⟨fun r => .pointer (some ⟨r.lo, 0, none⟩), fun r W => Bx W r.lo cs t⟩
theorem zmo {cs : Array Value} {t : TypeId} (w : World) : zcM (zhp t cs) w (.pointer (some ⟨w.heap.size, 0, none⟩)) (w.alloc (.cells cs t)) :=
 ⟨Below.one _ _, fun _ => undef, rfl, fun _ hb => (Bx.new w cs t).belowAll hb⟩
structure TailS (w W : World) (C CP : Array Value) (N pb : Nat) (o : Option Addr) (c : Nat) (ws : List PW) : Prop where
 xN : Bx W N C 33
 xR : Bx W (N + 1) ixZ 33
 xP : Bx W pb CP 121
 below : Below w.heap.size w W
 pw : PWsAt (· < W.heap.size) W o ws
 hw : w.heap.size = N
theorem PWsAt.only {w w' : World} {o : Option Addr} {l : List PW} {r : Nat} {cs : Array Value} {t : TypeId} (h : PWsAt (· < w.heap.size) w o l) (hx : Bx w r cs t) (hn : NoS cs) (ho : Only r w w') : PWsAt (· < w'.heap.size) w' o l := by
 have h2 := h.apart hx hn;refine PWsAt.mono (S := fun b => b < w.heap.size /\ b ≠ r) ?_ (fun b hb => znL hb.1 ho.1);intro i hi;obtain ⟨b, off, e, hc, hd, hs⟩ := h2 i hi;have e1 := ho.2 b hs.2;exact ⟨b, off, e, by rw [<- hc]; simp [World.cell?, e1], by rw [<- hd]; simp [World.cell?, e1], hs⟩
section
variable {w W W' : World} {C CP : Array Value} {N pb : Nat} {o : Option Addr} {c : Nat} {ws : List PW}
theorem TailS.next (h : TailS w W C CP N pb o c ws) (hb : Below W.heap.size W W') : TailS w W' C CP N pb o c ws :=
 ⟨h.xN.belowAll hb, h.xR.belowAll hb, h.xP.belowAll hb, btr h.below hb, (h.pw.below hb).mono fun _ hy => znL hy hb.size, h.hw⟩
theorem TailS.only (h : TailS w W C CP N pb o c ws) {r : Nat} {cs : Array Value} {t : TypeId} (hx : Bx W r cs t) (hn : NoS cs) (ho : Only r W W') (hb : Below w.heap.size w W') (h1 : r ≠ N) (h2 : r ≠ N + 1) (h3 : r ≠ pb) : TailS w W' C CP N pb o c ws :=
 ⟨h.xN.only ho (fun e => h1 e.symm), h.xR.only ho (fun e => h2 e.symm), h.xP.only ho (fun e => h3 e.symm), hb, h.pw.only hx hn ho, h.hw⟩
end
end Go.Proofs.YtlefmmhlpgmbjaaGreat
