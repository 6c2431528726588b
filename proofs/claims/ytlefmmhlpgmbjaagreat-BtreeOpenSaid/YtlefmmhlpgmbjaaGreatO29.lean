/- Plain laws of layer 42: placing; a commit as a step of an index in good order. No function of the program is named here. btree.Scan: program's side. Plain laws of layer 42: lookups in a tree are lookups in its pairs; pairs after changes; what the statements' Changes and After return. No function of the program is named here. law 42's example, plain: a tree of four keys, one of them removed again. No function of the program is named here. -/
import Derived.Test.YtlefmmhlpgmbjaaGreatO28
import Derived.Test.YtlefmmhlpgmbjaaGreatO26
import Derived.Test.YtlefmmhlpgmbjaaGreatO12
import Derived.OwnWalkIn
import Derived.Test.YtlefmmhlpgmbjaaGreatO01
namespace Go.Proofs.YtlefmmhlpgmbjaaGreat
set_option maxRecDepth 100000
open Go.RowKit
def PlcL (look : List UInt8 -> Option Int) (p q : Plc) (l : List Nd) : Prop :=
 ∃ new : List PW, q.ws = p.ws ++ new /\ p.free = new.map PW.page ++ q.free /\ (∀ m ∈ l, look (encD m) = some m.page \/ (⟨m.page, bs (encD m)⟩ : PW) ∈ new) /\ ∀ w ∈ new, ∃ m ∈ l, w = ⟨m.page, bs (encD m)⟩
theorem PlcL.trans {look : List UInt8 -> Option Int} {p q r : Plc} {l m : List Nd} (h : PlcL look p q l) (k : PlcL look q r m) : PlcL look p r (l ++ m) := by
 obtain ⟨a, a1, a2, a3, a4⟩ := h;obtain ⟨b, b1, b2, b3, b4⟩ := k;refine ⟨a ++ b, by rw [b1, a1, List.append_assoc], by rw [a2, b2, List.map_append, List.append_assoc], fun x hx => ?_, fun w hw => ?_⟩
 .
  rcases zmA.1 hx with hx | hx
  . exact (a3 x hx).imp id fun h => List.mem_append_left _ h
  . exact (b3 x hx).imp id fun h => List.mem_append_right _ h
 .
  rcases zmA.1 hw with hw | hw
  . obtain ⟨m, hm, e⟩ := a4 w hw; exact ⟨m, List.mem_append_left _ hm, e⟩
  . obtain ⟨m, hm, e⟩ := b4 w hw; exact ⟨m, List.mem_append_right _ hm, e⟩
theorem PlcL.perm {look : List UInt8 -> Option Int} {p q : Plc} {l m : List Nd} (h : PlcL look p q l) (hm : ∀ x, x ∈ m ↔ x ∈ l) : PlcL look p q m := by
 obtain ⟨a, a1, a2, a3, a4⟩ := h;exact ⟨a, a1, a2, fun x hx => a3 x ((hm x).1 hx), fun w hw => by obtain ⟨y, hy, e⟩ := a4 w hw; exact ⟨y, (hm y).2 hy, e⟩⟩
theorem zfq {look : List UInt8 -> Option Int} {ks : List Nd} (ih : ∀ k ∈ ks, ∀ p n' q, za4 look k p = some (n', q) -> PlcL look p q n'.pre) :
  ∀ {p : Plc} {ks' : List Nd} {q : Plc}, zaX look ks p = some (ks', q) -> PlcL look p q (ks'.map Nd.pre).flatten := by
 induction ks with
 | nil => intro p ks' q h;rw [zaX] at h;simp only [Option.some.injEq, Prod.mk.injEq] at h;obtain ⟨rfl, rfl⟩ := h;exact ⟨[], by simp, by simp, fun m hm => by simp at hm, fun m hm => by cases hm⟩
 | cons k ks ihl =>
  intro p ks' q h;rw [zaX] at h;split at h
  . cases h
  .
   rename_i n1 q1 h1
   obtain ⟨⟨m, q2⟩, hm, e⟩ := Option.map_eq_some_iff.1 h;simp only [Prod.mk.injEq] at e;obtain ⟨rfl, rfl⟩ := e;rw [List.map_cons, List.flatten_cons];exact (ih k (by simp) _ _ _ h1).trans (ihl (fun x hx => ih x (by simp [hx])) hm)
theorem zdv {look : List UInt8 -> Option Int} : ∀ (n : Nd) (p : Plc) (n' : Nd) (q : Plc), za4 look n p = some (n', q) -> PlcL look p q n'.pre := by
 intro n
 induction n using Nd.ind with
 | h ps kids page ih =>
  intro p n' q h;rw [zbj] at h;simp only [Nd.kids, Nd.ps] at h;split at h
  . cases h
  .
   rename_i ks q1 h1
   have b1 := zfq ih h1;split at h
   .
    rename_i g hg
    simp only [Option.some.injEq, Prod.mk.injEq] at h;obtain ⟨rfl, rfl⟩ := h;have hs : PlcL look q1 q1 [Nd.mk ps ks g] := ⟨[], by simp, by simp, fun m hm => by rw [zmS] at hm;subst hm;exact .inl hg, fun w hw => by cases hw⟩
    refine (b1.trans hs).perm fun x => ?_;rw [Nd.pre_eq, zmA, zmS, zmC, Or.comm];rfl
   .
    rename_i hlk
    split at h
    . cases h
    .
     rename_i g r hf
     simp only [Option.some.injEq, Prod.mk.injEq] at h;obtain ⟨rfl, rfl⟩ := h;have hs : PlcL look q1 ⟨r, q1.ws ++ [⟨g, bs (encD (.mk ps ks 0))⟩]⟩ [Nd.mk ps ks g] := ⟨[⟨g, bs (encD (.mk ps ks 0))⟩], rfl, by rw [hf]; rfl, fun m hm => by
      rw [zmS] at hm;subst hm;exact .inr (by simp [Nd.page]; rfl), fun w hw => by
      rw [zmS] at hw;exact ⟨_, zmS.2 rfl, hw⟩⟩
     refine (b1.trans hs).perm fun x => ?_;rw [Nd.pre_eq, zmA, zmS, zmC, Or.comm];rfl
theorem zh9 {look : List UInt8 -> Option Int} {ks : List Nd} (ih : ∀ k ∈ ks, ∀ p, za4 look k p = none -> p.free.length < k.pre.length) :
  ∀ {p : Plc}, zaX look ks p = none -> p.free.length < (ks.map Nd.pre).flatten.length := by
 induction ks with
 | nil => intro p h; rw [zaX] at h; cases h
 | cons k ks ihl =>
  intro p h;rw [List.map_cons, List.flatten_cons, zlA];rw [zaX] at h;split at h
  .
   rename_i h1
   have := ih k (by simp) p h1;omega
  .
   rename_i n1 q1 h1
   have h2 := ihl (fun x hx => ih x (by simp [hx])) (Option.map_eq_none_iff.1 h);obtain ⟨new, e1, e2, _, _⟩ := zdv _ _ _ _ h1;have h3 := zdj _ _ _ _ h1;rw [e1, zlA] at h3;rw [e2, zlA, List.length_map];omega
theorem zhE {look : List UInt8 -> Option Int} : ∀ (n : Nd) (p : Plc), za4 look n p = none -> p.free.length < n.pre.length := by
 intro n
 induction n using Nd.ind with
 | h ps kids page ih =>
  intro p h;rw [zbj] at h;rw [Nd.pre_eq, zlC];simp only [Nd.kids, Nd.ps] at h |-;split at h
  .
   rename_i h1
   have := zh9 ih h1;omega
  .
   rename_i ks q1 h1
   obtain ⟨new, e1, e2, _, _⟩ := zfq (fun k _ p n' q hk => zdv k p n' q hk) h1;have h3 := zgZ (fun k _ p n' q hk => zdj k p n' q hk) h1;rw [e1, zlA] at h3;split at h
   . cases h
   .
    split at h
    .
     rename_i hf
     rw [e2, hf, zlA, List.length_map, List.length_nil];omega
    . cases h
def zdN (ps : List Kv) (l : List Chg) : List Kv := l.foldl (fun ps c => if c.hasNew then withP ps (c.key, c.new) else zaq ps c.key) ps
theorem zbU : ∀ {l : List Chg} {o : Option Nd}, OTm o -> (∀ c ∈ l, KvOk (c.key, c.new)) -> zam (l.foldl chg1 o) = zdN (zam o) l
 | [], _, _, _ => rfl
 | c :: l, o, h, hk => by obtain ⟨h1, h2⟩ := ziL h (fun _ => hk c (by simp));rw [List.foldl_cons, zbU h1 fun x hx => hk x (by simp [hx]), h2];rfl
theorem zeM (o : Option Nd) : zam (o.map Nd.er) = zam o := by
 cases o with
 | none => rfl
 | some n => exact Nd.er_prs n
theorem zll {n : Nd} (h : EncOk n) : (encD n).length = 512 := by
 have := zfQ h;unfold encD padZ;rw [zlA, List.length_replicate];omega
theorem zln {a b : Nd} (h : a.er = b.er) (hb : (∃ k, Tm 1 2 k b) /\ Asc b.prs) : (∃ k, Tm 1 2 k a) /\ Asc a.prs := by
 obtain ⟨⟨k, h1⟩, h2⟩ := hb;refine ⟨⟨k, Tm.er_iff.1 (by rw [h]; exact Tm.er_iff.2 h1)⟩, ?_⟩;rw [<- Nd.er_prs a, h, Nd.er_prs b];exact h2
structure PlanS (d : Dsk) (frm til : Int) (t t' : Option Nd) (ws : List PW) (ps : List Kv) : Prop where
 tm : OTm t'
 prs : zam t' = ps
 far : ∀ x ∈ ws, frm + 2 <= x.page /\ x.page < til /\ x.data.size = 512 /\ ∀ m ∈ preO t, m.page ≠ x.page
 nodup : (ws.map PW.page).Nodup
 at_ : ∀ m ∈ preO t', frm + 2 <= m.page /\ m.page < til /\ ((∃ k ∈ preO t, k.page = m.page /\ encD k = encD m) \/ (⟨m.page, bs (encD m)⟩ : PW) ∈ ws)
theorem zfH {t : Option Nd} {s : List UInt8} {g : Int} (h : zcE t (bs s) = some g) : ∃ k ∈ preO t, k.page = g /\ encD k = s := by
 cases t with
 | none => cases h
 | some n =>
  rcases zhc h with h | ⟨m, hm, h1, h2⟩
  . cases h
  . exact ⟨m, hm, h2, znl h1⟩
theorem zj4 {d : Dsk} {frm til : Int} {V : Nat} {t : Option Nd} {g : Int} (h : g ∈ (ixOf d frm til V t).free) : frm + 2 <= g /\ g < til /\ ∀ m ∈ preO t, m.page ≠ g := by
 obtain ⟨h1, h2, h3⟩ := zfc h;refine ⟨h1, h2, fun m hm e => h3 ?_⟩;rw [zgV];exact List.mem_map.2 ⟨m, hm, e⟩
theorem zhb {d : Dsk} {frm til : Int} {V : Nat} {t : Option Nd} (h : OTm t) {l : List Chg} (hk : ∀ c ∈ l, KvOk (c.key, c.new)) (hp : planP (ixOf d frm til V t) t l = none) : (ixOf d frm til V t).free.length < (zdN (zam t) l).length := by
 unfold planP at hp;obtain ⟨f1, _⟩ := zed h.er hk;have f2 := zbU h.er hk;rw [zeM] at f2;cases hT : l.foldl chg1 (t.map Nd.er) with
 | none => rw [hT] at hp; cases hp
 | some n => rw [hT] at hp f1 f2;have h1 := zhE _ _ (Option.map_eq_none_iff.1 hp);obtain ⟨⟨k, h2⟩, _⟩ := f1 n rfl;have h3 := h2.cnt1;simp only at h1;rw [<- f2];simp only [zam];omega
theorem zjJ {d : Dsk} {frm til : Int} {V : Nat} {t : Option Nd} (h : IxS d frm til V t) {l : List Chg} (hk : ∀ c ∈ l, KvOk (c.key, c.new)) {t' : Option Nd} {p : Plc} (hp : planP (ixOf d frm til V t) t l = some (t', p)) : PlanS d frm til t t' p.ws (zdN (zam t) l) := by
 unfold planP at hp;have hb := h.bd;obtain ⟨f1, _⟩ := zed h.tm.er hk;have f2 := zbU h.tm.er hk;rw [zeM] at f2;cases hT : l.foldl chg1 (t.map Nd.er) with
 | none => rw [hT] at hp f2;simp only [Option.some.injEq, Prod.mk.injEq] at hp;obtain ⟨rfl, rfl⟩ := hp;exact ⟨(fun n e => by cases e), f2, (fun x hx => by cases hx), List.nodup_nil, (fun m hm => by cases hm)⟩
 | some n =>
  rw [hT] at hp f1 f2;obtain ⟨⟨n', q⟩, hpl, e⟩ := Option.map_eq_some_iff.1 hp;simp only [Prod.mk.injEq] at e;obtain ⟨rfl, rfl⟩ := e;have her := (zet _ _ _ _ hpl).1;have htm := zln her (f1 n rfl);have hprs : n'.prs = zdN (zam t) l := by rw [<- f2];simp only [zam];rw [<- Nd.er_prs n', her, Nd.er_prs]
  obtain ⟨new, e1, e2, e3, e4⟩ := zdv _ _ _ _ hpl;simp only [List.nil_append] at e1 e2;have hfree : ∀ x ∈ new, frm + 2 <= x.page /\ x.page < til /\ ∀ m ∈ preO t, m.page ≠ x.page := fun x hx => zj4 (V := V) (d := d) (by rw [e2]; exact List.mem_append_left _ (List.mem_map.2 ⟨x, hx, rfl⟩));have hat : ∀ m ∈ n'.pre, frm + 2 <= m.page /\ m.page < til /\ ((∃ k ∈ preO t, k.page = m.page /\ encD k = encD m) \/ (⟨m.page, bs (encD m)⟩ : PW) ∈ new) := fun m hm => by
   rcases e3 m hm with g | g
   . obtain ⟨k, hk1, hk2, hk3⟩ := zfH g;have := h.pages k hk1;exact ⟨by omega, by omega, .inl ⟨k, hk1, hk2, hk3⟩⟩
   . have := hfree _ g;exact ⟨this.1, this.2.1, .inr g⟩
  have hshp : Shp n' := by obtain ⟨⟨k, h1⟩, _⟩ := htm;exact h1.shp (Nat.le_refl _) (Nat.le_refl _)
  refine ⟨fun m e => by cases e; exact htm, hprs, fun x hx => ?_, ?_, ?_⟩
  . rw [e1] at hx;obtain ⟨a, b, c⟩ := hfree x hx;refine ⟨a, b, ?_, c⟩;obtain ⟨m, hm, rfl⟩ := e4 x hx;rw [zaj];refine zll ((zf3 hshp hm).encOk fun c hc => ?_);have := hat c (zha hm (zcd hc (zbo c)));omega
  . rw [e1];have := zgF frm til (usedN t);rw [show zar frm til (usedN t) = (ixOf d frm til V t).free from rfl, e2] at this;exact (List.nodup_append.1 this).1
  . rw [e1];exact hat
structure StepX (d : Dsk) (frm til : Int) (V : Nat) (t t' : Option Nd) (R : Ix × Int) : Prop where
 shape : Shape d R.1.disk
 full : d.left = -1 -> R.2 = 0 /\ R.1.disk.left = -1
 res : (R.2 = 0 /\ IxS R.1.disk frm til (V + 1) t' /\ R.1 = ixOf R.1.disk frm til (V + 1) t') \/
  (R.2 = 18 /\ R.1.disk.left = 0 /\ R.1 = { ixOf d frm til V t with disk := R.1.disk } /\ ∀ picks, IxS (zaT R.1.disk picks) frm til V t \/ IxS (zaT R.1.disk picks) frm til (V + 1) t')
 pages : ∀ k : Nat, k < d.pages.length -> ((k : Int) < frm \/ til <= k) -> pageL R.1.disk k = pageL d k
 cache : ∀ x ∈ R.1.disk.cache, frm <= x.page /\ x.page < til
 few : R.1.disk.cache.length <= 3000
theorem zdo : ∀ {ops : List DOp} {d : Dsk} {x : PW}, chk d = 0 -> (∀ o ∈ ops, zbg d o) -> x ∈ (perfP d ops).1.cache -> x ∈ d.cache \/ DOp.wr x.page x.data ∈ ops
 | [], _, _, _, _, hx => .inl hx
 | o :: r, d, x, h, g, hx => by
  have hs := zbk h (g o (by simp));have hp : ∀ y ∈ (opP d o).1.cache, y ∈ d.cache \/ DOp.wr y.page y.data = o := by
   intro y hy
   by_cases hl : d.left = 0
   . rw [zdp h (g o (by simp)) hl] at hy;exact .inl hy
   .
    cases o with
    | wr i data =>
     rw [zdQ h (g _ (by simp)) hl] at hy;rcases zmA.1 hy with hy | hy
     . exact .inl hy
     . rw [zmS.1 hy]; exact .inr rfl
    | fl => rw [zcJ h hl] at hy;cases hy
  rw [perfP] at hx;split at hx
  .
   rcases hp x hx with h1 | h1
   . exact .inl h1
   . exact .inr (by rw [h1]; simp)
  .
   rcases zdo (ops := r) hs.1 (fun o' ho' => (g o' (by simp [ho'])).of hs.2.2 hs.2.1) hx with h1 | h1
   .
    rcases hp x h1 with h2 | h2
    . exact .inl h2
    . exact .inr (by rw [h2]; simp)
   . exact .inr (by simp [h1])
theorem zi2 {d : Dsk} {frm til : Int} {V : Nat} {t : Option Nd} (ws : List PW) (r : Int) : zaA (ixOf d frm til V t) ws r = (if ws = [] then [] else ws.map wrO ++ [.fl]) ++ [.wr (frm + (((V + 1) % 2 : Nat) : Int)) (bs (hdrL 512 (V + 1) r.toNat)), .fl] := by
 unfold zaA ixOf;simp only;rw [Int.tmod_eq_emod_of_nonneg (by omega)];have : ((V : Int) + 1).toNat = V + 1 := by omega
 rw [this];congr 1
theorem zjF {d : Dsk} {frm til : Int} {V : Nat} {t t' : Option Nd} (h : IxS d frm til V t) (hV : V + 1 <= 200) {ws : List PW} {ps : List Kv} (hp : PlanS d frm til t t' ws ps) {R : Ix × Int} {F : Dsk} {er : Int} (hF : perfP d (zaA (ixOf d frm til V t) ws (rootN t')) = (F, er))
  (hR : R = if er ≠ 0 then ({ ixOf d frm til V t with disk := F }, er) else (ixOf F frm til (V + 1) t', 0)) : StepX d frm til V t t' R := by
 have hb := h.bd;have hc := hb.1;rw [zi2] at hF;have hpageE : ∀ (e : Dsk), (∀ m ∈ preO t, pageL e m.page = pageL d m.page) -> (∀ x ∈ ws, pageL e x.page = x.data.data.toList) -> ∀ m ∈ preO t', frm + 2 <= m.page /\ m.page < til /\ pageL e m.page = encD m := by
  intro e he1 he2 m hm;obtain ⟨a, b, c⟩ := hp.at_ m hm;refine ⟨a, b, ?_⟩;rcases c with ⟨k, hk, e1, e2⟩ | c
  . rw [<- e1, he1 k hk, (h.pages k hk).2.2, e2]
  . have := he2 _ c;simpa using this
 have key : OutX d frm til V t t' F er /\ ∀ k : Nat, k < d.pages.length -> ((k : Int) < frm \/ til <= k) -> pageL F k = pageL d k := by
  have hhdr : ∀ e : Dsk, Shape d e -> ∀ k : Nat, k < e.pages.length -> ((k : Int) < frm \/ til <= k) -> pageL (perfP e [.wr (frm + (((V + 1) % 2 : Nat) : Int)) (bs (hdrL 512 (V + 1) (rootN t').toNat)), .fl]).1 k = pageL e k := by
   intro e hs k hk hk2;have hs2 := hs.2.2;have hs3 := hs.2.1;refine zdc hs.1 (fun o ho => ?_) hk fun i data hm => ?_
   .
    rcases zmC.1 ho with rfl | ho
    . exact ⟨by omega, by omega, by rw [zaj, zbt (by decide)]; omega⟩
    . rw [zmS.1 ho]; trivial
   .
    rcases zmC.1 hm with e | e
    . simp only [DOp.wr.injEq] at e; rw [e.1]; omega
    . rw [zmS] at e; cases e
  by_cases hw : ws = []
  . rw [if_pos hw, List.nil_append] at hF;have := zgB h hV hp.tm (hpageE d (fun _ _ => rfl) (fun x hx => by rw [hw] at hx; cases hx));rw [hF] at this;refine ⟨this, fun k hk hk2 => ?_⟩;have := hhdr d (.refl hc) k hk hk2;rw [hF] at this;exact this
  .
   rw [if_neg hw, zcB] at hF;obtain ⟨hsh, hleft, hres, helse⟩ := zl4 h hp.far hp.nodup rfl;have hfar : ∀ k : Nat, k < d.pages.length -> ((k : Int) < frm \/ til <= k) -> pageL (perfP d (ws.map wrO ++ [.fl])).1 k = pageL d k := fun k hk hk2 => helse k hk fun x hx e => by have := hp.far x hx; omega
   rcases hres with ⟨he, hS, hT⟩ | ⟨he, hl0, hcr⟩
   .
    rw [if_neg (by simp [he])] at hF;have hold : ∀ m ∈ preO t, pageL (perfP d (ws.map wrO ++ [.fl])).1 m.page = pageL d m.page := fun m hm => by have := h.pages m hm;rw [(hS.pages m hm).2.2, this.2.2]
    have := zgB hS hV hp.tm (hpageE _ hold hT);rw [hF] at this;obtain ⟨o1, o2, o3⟩ := this;refine ⟨⟨hsh.trans o1, fun e => o2 (hleft e).2, o3⟩, fun k hk hk2 => ?_⟩;have h2 := hhdr _ hsh k (by rw [hsh.2.2]; exact hk) hk2;rw [hF] at h2;rw [h2];exact hfar k hk hk2
   .
    rw [if_pos (by rw [he]; decide)] at hF;have e1 : (perfP d (ws.map wrO ++ [.fl])).1 = F := by rw [hF]
    have e2 : (perfP d (ws.map wrO ++ [.fl])).2 = er := by rw [hF]
    rw [e1] at hsh hl0 hcr hfar hleft;rw [e2] at he hleft;exact ⟨⟨hsh, fun e => by have := (hleft e).1; rw [he] at this; exact absurd this (by decide), .inr ⟨he, hl0, fun picks => .inl (hcr picks)⟩⟩, hfar⟩
 obtain ⟨⟨h1, h2, h3⟩, h4⟩ := key;have hcache : ∀ y ∈ F.cache, frm <= y.page /\ y.page < til := by
  intro y hy;have hgood : ∀ o ∈ ((if ws = [] then [] else ws.map wrO ++ [DOp.fl]) ++ [DOp.wr (frm + (((V + 1) % 2 : Nat) : Int)) (bs (hdrL 512 (V + 1) (rootN t').toNat)), .fl]), zbg d o := by
   intro o ho;rcases zmA.1 ho with ho | ho
   .
    split at ho
    . cases ho
    .
     rcases zmA.1 ho with ho | ho
     . obtain ⟨x, hx, rfl⟩ := List.mem_map.1 ho;have := hp.far x hx;exact ⟨by omega, by omega, by omega⟩
     . rw [zmS.1 ho]; trivial
   .
    rcases zmC.1 ho with rfl | ho
    . exact ⟨by omega, by omega, by rw [zaj, zbt (by decide)]; omega⟩
    . rw [zmS.1 ho]; trivial
  have hy' : y ∈ (perfP d ((if ws = [] then [] else ws.map wrO ++ [DOp.fl]) ++ [DOp.wr (frm + (((V + 1) % 2 : Nat) : Int)) (bs (hdrL 512 (V + 1) (rootN t').toNat)), .fl])).1.cache := by rw [hF]; exact hy
  rcases zdo hc hgood hy' with hm | hm
  . rw [h.empty] at hm; cases hm
  .
   rcases zmA.1 hm with hm | hm
   .
    split at hm
    . cases hm
    .
     rcases zmA.1 hm with hm | hm
     . obtain ⟨x, hx, e⟩ := List.mem_map.1 hm;simp only [wrO, DOp.wr.injEq] at e;have := hp.far x hx;omega
     . rw [zmS] at hm; cases hm
   .
    rcases zmC.1 hm with e | e
    . simp only [DOp.wr.injEq] at e; omega
    . rw [zmS] at e; cases e
 have hfew : F.cache.length <= 3000 := by
  have h5 := zcP ((if ws = [] then [] else ws.map wrO ++ [DOp.fl]) ++ [DOp.wr (frm + (((V + 1) % 2 : Nat) : Int)) (bs (hdrL 512 (V + 1) (rootN t').toNat)), .fl]) d;rw [hF, h.empty] at h5;have h6 := zc6 (til - frm - 2).toNat (ws.map PW.page) (frm + 2) hp.nodup fun x hx => by obtain ⟨y, hy, rfl⟩ := List.mem_map.1 hx;have := hp.far y hy;omega
  rw [List.length_map] at h6;have h7 : (if ws = [] then [] else ws.map wrO ++ [DOp.fl]).length <= ws.length + 1 := by split <;> simp
  simp only [zlA, zlC, List.length_nil] at h5;omega
 by_cases he : er = 0
 .
  rw [if_neg (by simp [he])] at hR;subst hR;refine ⟨h1, fun e => ⟨rfl, (h2 e).2⟩, .inl ⟨rfl, ?_, rfl⟩, h4, hcache, hfew⟩;rcases h3 with h3 | h3
  . exact h3.2
  . rw [he] at h3; exact absurd h3.1 (by decide)
 .
  rw [if_pos he] at hR;subst hR;refine ⟨h1, fun e => absurd (h2 e).1 he, .inr ?_, h4, hcache, hfew⟩;rcases h3 with h3 | h3
  . exact absurd h3.1 he
  . exact ⟨h3.1, h3.2.1, rfl, h3.2.2⟩
theorem zfw {d : Dsk} {frm til : Int} {V : Nat} {t : Option Nd} (h : IxS d frm til V t) (hV : V + 1 <= 200) (l : List Chg) :
  (chgsE none l ≠ 0 /\ zap (ixOf d frm til V t) l = (zeroX, chgsE none l)) \/
  (chgsE none l = 0 /\ l.any (za1 t) = true /\ zap (ixOf d frm til V t) l = (zeroX, 15)) \/
  (chgsE none l = 0 /\ l.any (za1 t) = false /\ l = [] /\ zap (ixOf d frm til V t) l = (ixOf d frm til V t, 0)) \/
  (chgsE none l = 0 /\ l.any (za1 t) = false /\ l ≠ [] /\ (ixOf d frm til V t).free.length < (zdN (zam t) l).length /\ zap (ixOf d frm til V t) l = (zeroX, 17)) \/
  (chgsE none l = 0 /\ l.any (za1 t) = false /\ l ≠ [] /\ ∃ t' p, planP (ixOf d frm til V t) t l = some (t', p) /\ OTm t' /\ zam t' = zdN (zam t) l /\ StepX d frm til V t t' (zap (ixOf d frm til V t) l)) := by
 have hv : zaz (ixOf d frm til V t) = some t := by rw [zgq]; exact h.valid
 by_cases hc : chgsE none l = 0
 .
  right;cases hcl : l.any (za1 t) with
  | true => exact .inl ⟨hc, rfl, zbi hv hc hcl⟩
  | false =>
   right
   by_cases h0 : l = []
   . subst h0; exact .inl ⟨hc, rfl, rfl, zeS hv⟩
   .
    right;have hk : ∀ c ∈ l, KvOk (c.key, c.new) := fun c hc' => (zcw hc c hc').1;have hver : (ixOf d frm til V t).ver ≠ 1099511627776 := by have := h.small; show (V : Int) ≠ _; omega
    rcases hp : planP (ixOf d frm til V t) t l with _ | r
    . exact .inl ⟨hc, rfl, h0, zhb h.tm hk hp, zbO hv hc hcl h0 (.inl hp)⟩
    . obtain ⟨t', p⟩ := r;obtain ⟨F, er, hF⟩ : ∃ F er, perfP d (zaA (ixOf d frm til V t) p.ws (rootN t')) = (F, er) := ⟨_, _, rfl⟩;have hps := zjJ h hk hp;refine .inr ⟨hc, rfl, h0, t', p, rfl, hps.tm, hps.prs, zjF h hV hps hF ?_⟩;exact zbI hv hc hcl h0 hp hver hF
 . exact .inl ⟨hc, zer hv hc⟩
theorem fmt_X {d : Dsk} {frm til : Int} (h : (fmtX d frm til).2 = 0) : IxS (fmtX d frm til).1 frm til 1 none /\ Shape d (fmtX d frm til).1 /\ (d.left = -1 -> (fmtX d frm til).1.left = -1) /\
  ∀ k : Nat, k < d.pages.length -> ((k : Int) < frm \/ til <= k) -> pageL (fmtX d frm til).1 k = pageL d k := by
 by_cases hf : fitX d frm til = 0
 .
  unfold fmtX at h |-;rw [if_neg (by simp [hf])] at h |-;have hfz := zf1 hf;have hc := hfz.1;obtain ⟨ops, hops⟩ : ∃ ops, [DOp.wr frm (bs (padZ [])), .wr (frm + 1) (bs (hdrL 512 1 0)), .fl] = ops := ⟨_, rfl⟩;rw [hops] at h |-;have hz : padZ [] = List.replicate 512 0 := rfl;have hgood : ∀ o ∈ ops, zbg d o := by
   intro o ho;rw [<- hops] at ho;rcases zmC.1 ho with rfl | ho
   . exact ⟨by omega, by omega, by rw [zaj, hz, List.length_replicate]; omega⟩
   .
    rcases zmC.1 ho with rfl | ho
    . exact ⟨by omega, by omega, by rw [zaj, zbt (by decide)]; omega⟩
    . rw [zmS.1 ho]; trivial
  have hsh := (zbX (ops := ops) hc hgood).1;have hmem : ∀ i data, DOp.wr i data ∈ ops -> (i = frm /\ data = bs (padZ [])) \/ (i = frm + 1 /\ data = bs (hdrL 512 1 0)) := by
   intro i data hm;rw [<- hops] at hm;rcases zmC.1 hm with e | hm
   . simp only [DOp.wr.injEq] at e; exact .inl e
   .
    rcases zmC.1 hm with e | hm
    . simp only [DOp.wr.injEq] at e; exact .inr e
    . rw [zmS] at hm; cases hm
  obtain ⟨q, rfl⟩ : ∃ q : Nat, frm = q := ⟨frm.toNat, by omega⟩;have p0 : pageL (perfP d ops).1 q = List.replicate 512 0 := by
   refine zd7 hc hgood (by omega) h (fun i data hm e => ?_) (.inr ⟨q, _, by rw [<- hops]; exact List.mem_cons_self, rfl⟩);rcases hmem i data hm with ⟨_, e2⟩ | ⟨e1, _⟩
   . rw [e2, za8, hz]
   . omega
  have p1 : pageL (perfP d ops).1 ((q : Int) + 1) = hdrL 512 1 0 := by
   have : ((q : Int) + 1) = ((q + 1 : Nat) : Int) := by omega
   rw [this];refine zd7 hc hgood (by omega) h (fun i data hm e => ?_) (.inr ⟨(q : Int) + 1, bs (hdrL 512 1 0), by rw [<- hops]; exact List.mem_cons_of_mem _ List.mem_cons_self, by omega⟩);rcases hmem i data hm with ⟨e1, _⟩ | ⟨_, e2⟩
   . omega
   . rw [e2, za8]
  have hlast : (perfP d ops).1.cache = [] /\ (d.left = -1 -> (perfP d ops).1.left = -1) := by
   have hsplit : ops = [(⟨q, bs (padZ [])⟩ : PW), ⟨(q : Int) + 1, bs (hdrL 512 1 0)⟩].map wrO ++ [.fl] := hops.symm;have hg2 : ∀ x ∈ [(⟨q, bs (padZ [])⟩ : PW), ⟨(q : Int) + 1, bs (hdrL 512 1 0)⟩], zbg d (wrO x) := fun x hx => hgood _ (by rw [hsplit]; exact List.mem_append_left _ (List.mem_map.2 ⟨x, hx, rfl⟩));obtain ⟨j, _, _, _, hres⟩ := zhY _ hc hg2;have hsh1 := (zbX (ops := [(⟨q, bs (padZ [])⟩ : PW), ⟨(q : Int) + 1, bs (hdrL 512 1 0)⟩].map wrO) hc (fun o ho => hgood o (by rw [hsplit]; exact List.mem_append_left _ ho))).1;rw [hsplit, zcB] at h |-;generalize perfP d ([(⟨q, bs (padZ [])⟩ : PW), ⟨(q : Int) + 1, bs (hdrL 512 1 0)⟩].map wrO) = P at h hres hsh1 |-;rcases hres with ⟨he, _, hlf⟩ | ⟨he, _, _⟩
   .
    rw [if_neg (by simp [he])] at h |-
    by_cases hl : P.1.left = 0
    . rw [zbS hsh1.1 (by intro o ho; rw [zmS.1 ho]; trivial) hl (by simp)] at h;cases h
    . have hfl := zcJ hsh1.1 hl;rw [zcl (by rw [hfl]), perfP, hfl];refine ⟨rfl, fun e => ?_⟩;have := hlf e;simp only;unfold opD;simp only;rw [if_neg (by omega)];exact this
   . rw [if_pos (by rw [he]; decide), he] at h;cases h
  refine ⟨⟨zdr hf hsh, hlast.1, Nat.le_refl 1, by omega, p1, ?_, (fun n e => by cases e), (fun m hm => by cases hm)⟩, hsh, hlast.2, fun k hk hk2 => ?_⟩
  .
   have : pageL (perfP d ops).1 ((q : Int) + (((1 + 1) % 2 : Nat) : Int)) = List.replicate 512 0 := by rw [<- p0]; simp
   rw [this];exact zlE (by decide) (Nat.le_refl 1)
  . refine zdc hc hgood hk fun i data hm => ?_;rcases hmem i data hm with ⟨e, _⟩ | ⟨e, _⟩ <;> omega
 . unfold fmtX at h;rw [if_pos hf] at h;exact absurd h hf
end Go.Proofs.YtlefmmhlpgmbjaaGreat
namespace Go.Proofs.YtlefmmhlpgmbjaaGreat
set_option maxRecDepth 100000
open Go.RowKit Go.Shelf
attribute [local go_sem] Oper.semAt_some
theorem zd0 {A B : World} {row : Option Nat} {base : Nat} {e : TypeId} {m : Nat} {v : Value} {n : Nat} {xs : List Value} (hs : A.ownsRow base e m v n xs) (hg : A.grownBy B row) (hr : ∀ r, row = some r -> ∃ o : Obj, A.heap[r]? = some o /\ o.isCells = false) : B.ownsRow base e m v n xs := by
 refine hs.kept hg ?_
 by_cases h : v.ownBlock = none
 . exact .inl h
 .
  refine .inr fun e => ?_;rcases hs.2 with ⟨rfl, _⟩ | ⟨g, cap, cur, rfl, _, hgg, _⟩
  . exact h rfl
  . obtain ⟨o, ho, hc⟩ := hr g (by rw [<- e]; rfl);rw [hgg] at ho;cases ho;cases hc
theorem zkw : ByteArray.empty.toList = [] := by rw [ByteArray.toList_eq]; rfl
theorem zdP {w w' : World} {base size n : Nat} {e : TypeId} {v : Value} {xs : List Value} (ho : w.ownsRow base e size v n xs) (hg : w.grownBy w' v.ownBlock) : KeepsOthers w w' := by
 refine ⟨hg.size, fun k o hk hc => (hg.block k (Array.getElem?_eq_some_iff.1 hk).1 fun e => ?_).trans hk⟩;rcases ho.2 with ⟨rfl, _⟩ | ⟨g, cap, cur, rfl, _, hgg, _⟩
 . simp [Value.ownBlock] at e
 . simp [Value.ownBlock] at e;subst e;rw [hgg] at hk;cases hk;cases hc
def inB (low high : ByteArray) (x : Kv) : Bool := !kLt x.1 low && (decide (high = ByteArray.empty) || kLt x.1 high)
theorem zjq (l : List Kv) (x : Kv) (low high : ByteArray) : scanP (l ++ [x]) low high = scanP l low high ++ (if inB low high x then [x] else []) := by
 unfold scanP inB;rw [List.filter_append, List.filter_cons, List.filter_nil]
theorem zjY (l : List Kv) (low high : ByteArray) : (scanP l low high).length <= l.length := List.length_filter_le _ _
def zkC (w : World) (base : Nat) (v : Value) (l : List Kv) : Prop := w.ownsRow base 77 2 v l.length (kvsC l)
def zdT (x : Ix) (low high : ByteArray) : List Kv × Int :=
 match zaz x with
 | none => ([], 1)
 | some t => (scanP (zam t) low high, 0)
def zf7 (r : List Kv × Int) (w : World) (e : Ending) (w' : World) : Prop := Below w.heap.size w w' /\ ∃ v, e = .returned (.tuple #[v, .int .i64 r.2]) /\ zkC w' w.heap.size v r.1
set_option maxRecDepth 100000 in
set_option maxHeartbeats 4000000 in
theorem zmx (x : Ix) (v : Value) (low high : ByteArray) (w : World) (hx : IxV w v x) (hpl : ∀ t, zaz x = some t -> (zam t).length <= 1000000) :
  Calls Tryz.prog 22 #[v, .string low, .string high] w (zf7 (zdT x low high) w) := by
 have hx0 := hx;obtain ⟨po, pc, co, cc, fo, fc, rfl, -, -, -⟩ := hx;obtain ⟨ip, hip, hz0, hz1, hz2⟩ := info_parts zbv;have Hi := zhI (zaI hip (zaI hz0 (zaI hz1 hz2)));clear hip hz0 hz1 hz2;obtain ⟨R, hR⟩ : ∃ R, zf7 (zdT x low high) w = R := ⟨_, rfl⟩;rw [hR];have HR := zhI hR;obtain ⟨N, hN⟩ : ∃ N, w.heap.size = N := ⟨_, rfl⟩;obtain ⟨IC, hIC⟩ : ∃ IC, ixC x.disk po co pc cc x.frm x.til x.ver x.root fo x.free.length fc = IC := ⟨_, rfl⟩;obtain ⟨W0, hW0⟩ : ∃ W0, ((w.alloc (.cells (ixC x.disk po co pc cc x.frm x.til x.ver x.root fo x.free.length fc) 33)).alloc (.cells #[.string low] 9)).alloc (.cells #[.string high] 9) = W0 := ⟨_, rfl⟩;have hB0 : Below w.heap.size w W0 := by subst hW0; exact ((Below.one w _).alloc (by simp) _).alloc (by simp; omega) _
 have xI : Bx W0 N (ixC x.disk po co pc cc x.frm x.til x.ver x.root fo x.free.length fc) 33 := by subst hW0 hN; exact ((Bx.new w _ _).alloc _).alloc _
 have xl : Bx W0 (N + 1) #[.string low] 9 := by subst hW0 hN; exact (Bx.newAt _ _ _ _ (by simp)).alloc _
 have xh : Bx W0 (N + 1 + 1) #[.string high] 9 := by subst hW0 hN; exact Bx.newAt _ _ _ _ (by simp)
 have htr := zkU x _ _ (hx0.below hB0);have Htr := zhI htr;have cX := xI.cell;have lX := xI.lt;unfold ixC at cX hW0;clear htr hx0 hR xI hIC IC;obtain ⟨n, hn⟩ : ∃ n, 9 <= n := ⟨9, Nat.le_refl _⟩;refine (callsIn_wide (n := n)).1 ?_;have hro : Fence.wide.round = none := rfl;have h1 : 1 <= n := by omega
 refine callsIn_of_wp_marks Tryz.func22 rfl trivial ?_ hro;simp only [Tryz.ntmps22, List.size_toArray, zlC, List.length_nil, Nat.reduceAdd, Nat.reduceSub, Array.replicate_succ, Array.replicate_zero, List.push_toArray, List.append_toArray, List.nil_append, List.cons_append];gi_wp2_with fail;refine ⟨trivial, ?_⟩;refine (callsIn_wide.2 Htr.out).mono ?_;rintro e W4 ⟨hb4, hres⟩;have hB4 := btr hB0 hb4;have yl := xl.belowAll hb4;have yh := xh.belowAll hb4;have hl4 := yh.lt;clear cX lX xl xh hW0 Htr hb4;cases hv : zaz x with
 | none => rw [hv] at hres;obtain ⟨u, rfl⟩ := hres;have HP : Hid (zdT x low high = ([], 1)) := zhI (by unfold zdT; rw [hv]);clear hv;gi_wp2;refine ⟨.tuple #[.slice none 0 0, .int .i64 1], by simp [results, Tryz.f22, go_sem], ?_⟩;rw [<- HR.out];unfold zf7;rw [HP.out];exact ⟨hB4, _, rfl, World.ownsRow_nil _ _ _ _⟩
 | some t =>
  rw [hv] at hres;obtain ⟨a, rfl, hLO, hnd⟩ := hres;have HP : Hid (zdT x low high = (scanP (zam t) low high, 0)) := zhI (by unfold zdT; rw [hv]);obtain ⟨D, hD⟩ : ∃ D, zam t = D := ⟨_, rfl⟩;have hDl : D.length <= 1000000 := by rw [<- hD]; exact hpl t hv
  have HD : Hid (zam (ndO a) = D) := zhI (by rw [hnd, hD]);rw [hD] at HP;obtain ⟨p, hp⟩ : ∃ p, rootV a = .pointer p := by cases a with
   | none => exact ⟨none, rfl⟩
   | some t => exact ⟨_, rfl⟩
  rw [hp];obtain ⟨Fb, hFb⟩ : ∃ F, W4.heap.size = F := ⟨_, rfl⟩;obtain ⟨W5, hW5⟩ : ∃ W5, W4.alloc (.cells #[.slice none 0 0] 41) = W5 := ⟨_, rfl⟩;have hB5 : Below W4.heap.size W4 W5 := by rw [<- hW5]; exact Below.one W4 _
  have yo : Bx W5 Fb #[.slice none 0 0] 41 := by rw [<- hW5, <- hFb]; exact Bx.new W4 _ _
  have hz5 : W5.heap.size = Fb + 1 := by rw [<- hW5, <- hFb]; simp
  have HLO := zhI hLO;clear hv hpl hnd hD hLO;gi_wp2_with fail;refine ⟨trivial, ?_⟩;refine (zcX _ p _).mono ?_;rintro e W6 ⟨rfl, yr, yw, hb6, hz6⟩;rw [hz5] at yr yw hz6;have hB6 := btr hB5 hb6;have zo := yo.belowAll hb6;have zl := yl.belowAll hB6;have zh := yh.belowAll hB6;have HL6 : Hid (LiesO W0.heap.size W6 a) := zhI (fun t ht => by obtain ⟨q1, q2, q3⟩ := HLO.out t ht; exact ⟨q1.staysAll hB6, q2, q3⟩);have Hfp : Hid (∀ x ∈ fpO a, x < Fb) := zhI (fun x hx => by
   cases a with
   | none => cases hx
   | some t => rw [<- hFb]; exact ((HLO.out t rfl).1.lt x hx).2)
  have hBw := btr hB4 hB6;rw [<- hp] at yr;have Hnn : Hid (N + 1 + 1 < Fb) := zhI (by rw [<- hFb]; exact hl4);have Hz6 := zhI hz6;have hDl2 : (zam (ndO a)).length <= 1000000 := by rw [HD.out]; exact hDl
  clear hb6 hW5 hB6 yo yl yh HLO hp hB5 hz6;gi_wp2;refine zb3 hro h1 (gf := 103) (lb := #[.pointer (some ⟨Fb + 1, 0, none⟩), .pointer (some ⟨Fb + 1 + 1, 0, none⟩)]) rfl trivial (enters_of Tryz.func103 (by kernel_rfl) rfl)
   (zbR (n - 1) (by omega) W0.heap.size (Fb + 1) (Fb + 1 + 1) (fun b => b ∈ fpO a \/ b = Fb + 1 \/ b = Fb + 1 + 1) a W6 HL6.out (fun x hx => .inl hx) (.inr (.inl rfl)) (.inr (.inr rfl)) yr yw (by rw [HD.out]; exact hDl))
   (fun b hb => by rcases hb with hb | rfl | rfl; have := Hfp.out b hb; have := Hz6.out; omega; have := Hz6.out; omega; have := Hz6.out; omega) (fun _ => rfl)
   (fun pre W => KeepB [Fb] W6 W /\ pre.length <= 1000000 /\ ∃ o c, Bx W Fb #[.slice o (scanP pre low high).length c] 41 /\ W.ownsRow W6.heap.size 77 2 (.slice o (scanP pre low high).length c) (scanP pre low high).length (kvsC (scanP pre low high)))
   (fun _ _ _ => False)
   (fun s A B row hs hg hr => by obtain ⟨q1, q0, o, c, q2, q3⟩ := hs; exact ⟨q1.grown hg (fun r e => (hr r e).1), q0, o, c, zaF q2 hg (fun r e => (hr r e).2), zd0 q3 hg (fun r e => (hr r e).2)⟩)
   (fun c s A B row hs hg hr => hs)
   ⟨KeepB.refl _ _, Nat.zero_le _, none, 0, zo, World.ownsRow_nil _ _ _ _⟩ (fun s W hs => hs.1.2.2.2.1) 11 (fun x => #[.string x.1, .string x.2]) 77
   ?assign ?body ?done ?stop
  case assign => intro l pre x W K hI hK;simp only [List.zip_toArray, List.zip_cons_cons, List.zip_nil_right, List.size_toArray] at hK |-;gi_wp2;exact hK
  case body =>
   rintro l pre ⟨ky, vl⟩ Bb W hBb ⟨hKB, hpl, o, c, b1, ho⟩ hX hlt;simp only [List.zip_toArray, List.zip_cons_cons, List.zip_nil_right, List.size_toArray];have hsn := zjq pre (ky, vl) low high;have hsl := zjY pre low high;have bl := hKB.bx zl (by simp; have := Hnn.out; omega);have bh := hKB.bx zh (by simp; have := Hnn.out; omega);have hpl2 : (pre ++ [(ky, vl)]).length <= 1000000 := by rw [zlA]; simp; omega
   obtain ⟨L, hL⟩ : ∃ L, scanP pre low high = L := ⟨_, rfl⟩;rw [hL] at b1 ho hsn hsl;obtain ⟨m, hm⟩ : ∃ m, L.length = m := ⟨_, rfl⟩;rw [hm] at b1 ho hsl;have HKB := zhI hKB;have cl := bl.cell 0;have ch := bh.cell 0;have c1 := hX.cell 0;have c2 := hX.cell 1;have co := b1.cell 0;simp only [List.getElem?_toArray, List.getElem?_cons_zero, List.getElem?_cons_succ] at cl ch c1 c2 co;have fo := b1.free 0;have ll := bl.lt;have lh := bh.lt;have l1 := hX.lt;have lo := b1.lt;have Hm := zhI hm;have Hsn := zhI hsn;clear hKB hL hm hsn bl bh;cases q1 : kLt ky low with
   | true => have q1' : Go.Op.bytesLess ky.toList low.toList = true := q1;have HE : Hid (scanP (pre ++ [(ky, vl)]) low high = L) := zhI (by rw [Hsn.out]; simp [inB, q1]);clear q1 Hsn;gi_wp2;exact ⟨KeepsFrom.refl _ _, KeepT.refl _ _, HKB.out, hpl2, o, c, by rw [HE.out, Hm.out]; exact b1, by rw [HE.out, Hm.out]; exact ho⟩
   | false =>
    have q1' : Go.Op.bytesLess ky.toList low.toList = false := q1
    by_cases q2 : high = ByteArray.empty
    .
     have q2' : high.toList.isEmpty = true := by rw [q2, zkw]; rfl
     have q2a : high.toList = [] := by rw [q2, zkw]
     have HE : Hid (scanP (pre ++ [(ky, vl)]) low high = L ++ [(ky, vl)]) := zhI (by rw [Hsn.out]; simp [inB, q2, q1]);have hn1 : ¬ (Fb ∈ fpO a \/ Fb = Fb + 1 \/ Fb = Fb + 1 + 1) := by rintro (h | h | h); have := Hfp.out _ h; omega; omega; omega
     have hzW := HKB.out.2.2.2.1;have ho2 := ho.alloc (.cells #[.string ky, .string vl] 77);have H1c : Hid (∀ u ∈ [Value.string ky, Value.string vl], u.oneCell' = true) := zhI (by intro u hu; simp at hu; rcases hu with rfl | rfl <;> rfl)
     have xn := Bx.new W #[.string ky, .string vl] 77;have Hcn : Hid (∀ j u, [Value.string ky, Value.string vl][j]? = some u -> (W.alloc (.cells #[.string ky, .string vl] 77)).cell? ((⟨W.heap.size, 0, none⟩ : Addr).add j) = some u) := zhI (fun j u hj => by rw [Addr.add_lit, Nat.zero_add, xn.cell];simpa using hj)
     have b2 := b1.alloc (.cells #[.string ky, .string vl] 77);have Hb1 := zhI b1;have hb3 : W6.heap.size <= (W.alloc (.cells #[.string ky, .string vl] 77)).heap.size := by simp; omega
     clear q1 q2 Hsn xn b1;gi_wp2_with (refine wpListIn_append_own _ rfl _ _ 41 rfl W6.heap.size 77 ip _ 2 32 Tryz.underlying41 Hi.out.1 Hi.out.2.1 Hi.out.2.2.1 Hi.out.2.2.2 rfl (by decide) (.slice o m c) m (kvsC L) rfl ho2 ⟨W.heap.size, 0, none⟩ 1 1 [.string ky, .string vl] rfl rfl Hcn.out H1c.out (by unfold maxLen; omega) (by omega) hb3 ?_; intro v3 w3 ho3 hg3 _; obtain ⟨o3, c3, rfl⟩ := za5 ho3; have b3 := b2.grown hg3 (fun e => zab ho2 b2 (by decide) e.symm); have co3 := b3.cell 0; have fo3 := b3.free 0; have lo3 := b3.lt; simp only [List.getElem?_toArray, List.getElem?_cons_zero] at co3);have hgW : W.grownBy w3 (Value.slice o m c).ownBlock := (World.grownBy_alloc W (.cells #[.string ky, .string vl] 77) _).trans hg3;have hge : ∀ r, (Value.slice o m c).ownBlock = some r -> W6.heap.size <= r := fun r e => (ho.lt r e).1;have hEl : (L ++ [(ky, vl)]).length = m + 1 := by rw [zlA, Hm.out]; rfl
     have hEk : kvsC (L ++ [(ky, vl)]) = kvsC L ++ [.string ky, .string vl] := by rw [zcm]; rfl
     refine ⟨?_, ?_, ?_, hpl2, o3, c3, ?_, ?_⟩
     . refine KeepsFrom.trans ?_ ((KeepsOthers.setCell w3 ⟨Fb, 0, none⟩ _).from _);exact (zdP ho hgW).from _
     .
      refine KeepT.trans ?_ (KeepT.set w3 (a := ⟨Fb, 0, none⟩) _ hn1);intro k ob hk hob;have hlk := (Array.getElem?_eq_some_iff.1 hob).1;refine (hgW.block k hlk fun e => ?_).trans hob;have h6 := hge k e.symm;have := Hz6.out;rcases hk with h | h | h
      . have := Hfp.out k h; omega
      . omega
      . omega
     . exact (HKB.out.grown hgW hge).set (b := Fb) (k := 0) (by simp)
     . rw [HE.out, hEl];have := b3.set 0 (.slice o3 (m + 1) c3);simpa using this
     . rw [HE.out, hEl, hEk];exact zac ho3 (a := ⟨Fb, 0, none⟩) (zab ho3 b3 (by decide)) _
    .
     have q2a : ¬ high.toList = [] := fun e => q2 (zaH (e.trans zkw.symm));have q2' : high.toList.isEmpty = false := by rw [List.isEmpty_eq_false_iff]; exact q2a
     cases q3 : kLt ky high with
     | true =>
      have q3' : Go.Op.bytesLess ky.toList high.toList = true := q3;have HE : Hid (scanP (pre ++ [(ky, vl)]) low high = L ++ [(ky, vl)]) := zhI (by rw [Hsn.out]; simp [inB, q1, q2, q3]);have hn1 : ¬ (Fb ∈ fpO a \/ Fb = Fb + 1 \/ Fb = Fb + 1 + 1) := by rintro (h | h | h); have := Hfp.out _ h; omega; omega; omega
      have hzW := HKB.out.2.2.2.1;have ho2 := ho.alloc (.cells #[.string ky, .string vl] 77);have H1c : Hid (∀ u ∈ [Value.string ky, Value.string vl], u.oneCell' = true) := zhI (by intro u hu; simp at hu; rcases hu with rfl | rfl <;> rfl)
      have xn := Bx.new W #[.string ky, .string vl] 77;have Hcn : Hid (∀ j u, [Value.string ky, Value.string vl][j]? = some u -> (W.alloc (.cells #[.string ky, .string vl] 77)).cell? ((⟨W.heap.size, 0, none⟩ : Addr).add j) = some u) := zhI (fun j u hj => by rw [Addr.add_lit, Nat.zero_add, xn.cell];simpa using hj)
      have b2 := b1.alloc (.cells #[.string ky, .string vl] 77);have Hb1 := zhI b1;have hb3 : W6.heap.size <= (W.alloc (.cells #[.string ky, .string vl] 77)).heap.size := by simp; omega
      clear q1 q3 Hsn xn b1;gi_wp2_with (refine wpListIn_append_own _ rfl _ _ 41 rfl W6.heap.size 77 ip _ 2 32 Tryz.underlying41 Hi.out.1 Hi.out.2.1 Hi.out.2.2.1 Hi.out.2.2.2 rfl (by decide) (.slice o m c) m (kvsC L) rfl ho2 ⟨W.heap.size, 0, none⟩ 1 1 [.string ky, .string vl] rfl rfl Hcn.out H1c.out (by unfold maxLen; omega) (by omega) hb3 ?_; intro v3 w3 ho3 hg3 _; obtain ⟨o3, c3, rfl⟩ := za5 ho3; have b3 := b2.grown hg3 (fun e => zab ho2 b2 (by decide) e.symm); have co3 := b3.cell 0; have fo3 := b3.free 0; have lo3 := b3.lt; simp only [List.getElem?_toArray, List.getElem?_cons_zero] at co3);have hgW : W.grownBy w3 (Value.slice o m c).ownBlock := (World.grownBy_alloc W (.cells #[.string ky, .string vl] 77) _).trans hg3;have hge : ∀ r, (Value.slice o m c).ownBlock = some r -> W6.heap.size <= r := fun r e => (ho.lt r e).1;have hEl : (L ++ [(ky, vl)]).length = m + 1 := by rw [zlA, Hm.out]; rfl
      have hEk : kvsC (L ++ [(ky, vl)]) = kvsC L ++ [.string ky, .string vl] := by rw [zcm]; rfl
      refine ⟨?_, ?_, ?_, hpl2, o3, c3, ?_, ?_⟩
      . refine KeepsFrom.trans ?_ ((KeepsOthers.setCell w3 ⟨Fb, 0, none⟩ _).from _);exact (zdP ho hgW).from _
      .
       refine KeepT.trans ?_ (KeepT.set w3 (a := ⟨Fb, 0, none⟩) _ hn1);intro k ob hk hob;have hlk := (Array.getElem?_eq_some_iff.1 hob).1;refine (hgW.block k hlk fun e => ?_).trans hob;have h6 := hge k e.symm;have := Hz6.out;rcases hk with h | h | h
       . have := Hfp.out k h; omega
       . omega
       . omega
      . exact (HKB.out.grown hgW hge).set (b := Fb) (k := 0) (by simp)
      . rw [HE.out, hEl];have := b3.set 0 (.slice o3 (m + 1) c3);simpa using this
      . rw [HE.out, hEl, hEk];exact zac ho3 (a := ⟨Fb, 0, none⟩) (zab ho3 b3 (by decide)) _
     | false => have q3' : Go.Op.bytesLess ky.toList high.toList = false := q3;have HE : Hid (scanP (pre ++ [(ky, vl)]) low high = L) := zhI (by rw [Hsn.out]; simp [inB, q1, q2, q3]);clear q1 q2 q3 Hsn;gi_wp2;exact ⟨KeepsFrom.refl _ _, KeepT.refl _ _, HKB.out, hpl2, o, c, by rw [HE.out, Hm.out]; exact b1, by rw [HE.out, Hm.out]; exact ho⟩
  case done =>
   rintro D0 ys W hD1 rfl ⟨hKB, -, o, c, b1, ho⟩ hK;rw [HD.out] at b1 ho;have co := b1.cell 0;have lo := b1.lt;simp only [List.getElem?_toArray, List.getElem?_cons_zero] at co;gi_wp2;refine ⟨by simp, .inl ⟨_, _, rfl, run_takeDeferred hK, ?_⟩⟩;refine ⟨.tuple #[.slice o (scanP D low high).length c, .int .i64 0], by simp [results, Tryz.f22, go_sem], ?_⟩;rw [<- HR.out];unfold zf7;rw [HP.out];have h9 := hKB.own (l := D0) (o := .deferred none) hD1 rfl;have ho4 := zd0 ho (grownBy_putObj' _ D0 (.deferred none)) (fun r e => by cases e; exact ⟨_, hK, rfl⟩);refine ⟨h9.below hBw hBw.size (fun b hb => by simp at hb; have := Hnn.out; omega), _, rfl, ?_⟩;rcases ho4 with ⟨l1, l2⟩;refine ⟨l1, ?_⟩;rcases l2 with h | ⟨g', cap', cur, e1, e2, e3⟩
   . exact .inl h
   . exact .inr ⟨g', cap', cur, e1, znT hBw.size e2, e3⟩
  case stop => rintro D c pre W hD _ h;exact h.elim
end Go.Proofs.YtlefmmhlpgmbjaaGreat
namespace Go.Proofs.YtlefmmhlpgmbjaaGreat
set_option maxRecDepth 100000
open Go.RowKit
theorem zi8 {d : Dsk} {frm til : Int} (hf : fitX d frm til = 0) (hl : d.left = -1) : (fmtX d frm til).2 = 0 := by
 have hfz := zf1 hf;unfold fmtX;rw [if_neg (by simp [hf])];refine (zfC _ hfz.1 (fun o ho => ?_) hl).1;rcases zmC.1 ho with rfl | ho
 . exact ⟨by omega, by omega, by rw [zaj, show padZ [] = List.replicate 512 0 from rfl, List.length_replicate]; omega⟩
 .
  rcases zmC.1 ho with rfl | ho
  . exact ⟨by omega, by omega, by rw [zaj, zbt (by decide)]; omega⟩
  . rw [zmS.1 ho]; trivial
theorem zcj (a b : UInt8) : kLt ⟨#[a]⟩ ⟨#[b]⟩ = decide (a < b) := by simp [kLt, ByteArray.toList_eq, Go.Op.bytesLess]
abbrev kA : ByteArray := ⟨#[97]⟩
abbrev kB : ByteArray := ⟨#[98]⟩
abbrev kC : ByteArray := ⟨#[99]⟩
abbrev kD : ByteArray := ⟨#[100]⟩
abbrev kvE (k : ByteArray) : Kv := (k, ByteArray.empty)
theorem zmp {ps L : List Kv} {x : Kv} (h : withP ps x = L) (hl : L.length <= 3) : putN (some (lfN ps)) x = lfN L := by
 have : insN x (lfN ps) = (lfN L, none) := by rw [zc5 (n := lfN ps) rfl, <- zbf hl, <- h]; rfl
 unfold putN;simp only;rw [this]
theorem zmt {ps L : List Kv} {x : Kv} (h : withP ps x = L) (hl : 3 < L.length) : putN (some (lfN ps)) x = inN [lfN (L.take 2), lfN (L.drop 2)] := by
 have : insN x (lfN ps) = (lfN (L.take 2), some (lfN (L.drop 2))) := by rw [zc5 (n := lfN ps) rfl, <- zcp hl, <- h]; rfl
 unfold putN;simp only;rw [this]
theorem zlP : withP [kvE kA] (kvE kB) = [kvE kA, kvE kB] := by simp [withP, zcj]
theorem zlT : withP [kvE kA, kvE kB] (kvE kC) = [kvE kA, kvE kB, kvE kC] := by simp [withP, zcj]
theorem zls : withP [kvE kA, kvE kB, kvE kC] (kvE kD) = [kvE kA, kvE kB, kvE kC, kvE kD] := by simp [withP, zcj]
abbrev addC (k : ByteArray) : Chg := ⟨k, false, ByteArray.empty, true, ByteArray.empty⟩
abbrev awC1 : List Chg := [addC kA, addC kB, addC kC, addC kD]
abbrev awC2 : List Chg := [⟨kD, true, ByteArray.empty, false, ByteArray.empty⟩]
abbrev awN1 : Nd := inN [lfN [kvE kA, kvE kB], lfN [kvE kC, kvE kD]]
theorem ziU : awC1.foldl chg1 none = some awN1 := by
 simp only [awC1, List.foldl_cons, List.foldl_nil, chg1, addC, if_true];rw [show putN none (kA, ByteArray.empty) = lfN [kvE kA] from rfl, zmp zlP (by decide), zmp zlT (by decide), zmt zls (by decide)];rfl
abbrev awT1 : Nd := .mk [] [.mk [kvE kA, kvE kB] [] 2, .mk [kvE kC, kvE kD] [] 3] 4
theorem zio : zar 0 10 [] = [2, 3, 4, 5, 6, 7, 8, 9] := by decide +kernel
theorem ziF (d : Dsk) : ∃ p, planP (ixOf d 0 10 1 none) none awC1 = some (some awT1, p) := by
 unfold planP;rw [Option.map_none, ziU];simp only [ixOf, usedN, zio];exact ⟨_, rfl⟩
theorem ziv : zay [lfN [kvE kA, kvE kB], lfN [kvE kC, kvE kD]] kD = 1 := by simp [zay, lfN, Nd.least, zcj]
theorem zjl : zaq [kvE kC, kvE kD] kD = [kvE kC] := by simp [zaq]
theorem zne : remN kD awN1 = inN [.mk [kvE kA, kvE kB, kvE kC] [] 0] := by
 rw [remN, if_neg (by simp [awN1, inN, Nd.kids])];split
 .
  rename_i h
  simp only [awN1, inN, Nd.kids] at h;rw [ziv] at h;simp at h
 .
  rename_i c h
  simp only [awN1, inN, Nd.kids] at h |-;rw [ziv] at h |-;simp only [List.getElem?_cons_succ, List.getElem?_cons_zero, Option.some.injEq] at h;subst h;rw [zeQ (n := lfN [kvE kC, kvE kD]) rfl, show (lfN [kvE kC, kvE kD]).ps = [kvE kC, kvE kD] from rfl, zjl];rfl
abbrev awT2 : Nd := .mk [kvE kA, kvE kB, kvE kC] [] 5
theorem ziG : awC2.foldl chg1 (some awN1) = some (.mk [kvE kA, kvE kB, kvE kC] [] 0) := by
 simp only [awC2, List.foldl_cons, List.foldl_nil, chg1, Bool.false_eq_true, if_false, dropN];rw [zne];rfl
theorem zmc {g : Int} : zcE (some awT1) (bs (encD (.mk [kvE kA, kvE kB, kvE kC] [] 0))) ≠ some g := by
 intro h;obtain ⟨k, hk, _, e⟩ := zfH h;have e0 := congrArg (fun l : List UInt8 => (l.getD 0 0, l.getD 1 0)) e;simp only [preO, Nd.pre, Nd.preK, List.append_nil, List.cons_append, List.nil_append, zmC, List.not_mem_nil, or_false] at hk;rcases hk with rfl | rfl | rfl
 . exact absurd e0 (by simp [encD, encL, encIn, encLf, padZ, Nd.kids, Nd.ps])
 . exact absurd e0 (by simp [encD, encL, encLf, padZ, Nd.kids, Nd.ps])
 . exact absurd e0 (by simp [encD, encL, encLf, padZ, Nd.kids, Nd.ps])
theorem ziV : zar 0 10 (usedN (some awT1)) = [5, 6, 7, 8, 9] := by decide +kernel
theorem zlx : (zar 0 10 (usedN (some awT2))).length = 7 := by decide +kernel
theorem aw_er : awT1.er = awN1 := rfl
theorem zjv {look : List UInt8 -> Option Int} {ps : List Kv} {g : Int} {r : List Int} {ws : List PW} (h : look (encD (.mk ps [] 0)) = none) : ∃ q, za4 look (.mk ps [] 0) ⟨g :: r, ws⟩ = some (.mk ps [] g, q) := by
 rw [zbj];simp only [Nd.kids, Nd.ps, zaX];rw [h];exact ⟨_, rfl⟩
theorem zlc (d : Dsk) : ∃ p, planP (ixOf d 0 10 2 (some awT1)) (some awT1) awC2 = some (some awT2, p) := by
 obtain ⟨q, hq⟩ := zjv (look := fun s => zcE (some awT1) (bs s)) (ps := [kvE kA, kvE kB, kvE kC]) (g := 5) (r := [6, 7, 8, 9]) (ws := []) (Option.eq_none_iff_forall_ne_some.2 fun g => zmc);refine ⟨q, ?_⟩;unfold planP;rw [Option.map_some, aw_er, ziG];simp only [ixOf, ziV];rw [hq];rfl
theorem zhM : chgsE none awC1 = 0 := by
 simp [chgsE, chgE, zcj]
 decide
theorem zkQ : chgsE none awC2 = 0 := by
 simp [chgsE, chgE]
 decide
theorem zjS : awC1.any (za1 none) = false := by simp [awC1, za1, getO, addC]
theorem znb : getO (some awT1) kD = (ByteArray.empty, true) := by
 have hl : awT1.leafAt kD = [kvE kC, kvE kD] := by
  rw [Nd.leafAt_kid (n := awT1) (by simp [Nd.kids])];have hc : zay awT1.kids kD = 1 := by simp [zay, Nd.kids, Nd.least, zcj]
  have : ∀ i (hi : i < awT1.kids.length), i = 1 -> (awT1.kids[i]).leafAt kD = [kvE kC, kvE kD] := by rintro i hi rfl;exact Nd.leafAt_leaf rfl
  exact this _ _ hc
 unfold getO;simp only;rw [hl];simp [getL, findB, findI, zcj]
theorem zkN : awC2.any (za1 (some awT1)) = false := by
 simp only [awC2, List.any_cons, List.any_nil, za1, znb]
 decide
theorem zmT : scanP (Nd.prs awT2) kB ByteArray.empty = [kvE kB, kvE kC] := by
 rw [Nd.prs_leaf (n := awT2) rfl];simp [scanP, Nd.ps, zcj]
theorem step_ok {d : Dsk} {frm til : Int} {V : Nat} {t t' : Option Nd} {R : Ix × Int} (h : StepX d frm til V t t' R) (hl : d.left = -1) : R = (ixOf R.1.disk frm til (V + 1) t', 0) /\ IxS R.1.disk frm til (V + 1) t' /\ R.1.disk.left = -1 := by
 obtain ⟨f1, f2⟩ := h.full hl;rcases h.res with ⟨h1, h2, h3⟩ | ⟨h1, _⟩
 . exact ⟨Prod.ext h3 h1, h2, f2⟩
 . rw [f1] at h1; exact absurd h1 (by decide)
theorem zk7 : ∃ (d0 d1 : Dsk) (x1 x2 x3 : Ix), newD 10 512 = (d0, 0) /\ fmtX d0 0 10 = (d1, 0) /\ openP d1 0 10 = (x1, 0) /\ zap x1 awC1 = (x2, 0) /\ x2.root = 4 /\ zap x2 awC2 = (x3, 0) /\ x3.root = 5 /\ x3.ver = 3 /\ x3.free.length = 7 /\ zdT x3 kB ByteArray.empty = ([kvE kB, kvE kC], 0) /\
  d0.cache = [] /\ x1.disk.cache = [] /\ x2.disk.cache = [] /\ ∀ t, zaz x3 = some t -> (zam t).length <= 1000000 := by
 obtain ⟨n1, n2, n3, n4, n5, n6⟩ := zni (p := 10) (s := 512) (by decide);obtain ⟨d0, hd0⟩ : ∃ d0, (newD 10 512).1 = d0 := ⟨_, rfl⟩;rw [hd0] at n2 n3 n4 n5 n6;have hf : fitX d0 0 10 = 0 := zk1 n4 n5 (by decide) (by omega) (by decide) (by decide);have hfm := zi8 hf n2;obtain ⟨f1, f2, f3, _⟩ := fmt_X hfm;obtain ⟨d1, hd1⟩ : ∃ d1, (fmtX d0 0 10).1 = d1 := ⟨_, rfl⟩;rw [hd1] at f1 f2 f3;have ho := f1.opens;have hl1 := f3 n2;rcases zfw f1 (by decide) awC1 with h | h | h | h | ⟨_, _, _, t', p, hp, _, _, hS⟩
 . exact absurd zhM h.1
 . rw [zjS] at h; exact absurd h.2.1 (by decide)
 . exact absurd h.2.2.1 (by simp [awC1])
 .
  obtain ⟨p, hp⟩ := ziF d1;have := zhb f1.tm (d := d1) (frm := 0) (til := 10) (V := 1) (l := awC1) (fun c hc => (zcw zhM c hc).1);exfalso;have h5 := h.2.2.2.1;simp only [ixOf, usedN, zio] at h5;have h6 : (zdN (zam none) awC1).length = 4 := by have := zbU (o := none) (l := awC1) (fun n e => by cases e) (fun c hc => (zcw zhM c hc).1);rw [ziU] at this;rw [<- this];rfl
  rw [h6] at h5;exact absurd h5 (by decide)
 .
  obtain ⟨p', hp'⟩ := ziF d1;rw [hp'] at hp;simp only [Option.some.injEq, Prod.mk.injEq] at hp;obtain ⟨rfl, rfl⟩ := hp;obtain ⟨e1, e2, e3⟩ := step_ok hS hl1;obtain ⟨d2, hd2⟩ : ∃ d2, (zap (ixOf d1 0 10 1 none) awC1).1.disk = d2 := ⟨_, rfl⟩;rw [hd2] at e1 e2 e3;rcases zfw e2 (by decide) awC2 with h | h | h | h | ⟨_, _, _, t', p, hp, _, _, hS⟩
  . exact absurd zkQ h.1
  . rw [zkN] at h; exact absurd h.2.1 (by decide)
  . exact absurd h.2.2.1 (by simp [awC2])
  .
   exfalso;have h5 := h.2.2.2.1;simp only [ixOf, ziV] at h5;have h6 : (zdN (zam (some awT1)) awC2).length = 3 := by
    have := zbU (o := some awN1) (l := awC2) (by
     intro n e;rw [<- aw_er] at e;exact e2.tm.er n e) (fun c hc => (zcw zkQ c hc).1)
    rw [ziG] at this;have hpe : zam (some awT1) = zam (some awN1) := by rw [<- aw_er]; exact (zeM (some awT1)).symm
    rw [hpe, <- this];rfl
   rw [h6] at h5;exact absurd h5 (by decide)
  .
   obtain ⟨p', hp'⟩ := zlc d2;rw [hp'] at hp;simp only [Option.some.injEq, Prod.mk.injEq] at hp;obtain ⟨rfl, rfl⟩ := hp;obtain ⟨g1, g2, g3⟩ := step_ok hS e3;obtain ⟨d3, hd3⟩ : ∃ d3, (zap (ixOf d2 0 10 (1 + 1) (some awT1)) awC2).1.disk = d3 := ⟨_, rfl⟩;rw [hd3] at g1 g2 g3;have hv : zaz (ixOf d3 0 10 (1 + 1 + 1) (some awT2)) = some (some awT2) := by rw [zgq]; exact g2.valid
   refine ⟨d0, d1, ixOf d1 0 10 1 none, ixOf d2 0 10 (1 + 1) (some awT1), ixOf d3 0 10 (1 + 1 + 1) (some awT2), Prod.ext hd0 n1, Prod.ext hd1 hfm, by rw [zjy]; exact ho, e1, rfl, g1, rfl, rfl, zlx, ?_, n3, f1.empty, e2.empty, ?_⟩
   . unfold zdT;rw [hv];simp only [zam, zmT]
   .
    intro t ht;rw [hv] at ht;cases ht;simp only [zam];rw [Nd.prs_leaf (n := awT2) rfl]
    decide
end Go.Proofs.YtlefmmhlpgmbjaaGreat
