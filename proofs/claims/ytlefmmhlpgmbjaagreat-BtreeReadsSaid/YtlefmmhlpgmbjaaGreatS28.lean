/- Plain laws of layer 42: placing; a commit as a step of an index in good order. No function of the program is named here. Plain laws of layer 42: lookups in a tree are lookups in its pairs; pairs after changes; what the statements' Changes and After return. No function of the program is named here. law 42's example, plain: a tree of four keys, one of them removed again. No function of the program is named here. -/
import Derived.Test.YtlefmmhlpgmbjaaGreatS27
import Derived.Test.YtlefmmhlpgmbjaaGreatS24
import Derived.Test.YtlefmmhlpgmbjaaGreatS26
import Derived.Test.YtlefmmhlpgmbjaaGreatS01
namespace Go.Proofs.YtlefmmhlpgmbjaaGreat
set_option maxRecDepth 100000
open Go.RowKit
def PlcL (look : List UInt8 -> Option Int) (p q : Plc) (l : List Nd) : Prop :=
 ∃ new : List PW, q.ws = p.ws ++ new /\ p.free = new.map PW.page ++ q.free /\ (∀ m ∈ l, look (encD m) = some m.page \/ (⟨m.page, bs (encD m)⟩ : PW) ∈ new) /\ ∀ w ∈ new, ∃ m ∈ l, w = ⟨m.page, bs (encD m)⟩
theorem PlcL.trans {look : List UInt8 -> Option Int} {p q r : Plc} {l m : List Nd} (h : PlcL look p q l) (k : PlcL look q r m) : PlcL look p r (l ++ m) := by
 obtain ⟨a, a1, a2, a3, a4⟩ := h;obtain ⟨b, b1, b2, b3, b4⟩ := k;refine ⟨a ++ b, by rw [b1, a1, List.append_assoc], by rw [a2, b2, List.map_append, List.append_assoc], fun x hx => ?_, fun w hw => ?_⟩
 .
  rcases zmA.1 hx with hx | hx
  . exact (a3 x hx).imp id fun h => List.mem_append_left _ h
  . exact (b3 x hx).imp id fun h => List.mem_append_right _ h
 .
  rcases zmA.1 hw with hw | hw
  . obtain ⟨m, hm, e⟩ := a4 w hw; exact ⟨m, List.mem_append_left _ hm, e⟩
  . obtain ⟨m, hm, e⟩ := b4 w hw; exact ⟨m, List.mem_append_right _ hm, e⟩
theorem PlcL.perm {look : List UInt8 -> Option Int} {p q : Plc} {l m : List Nd} (h : PlcL look p q l) (hm : ∀ x, x ∈ m ↔ x ∈ l) : PlcL look p q m := by
 obtain ⟨a, a1, a2, a3, a4⟩ := h;exact ⟨a, a1, a2, fun x hx => a3 x ((hm x).1 hx), fun w hw => by obtain ⟨y, hy, e⟩ := a4 w hw; exact ⟨y, (hm y).2 hy, e⟩⟩
theorem zfi {look : List UInt8 -> Option Int} {ks : List Nd} (ih : ∀ k ∈ ks, ∀ p n' q, za0 look k p = some (n', q) -> PlcL look p q n'.pre) :
  ∀ {p : Plc} {ks' : List Nd} {q : Plc}, zaT look ks p = some (ks', q) -> PlcL look p q (ks'.map Nd.pre).flatten := by
 induction ks with
 | nil => intro p ks' q h;rw [zaT] at h;simp only [Option.some.injEq, Prod.mk.injEq] at h;obtain ⟨rfl, rfl⟩ := h;exact ⟨[], by simp, by simp, fun m hm => by simp at hm, fun m hm => by cases hm⟩
 | cons k ks ihl =>
  intro p ks' q h;rw [zaT] at h;split at h
  . cases h
  .
   rename_i n1 q1 h1
   obtain ⟨⟨m, q2⟩, hm, e⟩ := Option.map_eq_some_iff.1 h;simp only [Prod.mk.injEq] at e;obtain ⟨rfl, rfl⟩ := e;rw [List.map_cons, List.flatten_cons];exact (ih k (by simp) _ _ _ h1).trans (ihl (fun x hx => ih x (by simp [hx])) hm)
theorem zdL {look : List UInt8 -> Option Int} : ∀ (n : Nd) (p : Plc) (n' : Nd) (q : Plc), za0 look n p = some (n', q) -> PlcL look p q n'.pre := by
 intro n
 induction n using Nd.ind with
 | h ps kids page ih =>
  intro p n' q h;rw [zbh] at h;simp only [Nd.kids, Nd.ps] at h;split at h
  . cases h
  .
   rename_i ks q1 h1
   have b1 := zfi ih h1;split at h
   .
    rename_i g hg
    simp only [Option.some.injEq, Prod.mk.injEq] at h;obtain ⟨rfl, rfl⟩ := h;have hs : PlcL look q1 q1 [Nd.mk ps ks g] := ⟨[], by simp, by simp, fun m hm => by rw [zmS] at hm;subst hm;exact .inl hg, fun w hw => by cases hw⟩
    refine (b1.trans hs).perm fun x => ?_;rw [Nd.pre_eq, zmA, zmS, zmC, Or.comm];rfl
   .
    rename_i hlk
    split at h
    . cases h
    .
     rename_i g r hf
     simp only [Option.some.injEq, Prod.mk.injEq] at h;obtain ⟨rfl, rfl⟩ := h;have hs : PlcL look q1 ⟨r, q1.ws ++ [⟨g, bs (encD (.mk ps ks 0))⟩]⟩ [Nd.mk ps ks g] := ⟨[⟨g, bs (encD (.mk ps ks 0))⟩], rfl, by rw [hf]; rfl, fun m hm => by
      rw [zmS] at hm;subst hm;exact .inr (by simp [Nd.page]; rfl), fun w hw => by
      rw [zmS] at hw;exact ⟨_, zmS.2 rfl, hw⟩⟩
     refine (b1.trans hs).perm fun x => ?_;rw [Nd.pre_eq, zmA, zmS, zmC, Or.comm];rfl
theorem zh3 {look : List UInt8 -> Option Int} {ks : List Nd} (ih : ∀ k ∈ ks, ∀ p, za0 look k p = none -> p.free.length < k.pre.length) :
  ∀ {p : Plc}, zaT look ks p = none -> p.free.length < (ks.map Nd.pre).flatten.length := by
 induction ks with
 | nil => intro p h; rw [zaT] at h; cases h
 | cons k ks ihl =>
  intro p h;rw [List.map_cons, List.flatten_cons, zlA];rw [zaT] at h;split at h
  .
   rename_i h1
   have := ih k (by simp) p h1;omega
  .
   rename_i n1 q1 h1
   have h2 := ihl (fun x hx => ih x (by simp [hx])) (Option.map_eq_none_iff.1 h);obtain ⟨new, e1, e2, _, _⟩ := zdL _ _ _ _ h1;have h3 := zdg _ _ _ _ h1;rw [e1, zlA] at h3;rw [e2, zlA, List.length_map];omega
theorem zh2 {look : List UInt8 -> Option Int} : ∀ (n : Nd) (p : Plc), za0 look n p = none -> p.free.length < n.pre.length := by
 intro n
 induction n using Nd.ind with
 | h ps kids page ih =>
  intro p h;rw [zbh] at h;rw [Nd.pre_eq, zlC];simp only [Nd.kids, Nd.ps] at h |-;split at h
  .
   rename_i h1
   have := zh3 ih h1;omega
  .
   rename_i ks q1 h1
   obtain ⟨new, e1, e2, _, _⟩ := zfi (fun k _ p n' q hk => zdL k p n' q hk) h1;have h3 := zgZ (fun k _ p n' q hk => zdg k p n' q hk) h1;rw [e1, zlA] at h3;split at h
   . cases h
   .
    split at h
    .
     rename_i hf
     rw [e2, hf, zlA, List.length_map, List.length_nil];omega
    . cases h
def zdX (ps : List Kv) (l : List Chg) : List Kv := l.foldl (fun ps c => if c.hasNew then withP ps (c.key, c.new) else zao ps c.key) ps
theorem zbY : ∀ {l : List Chg} {o : Option Nd}, OTm o -> (∀ c ∈ l, KvOk (c.key, c.new)) -> zaf (l.foldl chg1 o) = zdX (zaf o) l
 | [], _, _, _ => rfl
 | c :: l, o, h, hk => by obtain ⟨h1, h2⟩ := ziu h (fun _ => hk c (by simp));rw [List.foldl_cons, zbY h1 fun x hx => hk x (by simp [hx]), h2];rfl
theorem zes (o : Option Nd) : zaf (o.map Nd.er) = zaf o := by
 cases o with
 | none => rfl
 | some n => exact Nd.er_prs n
theorem zl1 {n : Nd} (h : EncOk n) : (encD n).length = 512 := by
 have := zfK h;unfold encD padZ;rw [zlA, List.length_replicate];omega
theorem zlE {a b : Nd} (h : a.er = b.er) (hb : (∃ k, Tm 1 2 k b) /\ Asc b.prs) : (∃ k, Tm 1 2 k a) /\ Asc a.prs := by
 obtain ⟨⟨k, h1⟩, h2⟩ := hb;refine ⟨⟨k, Tm.er_iff.1 (by rw [h]; exact Tm.er_iff.2 h1)⟩, ?_⟩;rw [<- Nd.er_prs a, h, Nd.er_prs b];exact h2
structure PlanS (d : Dsk) (frm til : Int) (t t' : Option Nd) (ws : List PW) (ps : List Kv) : Prop where
 tm : OTm t'
 prs : zaf t' = ps
 far : ∀ x ∈ ws, frm + 2 <= x.page /\ x.page < til /\ x.data.size = 512 /\ ∀ m ∈ preO t, m.page ≠ x.page
 nodup : (ws.map PW.page).Nodup
 at_ : ∀ m ∈ preO t', frm + 2 <= m.page /\ m.page < til /\ ((∃ k ∈ preO t, k.page = m.page /\ encD k = encD m) \/ (⟨m.page, bs (encD m)⟩ : PW) ∈ ws)
theorem zfh {t : Option Nd} {s : List UInt8} {g : Int} (h : zcM t (bs s) = some g) : ∃ k ∈ preO t, k.page = g /\ encD k = s := by
 cases t with
 | none => cases h
 | some n =>
  rcases zgW h with h | ⟨m, hm, h1, h2⟩
  . cases h
  . exact ⟨m, hm, h2, zni h1⟩
theorem zkJ {d : Dsk} {frm til : Int} {V : Nat} {t : Option Nd} {g : Int} (h : g ∈ (ixOf d frm til V t).free) : frm + 2 <= g /\ g < til /\ ∀ m ∈ preO t, m.page ≠ g := by
 obtain ⟨h1, h2, h3⟩ := zfy h;refine ⟨h1, h2, fun m hm e => h3 ?_⟩;rw [zhh];exact List.mem_map.2 ⟨m, hm, e⟩
theorem zgO {d : Dsk} {frm til : Int} {V : Nat} {t : Option Nd} (h : OTm t) {l : List Chg} (hk : ∀ c ∈ l, KvOk (c.key, c.new)) (hp : planP (ixOf d frm til V t) t l = none) : (ixOf d frm til V t).free.length < (zdX (zaf t) l).length := by
 unfold planP at hp;obtain ⟨f1, _⟩ := zd9 h.er hk;have f2 := zbY h.er hk;rw [zes] at f2;cases hT : l.foldl chg1 (t.map Nd.er) with
 | none => rw [hT] at hp; cases hp
 | some n => rw [hT] at hp f1 f2;have h1 := zh2 _ _ (Option.map_eq_none_iff.1 hp);obtain ⟨⟨k, h2⟩, _⟩ := f1 n rfl;have h3 := h2.cnt1;simp only at h1;rw [<- f2];simp only [zaf];omega
theorem zjr {d : Dsk} {frm til : Int} {V : Nat} {t : Option Nd} (h : IxS d frm til V t) {l : List Chg} (hk : ∀ c ∈ l, KvOk (c.key, c.new)) {t' : Option Nd} {p : Plc} (hp : planP (ixOf d frm til V t) t l = some (t', p)) : PlanS d frm til t t' p.ws (zdX (zaf t) l) := by
 unfold planP at hp;have hb := h.bd;obtain ⟨f1, _⟩ := zd9 h.tm.er hk;have f2 := zbY h.tm.er hk;rw [zes] at f2;cases hT : l.foldl chg1 (t.map Nd.er) with
 | none => rw [hT] at hp f2;simp only [Option.some.injEq, Prod.mk.injEq] at hp;obtain ⟨rfl, rfl⟩ := hp;exact ⟨(fun n e => by cases e), f2, (fun x hx => by cases hx), List.nodup_nil, (fun m hm => by cases hm)⟩
 | some n =>
  rw [hT] at hp f1 f2;obtain ⟨⟨n', q⟩, hpl, e⟩ := Option.map_eq_some_iff.1 hp;simp only [Prod.mk.injEq] at e;obtain ⟨rfl, rfl⟩ := e;have her := (zeX _ _ _ _ hpl).1;have htm := zlE her (f1 n rfl);have hprs : n'.prs = zdX (zaf t) l := by rw [<- f2];simp only [zaf];rw [<- Nd.er_prs n', her, Nd.er_prs]
  obtain ⟨new, e1, e2, e3, e4⟩ := zdL _ _ _ _ hpl;simp only [List.nil_append] at e1 e2;have hfree : ∀ x ∈ new, frm + 2 <= x.page /\ x.page < til /\ ∀ m ∈ preO t, m.page ≠ x.page := fun x hx => zkJ (V := V) (d := d) (by rw [e2]; exact List.mem_append_left _ (List.mem_map.2 ⟨x, hx, rfl⟩));have hat : ∀ m ∈ n'.pre, frm + 2 <= m.page /\ m.page < til /\ ((∃ k ∈ preO t, k.page = m.page /\ encD k = encD m) \/ (⟨m.page, bs (encD m)⟩ : PW) ∈ new) := fun m hm => by
   rcases e3 m hm with g | g
   . obtain ⟨k, hk1, hk2, hk3⟩ := zfh g;have := h.pages k hk1;exact ⟨by omega, by omega, .inl ⟨k, hk1, hk2, hk3⟩⟩
   . have := hfree _ g;exact ⟨this.1, this.2.1, .inr g⟩
  have hshp : Shp n' := by obtain ⟨⟨k, h1⟩, _⟩ := htm;exact h1.shp (Nat.le_refl _) (Nat.le_refl _)
  refine ⟨fun m e => by cases e; exact htm, hprs, fun x hx => ?_, ?_, ?_⟩
  . rw [e1] at hx;obtain ⟨a, b, c⟩ := hfree x hx;refine ⟨a, b, ?_, c⟩;obtain ⟨m, hm, rfl⟩ := e4 x hx;rw [zaj];refine zl1 ((zfH hshp hm).encOk fun c hc => ?_);have := hat c (zhn hm (zcn hc (zbm c)));omega
  . rw [e1];have := zgu frm til (usedN t);rw [show zap frm til (usedN t) = (ixOf d frm til V t).free from rfl, e2] at this;exact (List.nodup_append.1 this).1
  . rw [e1];exact hat
structure StepX (d : Dsk) (frm til : Int) (V : Nat) (t t' : Option Nd) (R : Ix × Int) : Prop where
 shape : Shape d R.1.disk
 full : d.left = -1 -> R.2 = 0 /\ R.1.disk.left = -1
 res : (R.2 = 0 /\ IxS R.1.disk frm til (V + 1) t' /\ R.1 = ixOf R.1.disk frm til (V + 1) t') \/
  (R.2 = 18 /\ R.1.disk.left = 0 /\ R.1 = { ixOf d frm til V t with disk := R.1.disk } /\ ∀ picks, IxS (zaM R.1.disk picks) frm til V t \/ IxS (zaM R.1.disk picks) frm til (V + 1) t')
 pages : ∀ k : Nat, k < d.pages.length -> ((k : Int) < frm \/ til <= k) -> pageL R.1.disk k = pageL d k
 cache : ∀ x ∈ R.1.disk.cache, frm <= x.page /\ x.page < til
 few : R.1.disk.cache.length <= 3000
theorem zc8 : ∀ {ops : List DOp} {d : Dsk} {x : PW}, chk d = 0 -> (∀ o ∈ ops, za9 d o) -> x ∈ (perfP d ops).1.cache -> x ∈ d.cache \/ DOp.wr x.page x.data ∈ ops
 | [], _, _, _, _, hx => .inl hx
 | o :: r, d, x, h, g, hx => by
  have hs := zbe h (g o (by simp));have hp : ∀ y ∈ (opP d o).1.cache, y ∈ d.cache \/ DOp.wr y.page y.data = o := by
   intro y hy
   by_cases hl : d.left = 0
   . rw [zdm h (g o (by simp)) hl] at hy;exact .inl hy
   .
    cases o with
    | wr i data =>
     rw [zd1 h (g _ (by simp)) hl] at hy;rcases zmA.1 hy with hy | hy
     . exact .inl hy
     . rw [zmS.1 hy]; exact .inr rfl
    | fl => rw [zcJ h hl] at hy;cases hy
  rw [perfP] at hx;split at hx
  .
   rcases hp x hx with h1 | h1
   . exact .inl h1
   . exact .inr (by rw [h1]; simp)
  .
   rcases zc8 (ops := r) hs.1 (fun o' ho' => (g o' (by simp [ho'])).of hs.2.2 hs.2.1) hx with h1 | h1
   .
    rcases hp x h1 with h2 | h2
    . exact .inl h2
    . exact .inr (by rw [h2]; simp)
   . exact .inr (by simp [h1])
theorem zjb {d : Dsk} {frm til : Int} {V : Nat} {t : Option Nd} (ws : List PW) (r : Int) : zaz (ixOf d frm til V t) ws r = (if ws = [] then [] else ws.map wrO ++ [.fl]) ++ [.wr (frm + (((V + 1) % 2 : Nat) : Int)) (bs (hdrL 512 (V + 1) r.toNat)), .fl] := by
 unfold zaz ixOf;simp only;rw [Int.tmod_eq_emod_of_nonneg (by omega)];have : ((V : Int) + 1).toNat = V + 1 := by omega
 rw [this];congr 1
theorem zjT {d : Dsk} {frm til : Int} {V : Nat} {t t' : Option Nd} (h : IxS d frm til V t) (hV : V + 1 <= 200) {ws : List PW} {ps : List Kv} (hp : PlanS d frm til t t' ws ps) {R : Ix × Int} {F : Dsk} {er : Int} (hF : perfP d (zaz (ixOf d frm til V t) ws (rootN t')) = (F, er))
  (hR : R = if er ≠ 0 then ({ ixOf d frm til V t with disk := F }, er) else (ixOf F frm til (V + 1) t', 0)) : StepX d frm til V t t' R := by
 have hb := h.bd;have hc := hb.1;rw [zjb] at hF;have hpageE : ∀ (e : Dsk), (∀ m ∈ preO t, pageL e m.page = pageL d m.page) -> (∀ x ∈ ws, pageL e x.page = x.data.data.toList) -> ∀ m ∈ preO t', frm + 2 <= m.page /\ m.page < til /\ pageL e m.page = encD m := by
  intro e he1 he2 m hm;obtain ⟨a, b, c⟩ := hp.at_ m hm;refine ⟨a, b, ?_⟩;rcases c with ⟨k, hk, e1, e2⟩ | c
  . rw [<- e1, he1 k hk, (h.pages k hk).2.2, e2]
  . have := he2 _ c;simpa using this
 have key : OutX d frm til V t t' F er /\ ∀ k : Nat, k < d.pages.length -> ((k : Int) < frm \/ til <= k) -> pageL F k = pageL d k := by
  have hhdr : ∀ e : Dsk, Shape d e -> ∀ k : Nat, k < e.pages.length -> ((k : Int) < frm \/ til <= k) -> pageL (perfP e [.wr (frm + (((V + 1) % 2 : Nat) : Int)) (bs (hdrL 512 (V + 1) (rootN t').toNat)), .fl]).1 k = pageL e k := by
   intro e hs k hk hk2;have hs2 := hs.2.2;have hs3 := hs.2.1;refine zdc hs.1 (fun o ho => ?_) hk fun i data hm => ?_
   .
    rcases zmC.1 ho with rfl | ho
    . exact ⟨by omega, by omega, by rw [zaj, zbs (by decide)]; omega⟩
    . rw [zmS.1 ho]; trivial
   .
    rcases zmC.1 hm with e | e
    . simp only [DOp.wr.injEq] at e; rw [e.1]; omega
    . rw [zmS] at e; cases e
  by_cases hw : ws = []
  . rw [if_pos hw, List.nil_append] at hF;have := zhx h hV hp.tm (hpageE d (fun _ _ => rfl) (fun x hx => by rw [hw] at hx; cases hx));rw [hF] at this;refine ⟨this, fun k hk hk2 => ?_⟩;have := hhdr d (.refl hc) k hk hk2;rw [hF] at this;exact this
  .
   rw [if_neg hw, zct] at hF;obtain ⟨hsh, hleft, hres, helse⟩ := zlB h hp.far hp.nodup rfl;have hfar : ∀ k : Nat, k < d.pages.length -> ((k : Int) < frm \/ til <= k) -> pageL (perfP d (ws.map wrO ++ [.fl])).1 k = pageL d k := fun k hk hk2 => helse k hk fun x hx e => by have := hp.far x hx; omega
   rcases hres with ⟨he, hS, hT⟩ | ⟨he, hl0, hcr⟩
   .
    rw [if_neg (by simp [he])] at hF;have hold : ∀ m ∈ preO t, pageL (perfP d (ws.map wrO ++ [.fl])).1 m.page = pageL d m.page := fun m hm => by have := h.pages m hm;rw [(hS.pages m hm).2.2, this.2.2]
    have := zhx hS hV hp.tm (hpageE _ hold hT);rw [hF] at this;obtain ⟨o1, o2, o3⟩ := this;refine ⟨⟨hsh.trans o1, fun e => o2 (hleft e).2, o3⟩, fun k hk hk2 => ?_⟩;have h2 := hhdr _ hsh k (by rw [hsh.2.2]; exact hk) hk2;rw [hF] at h2;rw [h2];exact hfar k hk hk2
   .
    rw [if_pos (by rw [he]; decide)] at hF;have e1 : (perfP d (ws.map wrO ++ [.fl])).1 = F := by rw [hF]
    have e2 : (perfP d (ws.map wrO ++ [.fl])).2 = er := by rw [hF]
    rw [e1] at hsh hl0 hcr hfar hleft;rw [e2] at he hleft;exact ⟨⟨hsh, fun e => by have := (hleft e).1; rw [he] at this; exact absurd this (by decide), .inr ⟨he, hl0, fun picks => .inl (hcr picks)⟩⟩, hfar⟩
 obtain ⟨⟨h1, h2, h3⟩, h4⟩ := key;have hcache : ∀ y ∈ F.cache, frm <= y.page /\ y.page < til := by
  intro y hy;have hgood : ∀ o ∈ ((if ws = [] then [] else ws.map wrO ++ [DOp.fl]) ++ [DOp.wr (frm + (((V + 1) % 2 : Nat) : Int)) (bs (hdrL 512 (V + 1) (rootN t').toNat)), .fl]), za9 d o := by
   intro o ho;rcases zmA.1 ho with ho | ho
   .
    split at ho
    . cases ho
    .
     rcases zmA.1 ho with ho | ho
     . obtain ⟨x, hx, rfl⟩ := List.mem_map.1 ho;have := hp.far x hx;exact ⟨by omega, by omega, by omega⟩
     . rw [zmS.1 ho]; trivial
   .
    rcases zmC.1 ho with rfl | ho
    . exact ⟨by omega, by omega, by rw [zaj, zbs (by decide)]; omega⟩
    . rw [zmS.1 ho]; trivial
  have hy' : y ∈ (perfP d ((if ws = [] then [] else ws.map wrO ++ [DOp.fl]) ++ [DOp.wr (frm + (((V + 1) % 2 : Nat) : Int)) (bs (hdrL 512 (V + 1) (rootN t').toNat)), .fl])).1.cache := by rw [hF]; exact hy
  rcases zc8 hc hgood hy' with hm | hm
  . rw [h.empty] at hm; cases hm
  .
   rcases zmA.1 hm with hm | hm
   .
    split at hm
    . cases hm
    .
     rcases zmA.1 hm with hm | hm
     . obtain ⟨x, hx, e⟩ := List.mem_map.1 hm;simp only [wrO, DOp.wr.injEq] at e;have := hp.far x hx;omega
     . rw [zmS] at hm; cases hm
   .
    rcases zmC.1 hm with e | e
    . simp only [DOp.wr.injEq] at e; omega
    . rw [zmS] at e; cases e
 have hfew : F.cache.length <= 3000 := by
  have h5 := zcV ((if ws = [] then [] else ws.map wrO ++ [DOp.fl]) ++ [DOp.wr (frm + (((V + 1) % 2 : Nat) : Int)) (bs (hdrL 512 (V + 1) (rootN t').toNat)), .fl]) d;rw [hF, h.empty] at h5;have h6 := zda (til - frm - 2).toNat (ws.map PW.page) (frm + 2) hp.nodup fun x hx => by obtain ⟨y, hy, rfl⟩ := List.mem_map.1 hx;have := hp.far y hy;omega
  rw [List.length_map] at h6;have h7 : (if ws = [] then [] else ws.map wrO ++ [DOp.fl]).length <= ws.length + 1 := by split <;> simp
  simp only [zlA, zlC, List.length_nil] at h5;omega
 by_cases he : er = 0
 .
  rw [if_neg (by simp [he])] at hR;subst hR;refine ⟨h1, fun e => ⟨rfl, (h2 e).2⟩, .inl ⟨rfl, ?_, rfl⟩, h4, hcache, hfew⟩;rcases h3 with h3 | h3
  . exact h3.2
  . rw [he] at h3; exact absurd h3.1 (by decide)
 .
  rw [if_pos he] at hR;subst hR;refine ⟨h1, fun e => absurd (h2 e).1 he, .inr ?_, h4, hcache, hfew⟩;rcases h3 with h3 | h3
  . exact absurd h3.1 he
  . exact ⟨h3.1, h3.2.1, rfl, h3.2.2⟩
theorem zff {d : Dsk} {frm til : Int} {V : Nat} {t : Option Nd} (h : IxS d frm til V t) (hV : V + 1 <= 200) (l : List Chg) :
  (chgsE none l ≠ 0 /\ zan (ixOf d frm til V t) l = (zeroX, chgsE none l)) \/
  (chgsE none l = 0 /\ l.any (zaW t) = true /\ zan (ixOf d frm til V t) l = (zeroX, 15)) \/
  (chgsE none l = 0 /\ l.any (zaW t) = false /\ l = [] /\ zan (ixOf d frm til V t) l = (ixOf d frm til V t, 0)) \/
  (chgsE none l = 0 /\ l.any (zaW t) = false /\ l ≠ [] /\ (ixOf d frm til V t).free.length < (zdX (zaf t) l).length /\ zan (ixOf d frm til V t) l = (zeroX, 17)) \/
  (chgsE none l = 0 /\ l.any (zaW t) = false /\ l ≠ [] /\ ∃ t' p, planP (ixOf d frm til V t) t l = some (t', p) /\ OTm t' /\ zaf t' = zdX (zaf t) l /\ StepX d frm til V t t' (zan (ixOf d frm til V t) l)) := by
 have hv : zat (ixOf d frm til V t) = some t := by rw [zb3]; exact h.valid
 by_cases hc : chgsE none l = 0
 .
  right;cases hcl : l.any (zaW t) with
  | true => exact .inl ⟨hc, rfl, zbd hv hc hcl⟩
  | false =>
   right
   by_cases h0 : l = []
   . subst h0; exact .inl ⟨hc, rfl, rfl, zeO hv⟩
   .
    right;have hk : ∀ c ∈ l, KvOk (c.key, c.new) := fun c hc' => (zcG hc c hc').1;have hver : (ixOf d frm til V t).ver ≠ 1099511627776 := by have := h.small; show (V : Int) ≠ _; omega
    rcases hp : planP (ixOf d frm til V t) t l with _ | r
    . exact .inl ⟨hc, rfl, h0, zgO h.tm hk hp, zbM hv hc hcl h0 (.inl hp)⟩
    . obtain ⟨t', p⟩ := r;obtain ⟨F, er, hF⟩ : ∃ F er, perfP d (zaz (ixOf d frm til V t) p.ws (rootN t')) = (F, er) := ⟨_, _, rfl⟩;have hps := zjr h hk hp;refine .inr ⟨hc, rfl, h0, t', p, rfl, hps.tm, hps.prs, zjT h hV hps hF ?_⟩;exact zbN hv hc hcl h0 hp hver hF
 . exact .inl ⟨hc, zel hv hc⟩
theorem fmt_X {d : Dsk} {frm til : Int} (h : (fmtX d frm til).2 = 0) : IxS (fmtX d frm til).1 frm til 1 none /\ Shape d (fmtX d frm til).1 /\ (d.left = -1 -> (fmtX d frm til).1.left = -1) /\
  ∀ k : Nat, k < d.pages.length -> ((k : Int) < frm \/ til <= k) -> pageL (fmtX d frm til).1 k = pageL d k := by
 by_cases hf : fitX d frm til = 0
 .
  unfold fmtX at h |-;rw [if_neg (by simp [hf])] at h |-;have hfz := zfV hf;have hc := hfz.1;obtain ⟨ops, hops⟩ : ∃ ops, [DOp.wr frm (bs (padZ [])), .wr (frm + 1) (bs (hdrL 512 1 0)), .fl] = ops := ⟨_, rfl⟩;rw [hops] at h |-;have hz : padZ [] = List.replicate 512 0 := rfl;have hgood : ∀ o ∈ ops, za9 d o := by
   intro o ho;rw [<- hops] at ho;rcases zmC.1 ho with rfl | ho
   . exact ⟨by omega, by omega, by rw [zaj, hz, List.length_replicate]; omega⟩
   .
    rcases zmC.1 ho with rfl | ho
    . exact ⟨by omega, by omega, by rw [zaj, zbs (by decide)]; omega⟩
    . rw [zmS.1 ho]; trivial
  have hsh := (zbV (ops := ops) hc hgood).1;have hmem : ∀ i data, DOp.wr i data ∈ ops -> (i = frm /\ data = bs (padZ [])) \/ (i = frm + 1 /\ data = bs (hdrL 512 1 0)) := by
   intro i data hm;rw [<- hops] at hm;rcases zmC.1 hm with e | hm
   . simp only [DOp.wr.injEq] at e; exact .inl e
   .
    rcases zmC.1 hm with e | hm
    . simp only [DOp.wr.injEq] at e; exact .inr e
    . rw [zmS] at hm; cases hm
  obtain ⟨q, rfl⟩ : ∃ q : Nat, frm = q := ⟨frm.toNat, by omega⟩;have p0 : pageL (perfP d ops).1 q = List.replicate 512 0 := by
   refine zeb hc hgood (by omega) h (fun i data hm e => ?_) (.inr ⟨q, _, by rw [<- hops]; exact List.mem_cons_self, rfl⟩);rcases hmem i data hm with ⟨_, e2⟩ | ⟨e1, _⟩
   . rw [e2, za3, hz]
   . omega
  have p1 : pageL (perfP d ops).1 ((q : Int) + 1) = hdrL 512 1 0 := by
   have : ((q : Int) + 1) = ((q + 1 : Nat) : Int) := by omega
   rw [this];refine zeb hc hgood (by omega) h (fun i data hm e => ?_) (.inr ⟨(q : Int) + 1, bs (hdrL 512 1 0), by rw [<- hops]; exact List.mem_cons_of_mem _ List.mem_cons_self, by omega⟩);rcases hmem i data hm with ⟨e1, _⟩ | ⟨_, e2⟩
   . omega
   . rw [e2, za3]
  have hlast : (perfP d ops).1.cache = [] /\ (d.left = -1 -> (perfP d ops).1.left = -1) := by
   have hsplit : ops = [(⟨q, bs (padZ [])⟩ : PW), ⟨(q : Int) + 1, bs (hdrL 512 1 0)⟩].map wrO ++ [.fl] := hops.symm;have hg2 : ∀ x ∈ [(⟨q, bs (padZ [])⟩ : PW), ⟨(q : Int) + 1, bs (hdrL 512 1 0)⟩], za9 d (wrO x) := fun x hx => hgood _ (by rw [hsplit]; exact List.mem_append_left _ (List.mem_map.2 ⟨x, hx, rfl⟩));obtain ⟨j, _, _, _, hres⟩ := zh0 _ hc hg2;have hsh1 := (zbV (ops := [(⟨q, bs (padZ [])⟩ : PW), ⟨(q : Int) + 1, bs (hdrL 512 1 0)⟩].map wrO) hc (fun o ho => hgood o (by rw [hsplit]; exact List.mem_append_left _ ho))).1;rw [hsplit, zct] at h |-;generalize perfP d ([(⟨q, bs (padZ [])⟩ : PW), ⟨(q : Int) + 1, bs (hdrL 512 1 0)⟩].map wrO) = P at h hres hsh1 |-;rcases hres with ⟨he, _, hlf⟩ | ⟨he, _, _⟩
   .
    rw [if_neg (by simp [he])] at h |-
    by_cases hl : P.1.left = 0
    . rw [zbX hsh1.1 (by intro o ho; rw [zmS.1 ho]; trivial) hl (by simp)] at h;cases h
    . have hfl := zcJ hsh1.1 hl;rw [zcq (by rw [hfl]), perfP, hfl];refine ⟨rfl, fun e => ?_⟩;have := hlf e;simp only;unfold opD;simp only;rw [if_neg (by omega)];exact this
   . rw [if_pos (by rw [he]; decide), he] at h;cases h
  refine ⟨⟨zdP hf hsh, hlast.1, Nat.le_refl 1, by omega, p1, ?_, (fun n e => by cases e), (fun m hm => by cases hm)⟩, hsh, hlast.2, fun k hk hk2 => ?_⟩
  .
   have : pageL (perfP d ops).1 ((q : Int) + (((1 + 1) % 2 : Nat) : Int)) = List.replicate 512 0 := by rw [<- p0]; simp
   rw [this];exact zli (by decide) (Nat.le_refl 1)
  . refine zdc hc hgood hk fun i data hm => ?_;rcases hmem i data hm with ⟨e, _⟩ | ⟨e, _⟩ <;> omega
 . unfold fmtX at h;rw [if_pos hf] at h;exact absurd h hf
def valK (l : List Kv) (key : ByteArray) : ByteArray × Bool :=
 match l.find? fun p => decide (p.1 = key) with
 | none => (ByteArray.empty, false)
 | some p => (p.2, true)
theorem zj2 {l : List Kv} {key : ByteArray} (h : (valK l key).2 = false) : valK l key = (ByteArray.empty, false) /\ ∀ p ∈ l, p.1 ≠ key := by
 unfold valK at h |-;cases hf : l.find? fun p => decide (p.1 = key) with
 | none => rw [List.find?_eq_none] at hf;exact ⟨rfl, fun p hp e => hf p hp (by simpa using e)⟩
 | some p => rw [hf] at h; cases h
theorem zll {l : List Kv} {key : ByteArray} (h : ∀ p ∈ l, p.1 ≠ key) : valK l key = (ByteArray.empty, false) := by
 unfold valK;have : l.find? (fun p => decide (p.1 = key)) = none := List.find?_eq_none.2 fun p hp => by simpa using h p hp
 rw [this]
theorem zlP {A B C : List Kv} {key : ByteArray} (hA : ∀ p ∈ A, kLt p.1 key = true) (hC : ∀ p ∈ C, kLt key p.1 = true) : valK (A ++ (B ++ C)) key = valK B key := by
 have h1 : A.find? (fun p => decide (p.1 = key)) = none := List.find?_eq_none.2 fun p hp => by simpa using zcd (hA p hp)
 have h2 : C.find? (fun p => decide (p.1 = key)) = none := List.find?_eq_none.2 fun p hp => by simpa using fun e : p.1 = key => zcd (hC p hp) e.symm
 unfold valK;rw [List.find?_append, h1, List.find?_append, h2];simp
theorem zlD {ps : List Kv} (h : Asc ps) (key : ByteArray) : getL ps key = valK ps key := by
 induction ps with
 | nil => rfl
 | cons p l ih =>
  obtain ⟨h1, h2⟩ := List.pairwise_cons.1 h;have ih' := ih h2
  by_cases hp : kLt p.1 key = true
  .
   have e1 : findI (p :: l) key = findI l key + 1 := by unfold findI; rw [List.takeWhile_cons, if_pos hp]; rfl
   have e2 : findB (p :: l) key = findB l key := by unfold findB; rw [e1]; rfl
   have e3 : valK (p :: l) key = valK l key := by unfold valK;rw [List.find?_cons_of_neg (by simpa using zcd hp)]
   rw [e3, <- ih'];unfold getL;rw [e1, e2];rfl
  .
   have hp' : kLt p.1 key = false := by simpa using hp
   have e1 : findI (p :: l) key = 0 := by unfold findI; rw [List.takeWhile_cons, if_neg hp]; rfl
   by_cases hk : p.1 = key
   .
    have e3 : valK (p :: l) key = (p.2, true) := by unfold valK;rw [List.find?_cons_of_pos (by simpa using hk)]
    have e2 : findB (p :: l) key = true := by unfold findB; rw [e1]; simpa using hk
    rw [e3];unfold getL;rw [e1, e2];rfl
   .
    have e2 : findB (p :: l) key = false := by unfold findB; rw [e1]; simpa using hk
    have hlt : kLt key p.1 = true := by
     cases g : kLt key p.1
     . exact absurd (zbU hp' g) hk
     . rfl
    have e3 : valK (p :: l) key = (ByteArray.empty, false) := zll fun q hq e => by
     rcases zmC.1 hq with rfl | hq
     . exact hk e
     . have := zaX hlt (h1 q hq);rw [e, zcy] at this;cases this
    rw [e3];unfold getL;rw [e2];rfl
theorem zlH (key : ByteArray) : ∀ {n : Nd} {a b h : Nat}, Tm a b h n -> Asc n.prs -> getL (n.leafAt key) key = valK n.prs key := by
 intro n
 induction n using Nd.ind with
 | h ps kids page ih =>
  intro a b h t ha
  by_cases hk0 : kids = []
  . rw [Nd.leafAt_leaf (n := .mk ps kids page) hk0, Nd.prs_leaf (n := .mk ps kids page) hk0];rw [Nd.prs_leaf (n := .mk ps kids page) hk0] at ha;exact zlD ha key
  .
   obtain ⟨h, rfl⟩ : ∃ m, h = m + 1 := by
    cases h with
    | zero => exact absurd (t.leaf.1 rfl) hk0
    | succ m => exact ⟨m, rfl⟩
   obtain ⟨-, -, g2, g8, hk⟩ := t.inn';simp only [Nd.kids] at hk;have hprs : (Nd.mk ps kids page).prs = (kids.map Nd.prs).flatten := Nd.prs_inner hk0;rw [Nd.leafAt_kid (n := .mk ps kids page) hk0, hprs];rw [hprs] at ha;simp only [Nd.kids];have hil := zaG key hk0;obtain ⟨i, hi⟩ : ∃ i, zav kids key = i := ⟨_, rfl⟩;simp only [hi] at hil |-;obtain ⟨hA, hC⟩ := zc7 hk ha hi hil;have hcm : kids[i] ∈ kids := List.getElem_mem hil;have hcasc : Asc kids[i].prs := ha.sub (List.sublist_flatten_of_mem (List.mem_map.2 ⟨_, hcm, rfl⟩));rw [ih _ hcm (hk _ hcm) hcasc, zcv hil, zlP hA hC]
theorem zlt {t : Option Nd} (h : OTm t) (key : ByteArray) : getO t key = valK (zaf t) key := by
 cases t with
 | none => rfl
 | some n => obtain ⟨⟨k, h1⟩, h2⟩ := h n rfl;exact zlH key h1 h2
theorem zk6 (l : List Kv) (key : ByteArray) : getP l key = ((valK l key).1, if (valK l key).2 then 0 else 7) := by
 unfold getP valK;cases l.find? fun p => decide (p.1 = key) with
 | none => rfl
 | some p => rfl
theorem zng (x : Ix) (key : ByteArray) : getPP x key = getX x key := by
 unfold getPP getX;rw [zb3];cases h : za7 x with
 | none => rfl
 | some t =>
  simp only;rw [zlt (zg9 h), zk6];cases hv : (valK (zaf t) key).2 with
  | true => simp
  | false => simp [(zj2 hv).1]
theorem zmg (x : Ix) (low high : ByteArray) : zcN x low high = scanX x low high := by
 unfold zcN scanX;rw [zb3];cases za7 x <;> rfl
theorem zi0 {d : Dsk} {frm til : Int} (hf : fitX d frm til = 0) (hl : d.left = -1) : (fmtX d frm til).2 = 0 := by
 have hfz := zfV hf;unfold fmtX;rw [if_neg (by simp [hf])];refine (zfk _ hfz.1 (fun o ho => ?_) hl).1;rcases zmC.1 ho with rfl | ho
 . exact ⟨by omega, by omega, by rw [zaj, show padZ [] = List.replicate 512 0 from rfl, List.length_replicate]; omega⟩
 .
  rcases zmC.1 ho with rfl | ho
  . exact ⟨by omega, by omega, by rw [zaj, zbs (by decide)]; omega⟩
  . rw [zmS.1 ho]; trivial
theorem zck (a b : UInt8) : kLt ⟨#[a]⟩ ⟨#[b]⟩ = decide (a < b) := by simp [kLt, ByteArray.toList_eq, Go.Op.bytesLess]
abbrev kA : ByteArray := ⟨#[97]⟩
abbrev kB : ByteArray := ⟨#[98]⟩
abbrev kC : ByteArray := ⟨#[99]⟩
abbrev kD : ByteArray := ⟨#[100]⟩
abbrev kvE (k : ByteArray) : Kv := (k, ByteArray.empty)
theorem zmj {ps L : List Kv} {x : Kv} (h : withP ps x = L) (hl : L.length <= 3) : putN (some (lfN ps)) x = lfN L := by
 have : insN x (lfN ps) = (lfN L, none) := by rw [zdx (n := lfN ps) rfl, <- za5 hl, <- h]; rfl
 unfold putN;simp only;rw [this]
theorem zm4 {ps L : List Kv} {x : Kv} (h : withP ps x = L) (hl : 3 < L.length) : putN (some (lfN ps)) x = inN [lfN (L.take 2), lfN (L.drop 2)] := by
 have : insN x (lfN ps) = (lfN (L.take 2), some (lfN (L.drop 2))) := by rw [zdx (n := lfN ps) rfl, <- zcs hl, <- h]; rfl
 unfold putN;simp only;rw [this]
theorem zlV : withP [kvE kA] (kvE kB) = [kvE kA, kvE kB] := by simp [withP, zck]
theorem zls : withP [kvE kA, kvE kB] (kvE kC) = [kvE kA, kvE kB, kvE kC] := by simp [withP, zck]
theorem zlx : withP [kvE kA, kvE kB, kvE kC] (kvE kD) = [kvE kA, kvE kB, kvE kC, kvE kD] := by simp [withP, zck]
abbrev addC (k : ByteArray) : Chg := ⟨k, false, ByteArray.empty, true, ByteArray.empty⟩
abbrev awC1 : List Chg := [addC kA, addC kB, addC kC, addC kD]
abbrev awC2 : List Chg := [⟨kD, true, ByteArray.empty, false, ByteArray.empty⟩]
abbrev awN1 : Nd := inN [lfN [kvE kA, kvE kB], lfN [kvE kC, kvE kD]]
theorem zh9 : awC1.foldl chg1 none = some awN1 := by
 simp only [awC1, List.foldl_cons, List.foldl_nil, chg1, addC, if_true];rw [show putN none (kA, ByteArray.empty) = lfN [kvE kA] from rfl, zmj zlV (by decide), zmj zls (by decide), zm4 zlx (by decide)];rfl
abbrev awT1 : Nd := .mk [] [.mk [kvE kA, kvE kB] [] 2, .mk [kvE kC, kvE kD] [] 3] 4
theorem zix : zap 0 10 [] = [2, 3, 4, 5, 6, 7, 8, 9] := by decide +kernel
theorem zil (d : Dsk) : ∃ p, planP (ixOf d 0 10 1 none) none awC1 = some (some awT1, p) := by
 unfold planP;rw [Option.map_none, zh9];simp only [ixOf, usedN, zix];exact ⟨_, rfl⟩
theorem zij : zav [lfN [kvE kA, kvE kB], lfN [kvE kC, kvE kD]] kD = 1 := by simp [zav, lfN, Nd.least, zck]
theorem zja : zao [kvE kC, kvE kD] kD = [kvE kC] := by simp [zao]
theorem znt : remN kD awN1 = inN [.mk [kvE kA, kvE kB, kvE kC] [] 0] := by
 rw [remN, if_neg (by simp [awN1, inN, Nd.kids])];split
 .
  rename_i h
  simp only [awN1, inN, Nd.kids] at h;rw [zij] at h;simp at h
 .
  rename_i c h
  simp only [awN1, inN, Nd.kids] at h |-;rw [zij] at h |-;simp only [List.getElem?_cons_succ, List.getElem?_cons_zero, Option.some.injEq] at h;subst h;rw [zeu (n := lfN [kvE kC, kvE kD]) rfl, show (lfN [kvE kC, kvE kD]).ps = [kvE kC, kvE kD] from rfl, zja];rfl
abbrev awT2 : Nd := .mk [kvE kA, kvE kB, kvE kC] [] 5
theorem ziE : awC2.foldl chg1 (some awN1) = some (.mk [kvE kA, kvE kB, kvE kC] [] 0) := by
 simp only [awC2, List.foldl_cons, List.foldl_nil, chg1, Bool.false_eq_true, if_false, dropN];rw [znt];rfl
theorem zla {g : Int} : zcM (some awT1) (bs (encD (.mk [kvE kA, kvE kB, kvE kC] [] 0))) ≠ some g := by
 intro h;obtain ⟨k, hk, _, e⟩ := zfh h;have e0 := congrArg (fun l : List UInt8 => (l.getD 0 0, l.getD 1 0)) e;simp only [preO, Nd.pre, Nd.preK, List.append_nil, List.cons_append, List.nil_append, zmC, List.not_mem_nil, or_false] at hk;rcases hk with rfl | rfl | rfl
 . exact absurd e0 (by simp [encD, encL, encIn, encLf, padZ, Nd.kids, Nd.ps])
 . exact absurd e0 (by simp [encD, encL, encLf, padZ, Nd.kids, Nd.ps])
 . exact absurd e0 (by simp [encD, encL, encLf, padZ, Nd.kids, Nd.ps])
theorem zii : zap 0 10 (usedN (some awT1)) = [5, 6, 7, 8, 9] := by decide +kernel
theorem zle : (zap 0 10 (usedN (some awT2))).length = 7 := by decide +kernel
theorem aw_er : awT1.er = awN1 := rfl
theorem ziX {look : List UInt8 -> Option Int} {ps : List Kv} {g : Int} {r : List Int} {ws : List PW} (h : look (encD (.mk ps [] 0)) = none) : ∃ q, za0 look (.mk ps [] 0) ⟨g :: r, ws⟩ = some (.mk ps [] g, q) := by
 rw [zbh];simp only [Nd.kids, Nd.ps, zaT];rw [h];exact ⟨_, rfl⟩
theorem zl6 (d : Dsk) : ∃ p, planP (ixOf d 0 10 2 (some awT1)) (some awT1) awC2 = some (some awT2, p) := by
 obtain ⟨q, hq⟩ := ziX (look := fun s => zcM (some awT1) (bs s)) (ps := [kvE kA, kvE kB, kvE kC]) (g := 5) (r := [6, 7, 8, 9]) (ws := []) (Option.eq_none_iff_forall_ne_some.2 fun g => zla);refine ⟨q, ?_⟩;unfold planP;rw [Option.map_some, aw_er, ziE];simp only [ixOf, zii];rw [hq];rfl
theorem zh5 : chgsE none awC1 = 0 := by
 simp [chgsE, chgE, zck]
 decide
theorem zjI : chgsE none awC2 = 0 := by
 simp [chgsE, chgE]
 decide
theorem zkj : awC1.any (zaW none) = false := by simp [awC1, zaW, getO, addC]
theorem znn : getO (some awT1) kD = (ByteArray.empty, true) := by
 have hl : awT1.leafAt kD = [kvE kC, kvE kD] := by
  rw [Nd.leafAt_kid (n := awT1) (by simp [Nd.kids])];have hc : zav awT1.kids kD = 1 := by simp [zav, Nd.kids, Nd.least, zck]
  have : ∀ i (hi : i < awT1.kids.length), i = 1 -> (awT1.kids[i]).leafAt kD = [kvE kC, kvE kD] := by rintro i hi rfl;exact Nd.leafAt_leaf rfl
  exact this _ _ hc
 unfold getO;simp only;rw [hl];simp [getL, findB, findI, zck]
theorem zj0 : awC2.any (zaW (some awT1)) = false := by
 simp only [awC2, List.any_cons, List.any_nil, zaW, znn]
 decide
theorem zm1 : scanP (Nd.prs awT2) kB ByteArray.empty = [kvE kB, kvE kC] := by
 rw [Nd.prs_leaf (n := awT2) rfl];simp [scanP, Nd.ps, zck]
theorem step_ok {d : Dsk} {frm til : Int} {V : Nat} {t t' : Option Nd} {R : Ix × Int} (h : StepX d frm til V t t' R) (hl : d.left = -1) : R = (ixOf R.1.disk frm til (V + 1) t', 0) /\ IxS R.1.disk frm til (V + 1) t' /\ R.1.disk.left = -1 := by
 obtain ⟨f1, f2⟩ := h.full hl;rcases h.res with ⟨h1, h2, h3⟩ | ⟨h1, _⟩
 . exact ⟨Prod.ext h3 h1, h2, f2⟩
 . rw [f1] at h1; exact absurd h1 (by decide)
theorem zkZ : ∃ (d0 d1 : Dsk) (x1 x2 x3 : Ix), newD 10 512 = (d0, 0) /\ fmtX d0 0 10 = (d1, 0) /\ openP d1 0 10 = (x1, 0) /\ zan x1 awC1 = (x2, 0) /\ x2.root = 4 /\ zan x2 awC2 = (x3, 0) /\ x3.root = 5 /\ x3.ver = 3 /\ x3.free.length = 7 /\ zcN x3 kB ByteArray.empty = ([kvE kB, kvE kC], 0) /\
  d0.cache = [] /\ x1.disk.cache = [] /\ x2.disk.cache = [] /\ ∀ t, zat x3 = some t -> (zaf t).length <= 1000000 := by
 obtain ⟨n1, n2, n3, n4, n5, n6⟩ := znq (p := 10) (s := 512) (by decide);obtain ⟨d0, hd0⟩ : ∃ d0, (newD 10 512).1 = d0 := ⟨_, rfl⟩;rw [hd0] at n2 n3 n4 n5 n6;have hf : fitX d0 0 10 = 0 := zjy n4 n5 (by decide) (by omega) (by decide) (by decide);have hfm := zi0 hf n2;obtain ⟨f1, f2, f3, _⟩ := fmt_X hfm;obtain ⟨d1, hd1⟩ : ∃ d1, (fmtX d0 0 10).1 = d1 := ⟨_, rfl⟩;rw [hd1] at f1 f2 f3;have ho := f1.opens;have hl1 := f3 n2;rcases zff f1 (by decide) awC1 with h | h | h | h | ⟨_, _, _, t', p, hp, _, _, hS⟩
 . exact absurd zh5 h.1
 . rw [zkj] at h; exact absurd h.2.1 (by decide)
 . exact absurd h.2.2.1 (by simp [awC1])
 .
  obtain ⟨p, hp⟩ := zil d1;have := zgO f1.tm (d := d1) (frm := 0) (til := 10) (V := 1) (l := awC1) (fun c hc => (zcG zh5 c hc).1);exfalso;have h5 := h.2.2.2.1;simp only [ixOf, usedN, zix] at h5;have h6 : (zdX (zaf none) awC1).length = 4 := by have := zbY (o := none) (l := awC1) (fun n e => by cases e) (fun c hc => (zcG zh5 c hc).1);rw [zh9] at this;rw [<- this];rfl
  rw [h6] at h5;exact absurd h5 (by decide)
 .
  obtain ⟨p', hp'⟩ := zil d1;rw [hp'] at hp;simp only [Option.some.injEq, Prod.mk.injEq] at hp;obtain ⟨rfl, rfl⟩ := hp;obtain ⟨e1, e2, e3⟩ := step_ok hS hl1;obtain ⟨d2, hd2⟩ : ∃ d2, (zan (ixOf d1 0 10 1 none) awC1).1.disk = d2 := ⟨_, rfl⟩;rw [hd2] at e1 e2 e3;rcases zff e2 (by decide) awC2 with h | h | h | h | ⟨_, _, _, t', p, hp, _, _, hS⟩
  . exact absurd zjI h.1
  . rw [zj0] at h; exact absurd h.2.1 (by decide)
  . exact absurd h.2.2.1 (by simp [awC2])
  .
   exfalso;have h5 := h.2.2.2.1;simp only [ixOf, zii] at h5;have h6 : (zdX (zaf (some awT1)) awC2).length = 3 := by
    have := zbY (o := some awN1) (l := awC2) (by
     intro n e;rw [<- aw_er] at e;exact e2.tm.er n e) (fun c hc => (zcG zjI c hc).1)
    rw [ziE] at this;have hpe : zaf (some awT1) = zaf (some awN1) := by rw [<- aw_er]; exact (zes (some awT1)).symm
    rw [hpe, <- this];rfl
   rw [h6] at h5;exact absurd h5 (by decide)
  .
   obtain ⟨p', hp'⟩ := zl6 d2;rw [hp'] at hp;simp only [Option.some.injEq, Prod.mk.injEq] at hp;obtain ⟨rfl, rfl⟩ := hp;obtain ⟨g1, g2, g3⟩ := step_ok hS e3;obtain ⟨d3, hd3⟩ : ∃ d3, (zan (ixOf d2 0 10 (1 + 1) (some awT1)) awC2).1.disk = d3 := ⟨_, rfl⟩;rw [hd3] at g1 g2 g3;have hv : zat (ixOf d3 0 10 (1 + 1 + 1) (some awT2)) = some (some awT2) := by rw [zb3]; exact g2.valid
   refine ⟨d0, d1, ixOf d1 0 10 1 none, ixOf d2 0 10 (1 + 1) (some awT1), ixOf d3 0 10 (1 + 1 + 1) (some awT2), Prod.ext hd0 n1, Prod.ext hd1 hfm, by rw [zm7]; exact ho, e1, rfl, g1, rfl, rfl, zle, ?_, n3, f1.empty, e2.empty, ?_⟩
   . unfold zcN;rw [hv];simp only [zaf, zm1]
   .
    intro t ht;rw [hv] at ht;cases ht;simp only [zaf];rw [Nd.prs_leaf (n := awT2) rfl]
    decide
end Go.Proofs.YtlefmmhlpgmbjaaGreat
