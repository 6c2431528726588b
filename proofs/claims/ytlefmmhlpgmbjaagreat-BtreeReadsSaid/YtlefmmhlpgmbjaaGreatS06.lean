/- Trees of the program in memory (addressed trees); nodes of the reference in memory; the least key on both sides. The page of a node: btree.encode. Lazy's law for a region inside a fence that lets everything pass (the body of a range over a function); rows of cells read, and rows compared, in the one walk. 'T{x}' and appends of elements of many cells. No function of the program is named here. Guarded operations that are wanted: load of a row, list of one. The page of an inner node: btree.encode. Nodes of the reference in memory; quiltref42.short, least. -/
import Derived.Test.YtlefmmhlpgmbjaaGreatS05
import Derived.Test.YtlefmmhlpgmbjaaGreatS04
import Derived.OrdersIn
import Derived.RangeFuncCalls
import Derived.Test.YtlefmmhlpgmbjaaGreatS01
namespace Go.Proofs.YtlefmmhlpgmbjaaGreat
set_option maxRecDepth 100000
open Go.RowKit
def kvC (p : Kv) : List Value := [.string p.1, .string p.2]
def kvsC (l : List Kv) : List Value := (l.map kvC).flatten
theorem zjz (l : List Kv) : ∀ x ∈ l.map kvC, x.length = 2 := by
 intro x hx;obtain ⟨p, _, rfl⟩ := List.mem_map.1 hx;rfl
theorem zcu (l : List Kv) : (kvsC l).length = l.length * 2 := by
 unfold kvsC
 induction l with
 | nil => rfl
 | cons p l ih => rw [List.map_cons, List.flatten_cons, zlA, ih, zlC]; simp [kvC]; omega
theorem zbP (l m : List Kv) : kvsC (l ++ m) = kvsC l ++ kvsC m := by simp [kvsC]
theorem zec {l : List Kv} {i : Nat} (h : i < l.length) : (kvsC l)[i * 2]? = some (.string l[i].1) /\ (kvsC l)[i * 2 + 1]? = some (.string l[i].2) := by
 have h0 := flat_get (zjz l) i 0 (by omega);have h1 := flat_get (zjz l) i 1 (by omega);rw [List.getElem?_map, List.getElem?_eq_getElem h] at h0 h1;exact ⟨h0, h1⟩
theorem zb4 (l : List Kv) : ∀ u ∈ kvsC l, u.oneCell' = true := by
 intro u hu;obtain ⟨x, hx, hu⟩ := List.mem_flatten.1 hu;obtain ⟨p, _, rfl⟩ := List.mem_map.1 hx;simp [kvC] at hu;rcases hu with rfl | rfl <;> rfl
theorem zb7 {α : Type} {l m : List α} {n j : Nat} (h : l.take n = m) (hj : j < m.length) : l[j]? = some m[j] := by
 subst h;have h1 : j < n /\ j < l.length := by rw [List.length_take] at hj; omega
 rw [List.getElem_take, List.getElem?_eq_getElem h1.2]
def RowO (w : World) (base : Nat) (e : TypeId) (k : Nat) (v : Value) (n : Nat) (xs : List Value) : Prop :=
 xs.length = n * k /\ ((v = .slice none 0 0 /\ n = 0) \/
  ∃ g cap cur, v = .slice (some ⟨g, 0, none⟩) n cap /\ base <= g /\ w.heap[g]? = some (.cells cur e (0, 0)) /\ n <= cap /\ cap <= maxLen /\ cap * k <= cur.size /\ cur.toList.take (n * k) = xs)
theorem RowO.own {w : World} {base k n : Nat} {e : TypeId} {v : Value} {xs : List Value} (h : w.ownsRow base e k v n xs) : RowO w base e k v n xs := by
 refine ⟨h.1, ?_⟩;rcases h.2 with h | ⟨g, cap, cur, h1, h2, h3, h4, h5, h6, h7⟩
 . exact .inl h
 . exact .inr ⟨g, cap, cur, h1, h2, h3, h4, h5, by omega, h7⟩
theorem RowO.lt {w : World} {base k n : Nat} {e : TypeId} {v : Value} {xs : List Value} (h : RowO w base e k v n xs) : ∀ g, v.ownBlock = some g -> base <= g /\ g < w.heap.size := by
 intro g hg;rcases h.2 with ⟨rfl, _⟩ | ⟨g', cap, cur, rfl, hb, hh, _⟩
 . simp [Value.ownBlock] at hg
 . simp [Value.ownBlock] at hg;subst hg;exact ⟨hb, (Array.getElem?_eq_some_iff.1 hh).1⟩
theorem RowO.same {w w' : World} {base k n : Nat} {e : TypeId} {v : Value} {xs : List Value} (h : RowO w base e k v n xs) (hw : ∀ g, v.ownBlock = some g -> w'.heap[g]? = w.heap[g]?) : RowO w' base e k v n xs := by
 refine ⟨h.1, ?_⟩;rcases h.2 with h | ⟨g, cap, cur, rfl, h2, h3, h4⟩
 . exact .inl h
 . exact .inr ⟨g, cap, cur, rfl, h2, (hw g rfl).trans h3, h4⟩
theorem RowO.at {w : World} {base k n : Nat} {e : TypeId} {v : Value} {xs : List Value} (h : RowO w base e k v n xs) :
  ∃ o c, v = .slice o n c /\ SlW o n c /\ RowAt (fun g => v.ownBlock = some g) w o xs := by
 rcases h.2 with ⟨rfl, rfl⟩ | ⟨g, cap, cur, rfl, hb, hh, hn, hc, hs, ht⟩
 . have hx : xs = [] := List.eq_nil_of_length_eq_zero (by simpa using h.1);subst hx;exact ⟨none, 0, rfl, .inl ⟨rfl, rfl, rfl⟩, RowAt.nil _ _ _⟩
 . refine ⟨_, cap, rfl, .inr ⟨_, rfl, hn, hc⟩, ?_⟩;intro j hj;refine ⟨g, 0, rfl, ?_, rfl⟩;have hj' : cur.toList[j]? = some xs[j] := zb7 ht hj;simp [World.cell?, hh];rw [<- Array.getElem?_toList];exact hj'
inductive AT where
 | mk (b : Nat) (pv kv : Value) (ps : List Kv) (kids : List AT) (page : Int)
def AT.b : AT -> Nat | .mk b _ _ _ _ _ => b
def AT.pv : AT -> Value | .mk _ v _ _ _ _ => v
def AT.kv : AT -> Value | .mk _ _ v _ _ _ => v
def AT.ps : AT -> List Kv | .mk _ _ _ l _ _ => l
def AT.kids : AT -> List AT | .mk _ _ _ _ l _ => l
def AT.page : AT -> Int | .mk _ _ _ _ _ p => p
theorem AT.ind {P : AT -> Prop} (h : ∀ b pv kv ps kids page, (∀ k ∈ kids, P k) -> P (.mk b pv kv ps kids page)) (n : AT) : P n :=
 AT.rec (motive_1 := P) (motive_2 := fun l => ∀ k ∈ l, P k) (fun b pv kv ps kids page ih => h b pv kv ps kids page ih) (fun k hk => by cases hk)
  (fun x l hx hl k hk => (zmC.1 hk).elim (fun e => e ▸ hx) (hl k)) n
def AT.ptr (t : AT) : Value := .pointer (some ⟨t.b, 0, none⟩)
mutual
def AT.nd : AT -> Nd
 | .mk _ _ _ ps kids page => .mk ps (AT.ndL kids) page
def AT.ndL : List AT -> List Nd
 | [] => []
 | t :: l => t.nd :: AT.ndL l
end
theorem AT.ndL_eq (l : List AT) : AT.ndL l = l.map AT.nd := by
 induction l with
 | nil => rfl
 | cons x l ih => rw [AT.ndL, ih]; rfl
theorem AT.nd_eq (t : AT) : t.nd = .mk t.ps (t.kids.map AT.nd) t.page := by
 cases t with | mk b pv kv ps kids page => rw [AT.nd, AT.ndL_eq]; rfl
theorem AT.nd_kids (t : AT) : t.nd.kids = t.kids.map AT.nd := by rw [AT.nd_eq]; rfl
theorem AT.nd_ps (t : AT) : t.nd.ps = t.ps := by rw [AT.nd_eq]; rfl
theorem AT.nd_page (t : AT) : t.nd.page = t.page := by rw [AT.nd_eq]; rfl
mutual
def AT.fp : AT -> List Nat
 | .mk b pv kv _ kids _ => b :: (pv.ownBlock.toList ++ (kv.ownBlock.toList ++ AT.fpL kids))
def AT.fpL : List AT -> List Nat
 | [] => []
 | t :: l => t.fp ++ AT.fpL l
end
theorem AT.fpL_eq (l : List AT) : AT.fpL l = (l.map AT.fp).flatten := by
 induction l with
 | nil => rfl
 | cons x l ih => rw [AT.fpL, ih]; rfl
theorem AT.mem_fpL {l : List AT} {x : Nat} : x ∈ AT.fpL l ↔ ∃ t ∈ l, x ∈ t.fp := by
 rw [AT.fpL_eq, List.mem_flatten];constructor
 . rintro ⟨y, hy, hx⟩;obtain ⟨t, ht, rfl⟩ := List.mem_map.1 hy;exact ⟨t, ht, hx⟩
 . rintro ⟨t, ht, hx⟩;exact ⟨_, List.mem_map.2 ⟨t, ht, rfl⟩, hx⟩
def nodeC (leaf : Bool) (pv kv : Value) (page : Int) : Array Value := #[.bool leaf, pv, kv, .int .i64 page]
inductive Lies (base : Nat) (w : World) : AT -> Prop
 | mk (b : Nat) (pv kv : Value) (ps : List Kv) (kids : List AT) (page : Int) (hb : base <= b) (hx : Bx w b (nodeC kids.isEmpty pv kv page) 129)
  (hp : RowO w base 77 2 pv ps.length (kvsC ps)) (hk : RowO w base 88 1 kv kids.length (kids.map AT.ptr)) (hc : ∀ t ∈ kids, Lies base w t) : Lies base w (.mk b pv kv ps kids page)
theorem Lies.hb {base : Nat} {w : World} {t : AT} (h : Lies base w t) : base <= t.b := by cases h; assumption
theorem Lies.hx {base : Nat} {w : World} {t : AT} (h : Lies base w t) : Bx w t.b (nodeC t.kids.isEmpty t.pv t.kv t.page) 129 := by cases h; assumption
theorem Lies.hp {base : Nat} {w : World} {t : AT} (h : Lies base w t) : RowO w base 77 2 t.pv t.ps.length (kvsC t.ps) := by cases h; assumption
theorem Lies.hk {base : Nat} {w : World} {t : AT} (h : Lies base w t) : RowO w base 88 1 t.kv t.kids.length (t.kids.map AT.ptr) := by cases h; assumption
theorem Lies.hc {base : Nat} {w : World} {t : AT} (h : Lies base w t) : ∀ c ∈ t.kids, Lies base w c := by cases h; assumption
theorem Lies.lt {base : Nat} {w : World} : ∀ {t : AT}, Lies base w t -> ∀ x ∈ t.fp, base <= x /\ x < w.heap.size := by
 intro t
 induction t using AT.ind with
 | h b pv kv ps kids page ih =>
  intro h x hx;have h1 := h.hb;have h2 := h.hx.lt;have h3 := h.hp.lt;have h4 := h.hk.lt;have h5 := h.hc;simp only [AT.b, AT.pv, AT.kv, AT.kids] at h1 h2 h3 h4 h5;rw [AT.fp, zmC, zmA, zmA] at hx;rcases hx with rfl | hx | hx | hx
  . exact ⟨h1, h2⟩
  . exact h3 x (by simpa using hx)
  . exact h4 x (by simpa using hx)
  . obtain ⟨t, ht, hx⟩ := AT.mem_fpL.1 hx;exact ih t ht (h5 t ht) x hx
theorem Lies.same {base : Nat} {w w' : World} : ∀ {t : AT}, Lies base w t -> (∀ x ∈ t.fp, w'.heap[x]? = w.heap[x]?) -> Lies base w' t := by
 intro t
 induction t using AT.ind with
 | h b pv kv ps kids page ih => intro h hs;have h1 := h.hb;have h2 := h.hx;have h3 := h.hp;have h4 := h.hk;have h5 := h.hc;simp only [AT.b, AT.pv, AT.kv, AT.kids, AT.ps, AT.page] at h1 h2 h3 h4 h5;simp only [AT.fp, zmC, zmA] at hs;refine .mk _ _ _ _ _ _ h1 ((hs b (.inl rfl)).trans h2) (h3.same fun g e => hs g (.inr (.inl (by simpa using e)))) (h4.same fun g e => hs g (.inr (.inr (.inl (by simpa using e))))) ?_;intro t ht;exact ih t ht (h5 t ht) fun x hx => hs x (.inr (.inr (.inr (AT.mem_fpL.2 ⟨t, ht, hx⟩))))
theorem Lies.stays {base B : Nat} {w w' : World} {t : AT} (h : Lies base w t) (hb : Below B w w') (hB : w.heap.size <= B) : Lies base w' t :=
 h.same fun x hx => hb.block x (znL (h.lt x hx).2 hB)
theorem Lies.staysAll {base : Nat} {w w' : World} {t : AT} (h : Lies base w t) (hb : Below w.heap.size w w') : Lies base w' t := h.stays hb (Nat.le_refl _)
def Nd.first : Nd -> Bool
 | .mk ps [] _ => !ps.isEmpty
 | .mk _ (k :: _) _ => k.first
def AT.height : AT -> Nat
 | .mk _ _ _ _ [] _ => 0
 | .mk _ _ _ _ (k :: _) _ => k.height + 1
theorem zaY {w : World} {base : Nat} {e : TypeId} {v : Value} {l : List AT} (h : RowO w base e 1 v l.length (l.map AT.ptr)) {i : Nat} (hi : i < l.length) :
  ∃ b c, v = .slice (some ⟨b, 0, none⟩) l.length c /\ w.cell? ⟨b, i, none⟩ = some l[i].ptr /\ l.length <= c /\ v.ownBlock = some b := by
 rcases h.2 with ⟨rfl, h0⟩ | ⟨g, cap, cur, rfl, hb, hh, hn, hc, hs, ht⟩
 . omega
 .
  refine ⟨g, cap, rfl, ?_, hn, rfl⟩;have hj' : cur.toList[i]? = some l[i].ptr := by rw [zb7 ht (by simpa using hi), List.getElem_map]
  simp [World.cell?, hh];rw [<- Array.getElem?_toList];exact hj'
theorem zb9 {w : World} {base : Nat} {e : TypeId} {v : Value} {l : List Kv} (h : RowO w base e 2 v l.length (kvsC l)) {i : Nat} (hi : i < l.length) :
  ∃ b c, v = .slice (some ⟨b, 0, none⟩) l.length c /\ w.cell? ⟨b, i * 2, none⟩ = some (.string l[i].1) /\ w.cell? ⟨b, i * 2 + 1, none⟩ = some (.string l[i].2) /\ l.length <= c /\ v.ownBlock = some b := by
 rcases h.2 with ⟨rfl, h0⟩ | ⟨g, cap, cur, rfl, hb, hh, hn, hc, hs, ht⟩
 . omega
 .
  have hl := zcu l;obtain ⟨e0, e1⟩ := zec hi;have f : ∀ j, j < (kvsC l).length -> w.cell? ⟨g, j, none⟩ = (kvsC l)[j]? := by intro j hj;have := zb7 ht hj;simp [World.cell?, hh];rw [<- Array.getElem?_toList, this, List.getElem?_eq_getElem hj]
  exact ⟨g, cap, rfl, (f _ (by omega)).trans e0, (f _ (by omega)).trans e1, hn, rfl⟩
set_option maxHeartbeats 1000000 in
theorem ziL (base : Nat) (t : AT) (w : World) (h : Lies base w t) (hf : t.nd.first = true) :
  Calls Tryz.prog 137 #[t.ptr] w fun e w' => e = .returned (.string t.nd.least) /\ w' = w := by
 go_enter Tryz.func137, Tryz.ntmps137;go_wp2
 go_loopg [0] t.height (fun k p wr => ∃ s : AT, p = s.ptr /\ Hid (Lies base w s /\ s.nd.least = t.nd.least /\ s.nd.first = true /\ s.height = k) /\ wr = w)
 case atStart => exact ⟨t, rfl, zhI ⟨h, rfl, hf, rfl⟩, rfl⟩
 case round =>
  obtain ⟨s, rfl, H, rfl⟩ := hrel;obtain ⟨hl, h1, h2, h3⟩ := H.out;obtain ⟨b, pv, kv, ps, kids, page⟩ := s;have hx := hl.hx;have hp := hl.hp;have hk := hl.hk;have hc := hl.hc;simp only [AT.b, AT.pv, AT.kv, AT.ps, AT.kids, AT.page] at hx hp hk hc;simp only [AT.ptr, AT.b];cases kids with
  | nil =>
   have hps : 0 < ps.length := by
    rw [AT.nd, AT.ndL, Nd.first] at h2;cases ps with
    | nil => simp at h2
    | cons => simp
   obtain ⟨g, c, rfl, c0, -, hle, -⟩ := zb9 hp hps;rw [Nat.zero_mul] at c0;have cX := hx.cell;have lX := hx.lt;unfold nodeC at cX;have hres : (AT.mk b (.slice (some ⟨g, 0, none⟩) ps.length c) kv ps [] page).nd.least = ps[0].1 := by
    cases ps with
    | nil => simp at hps
    | cons x l => rw [AT.nd, AT.ndL, Nd.least]; rfl
   rw [hres] at h1;have R := zhI h1;clear hl H h1 h2 h3 hc hx hp hk hres;go_wp2;go_ret;exact ⟨by rw [<- R.out]; rfl, rfl⟩
  | cons k0 ks =>
   obtain ⟨g, c, rfl, c0, hle, -⟩ := zaY (i := 0) hk (by simp);rw [List.getElem_cons_zero] at c0;have cX := hx.cell;have lX := hx.lt;unfold nodeC at cX;have hk0 := hc k0 (by simp);have R : Hid (Lies base wr k0 /\ k0.nd.least = t.nd.least /\ k0.nd.first = true /\ k0.height + 1 = gk) := zhI ⟨hk0, by rw [<- h1, AT.nd, AT.ndL, Nd.least], by rw [AT.nd, AT.ndL, Nd.first] at h2; exact h2, by rw [<- h3, AT.height]⟩;obtain ⟨n, hn⟩ : ∃ n, (k0 :: ks).length = n + 1 := ⟨ks.length, by simp⟩;rw [hn] at cX;unfold AT.ptr at c0;clear hl H h1 h2 h3 hc hx hp hk hk0;go_wp2
   go_roundg k0.height
   case rel => exact ⟨k0, rfl, zhI ⟨R.out.1, R.out.2.1, R.out.2.2.1, rfl⟩, rfl⟩
   case measure => have := R.out.2.2.2; omega
section
variable {P : Program} {Q : Exit -> Act -> World -> Prop} {a : Act} {w : World}
theorem zah {id : Nat} {l : List Oper} (listed : Array Bool) (fuel : Nat) (hm : P.follows .mixedOrders = true) (hl : Array.replicate l.length false = listed) (hf : l.length = fuel) (h : wpAny P .any l.toArray Q fuel listed a w.drew) : (Code.region id l.toArray true).wp P Q a w := by
 refine wp_region_any hm ?_;have e : l.toArray.size = fuel := by simpa using hf
 rw [e, <- hf, hl, hf];exact h
end
def KvOk (p : Kv) : Prop := p.1.size <= 48 /\ p.2.size <= 80
def EncOk (n : Nd) : Prop := (n.kids = [] /\ n.ps.length <= 3 /\ ∀ p ∈ n.ps, KvOk p) \/ (2 <= n.kids.length /\ n.kids.length <= 8 /\ ∀ k ∈ n.kids, k.first = true /\ k.least.size <= 48 /\ 0 <= k.page /\ k.page <= 1000000)
def kvT (p : Kv) : List UInt8 := textL p.1 ++ textL p.2
theorem zm2 {p : Kv} (h : KvOk p) : (kvT p).length <= 130 := by
 unfold kvT; rw [zlA, zby, zby]; have := h.1; have := h.2; omega
theorem zfO {α : Type} {f : α -> List UInt8} {m : Nat} : ∀ {l : List α}, (∀ x ∈ l, (f x).length <= m) -> ((l.map f).flatten).length <= l.length * m
 | [], _ => by simp
 | x :: l, h => by have h1 := h x (by simp);have h2 := zfO (f := f) (l := l) fun y hy => h y (by simp [hy]);rw [List.map_cons, List.flatten_cons, zlA, zlC, Nat.add_mul];omega
def lfE (ps : List Kv) (k : Nat) : List UInt8 := 76 :: UInt8.ofNat ps.length :: ((ps.take k).map kvT).flatten
theorem zhJ (ps : List Kv) : lfE ps ps.length = encLf ps := by unfold lfE encLf kvT; rw [List.take_length]
theorem zga {ps : List Kv} {k : Nat} (h : k < ps.length) : lfE ps (k + 1) = lfE ps k ++ textL ps[k].1 ++ textL ps[k].2 := by
 unfold lfE;rw [List.take_succ_eq_append_getElem h, List.map_append, List.flatten_append];simp only [List.map_cons, List.map_nil, List.flatten_cons, List.flatten_nil, List.append_nil, kvT, List.cons_append, List.append_assoc]
theorem zf9 {ps : List Kv} (h : ∀ p ∈ ps, KvOk p) (hl : ps.length <= 3) (k : Nat) : (lfE ps k).length <= 392 := by
 unfold lfE;have := zfO (f := kvT) (m := 130) (l := ps.take k) fun x hx => zm2 (h x (List.mem_of_mem_take hx));rw [zlC, zlC];have h2 : (ps.take k).length <= 3 := by rw [List.length_take]; omega
 have : (ps.take k).length * 130 <= 390 := by omega
 omega
set_option maxHeartbeats 4000000 in
theorem zcS (base : Nat) (t : AT) (w : World) (h : Lies base w t) (hk0 : t.kids = []) (h3 : t.ps.length <= 3) (hok : ∀ p ∈ t.ps, KvOk p) :
  Calls Tryz.prog 119 #[t.ptr] w fun e w' => e = .returned (.string (bs (padZ (encLf t.ps)))) /\ Below w.heap.size w w' := by
 obtain ⟨b, pv, kv, ps, kids, page⟩ := t;simp only [AT.kids, AT.ps] at hk0 h3 hok;subst hk0;have hx := h.hx;have hp := h.hp;simp only [AT.b, AT.pv, AT.kv, AT.ps, AT.kids, AT.page, List.isEmpty_nil] at hx hp;simp only [AT.ptr, AT.b, AT.ps];obtain ⟨po, pc, rfl, hsl, hrow⟩ := hp.at;obtain ⟨n, hn⟩ : ∃ n, ps.length = n := ⟨_, rfl⟩;obtain ⟨nb, hnb⟩ : ∃ c : UInt8, UInt8.ofNat n = c := ⟨_, rfl⟩;have hu : n % 256 = nb.toNat := by rw [<- hnb, u8_of]
 rw [hn] at hx hsl h3;have hl0 : lfE ps 0 = [76, nb] := by unfold lfE; rw [hn, hnb]; rfl
 have Hn := zhI hn;have Hl0 := zhI hl0;have Hu : Hid ((nb.toNat : Int) = (n : Int)) := zhI (by omega);have cX := hx.cell;have lX := hx.lt;unfold nodeC at cX hx;clear hl0 hn hnb hu;go_enter Tryz.func119, Tryz.ntmps119;go_wp2;clear cX lX
 go_loopw [3, 27] (fun v i wr => ∃ k : Nat, k <= n /\ i = .int .i64 k /\ wr.ownsRow w.heap.size 5 1 v (lfE ps k).length (zam (lfE ps k)) /\ Below w.heap.size w wr) (fun _ i _ => n - (intOf i).toNat)
 case atStart => refine ⟨0, by omega, rfl, ?_, Below.one _ _⟩;rw [Hl0.out, show zam [76, nb] = [.int .u8 76, .int .u8 (n : Int)] by simp [zam, Hu.out]];exact ⟨by simp, .inr ⟨w.heap.size, 2, #[.int .u8 76, .int .u8 (n : Int)], rfl, Nat.le_refl _, heap_alloc_new w _, by simp, by simp [maxLen], by simp, by simp⟩⟩
 case round =>
  obtain ⟨k, hk, rfl, hown, hB⟩ := hrel;have hz := hB.size;have hx2 := hx.belowAll hB;have hlen := zf9 hok (by rw [Hn.out]; exact h3)
  by_cases hlt : k < n
  .
   have hlk : k < ps.length := by rw [Hn.out]; exact hlt
   obtain ⟨g, c, e, c0, c1, -, hg⟩ := zb9 hp hlk;obtain ⟨rfl, -, -⟩ : po = some ⟨g, 0, none⟩ /\ ps.length = ps.length /\ pc = c := by simpa using e
   have hgl := (hp.lt g hg).2;have d0 : wr.cell? ⟨g, k * 2, none⟩ = some (.string ps[k].1) := by rw [hB.cell hgl]; exact c0
   have d1 : wr.cell? ⟨g, k * 2 + 1, none⟩ = some (.string ps[k].2) := by rw [hB.cell hgl]; exact c1
   have hko := hok _ (List.getElem_mem hlk);have hl1 := hlen k;have hl2 := hlen (k + 1);rw [zga hlk] at hl2;have Hs := zhI (zga hlk);obtain ⟨⟨ky, vy⟩, hkv⟩ : ∃ p : Kv, ps[k] = p := ⟨_, rfl⟩;rw [hkv] at d0 d1 hko hl2 Hs;obtain ⟨L, hL⟩ : ∃ L, lfE ps k = L := ⟨_, rfl⟩;rw [hL] at hown hl1 hl2 Hs;simp only at d0 d1 hl2 Hs;clear e c0 c1 hkv hL;have hgr : g < wr.heap.size := by omega
   have xb := Bx.new wr #[.string ky, .string vy] 77;have hB1 := hB.alloc hz (.cells #[.string ky, .string vy] 77);have hown1 := hown.alloc (.cells #[.string ky, .string vy] 77);have hz1 : w.heap.size <= (wr.alloc (.cells #[.string ky, .string vy] 77)).heap.size := by simp; omega
   go_upto_region 6 with fail
   obtain ⟨B, hBe⟩ : ∃ B, wr.heap.size = B := ⟨_, rfl⟩;obtain ⟨W1, hW1⟩ : ∃ W1, wr.alloc (.cells #[.string ky, .string vy] 77) = W1 := ⟨_, rfl⟩;simp only [hW1, hBe] at *;clear hW1 d0 d1 hB hown hx2;refine zah #[false, false, false, false, false, false, false, false] 8 (by kernel_rfl) (by rfl) rfl ?_;replace xb : Bx W1.drew B #[.string ky, .string vy] 77 := Bx.drew xb;replace hB1 : Below w.heap.size w W1.drew := Below.drew hB1;replace hown1 : W1.drew.ownsRow w.heap.size 5 1 u3 L.length (zam L) := hown1;replace hz1 : w.heap.size <= W1.drew.heap.size := hz1;generalize W1.drew = W2 at *;have k1 : ky.size <= 1000000 := by have := hko.1; simp at this; omega
   have k2 : vy.size <= 1000000 := by have := hko.2; simp at this; omega
   have hl3 : (L ++ textL ky).length <= 1000000 := by rw [zlA] at hl2; omega
   have H1 := zhI (zeF w.heap.size u3 L ky W2 hown1 hz1 k1 (by omega));clear hown1;refine wpAny_take (i := 0) (v := u3) rfl (by kernel_rfl) (by kernel_rfl) (by kernel_rfl) (fun _ _ _ h => h) (Or.inl ⟨by rfl, fun w => by first | rfl | (go_simp; try with_reducible rfl)⟩) ?_;simp only [List.getElem_toArray, List.getElem_cons_zero, Act.put, zsP];refine wpAny_take (i := 1) (v := (.pointer (some ⟨B, 0, none⟩))) rfl (by kernel_rfl) (by kernel_rfl) (by kernel_rfl) (fun _ _ _ h => h) (Or.inl ⟨by rfl, fun w => by first | rfl | (go_simp; try with_reducible rfl)⟩) ?_;simp only [zgP, Act.put, zsP];refine wpAny_take (i := 4) (v := (.pointer (some ⟨B, 1, none⟩))) rfl (by kernel_rfl) (by kernel_rfl) (by kernel_rfl) (fun _ _ _ h => h) (Or.inl ⟨by rfl, fun w => by first | rfl | (go_simp; try with_reducible rfl)⟩) ?_;simp only [zgP, Act.put, zsP];refine wpAny_ready (rs := [2, 5]) (by kernel_rfl) (by simp) ?_;refine AllReady.cons rfl (fun K hK => ?_) (AllReady.cons rfl (fun K hK => ?_) AllReady.nil)
   .
    have cB := xb.cell;go_simp;refine hK _ _ ?_;clear hK K cB;simp only [zsP];refine wpAny_ready (rs := [3, 5]) (by kernel_rfl) (by simp) ?_;refine AllReady.cons rfl (fun K hK => ?_) (AllReady.cons rfl (fun K hK => ?_) AllReady.nil)
    .
     go_simp;refine H1.out.mono ?_;rintro e W3 ⟨v1, rfl, hown3, hb3, hk3⟩;refine hK _ _ ?_;clear hK K H1;simp only [zsP];replace xb := hk3 _ _ _ (by decide) xb;replace hB1 := hB1.trans hb3;replace hz1 : w.heap.size <= W3.heap.size := hB1.size;clear hb3 hk3;refine wpAny_ready (rs := [5]) (by kernel_rfl) (by simp) ?_;refine AllReady.cons rfl (fun K hK => ?_) AllReady.nil;have cB := xb.cell;go_simp;refine hK _ _ ?_;clear hK K cB;simp only [zsP];have H2 := zhI (zeF w.heap.size v1 (L ++ textL ky) vy W3 hown3 hz1 k2 hl3);clear hown3;refine wpAny_ready (rs := [6]) (by kernel_rfl) (by simp) ?_;refine AllReady.cons rfl (fun K hK => ?_) AllReady.nil;go_simp;refine H2.out.mono ?_;rintro e W4 ⟨v2, rfl, hown4, hb4, hk4⟩;refine hK _ _ ?_;clear hK K H2;simp only [zsP];refine wpAny_ready (rs := [7]) (by kernel_rfl) (by simp) ?_;refine AllReady.cons rfl (fun K hK => ?_) AllReady.nil;go_simp;refine hK _ _ ?_;clear hK K;simp only [zsP];refine wpAny_done (by kernel_rfl) ?_ _;go_wp2;go_roundw
     case rel => exact ⟨k + 1, by omega, by go_num, by rw [Hs.out]; exact hown4, hB1.trans hb4⟩
     case measure => simp [intOf]; omega
    .
     have cB := xb.cell;go_simp;refine hK _ _ ?_;clear hK K cB;simp only [zsP];refine wpAny_ready (rs := [3]) (by kernel_rfl) (by simp) ?_;refine AllReady.cons rfl (fun K hK => ?_) AllReady.nil;go_simp;refine H1.out.mono ?_;rintro e W3 ⟨v1, rfl, hown3, hb3, hk3⟩;refine hK _ _ ?_;clear hK K H1;simp only [zsP];replace xb := hk3 _ _ _ (by decide) xb;replace hB1 := hB1.trans hb3;replace hz1 : w.heap.size <= W3.heap.size := hB1.size;clear hb3 hk3;have H2 := zhI (zeF w.heap.size v1 (L ++ textL ky) vy W3 hown3 hz1 k2 hl3);clear hown3;refine wpAny_ready (rs := [6]) (by kernel_rfl) (by simp) ?_;refine AllReady.cons rfl (fun K hK => ?_) AllReady.nil;go_simp;refine H2.out.mono ?_;rintro e W4 ⟨v2, rfl, hown4, hb4, hk4⟩;refine hK _ _ ?_;clear hK K H2;simp only [zsP];refine wpAny_ready (rs := [7]) (by kernel_rfl) (by simp) ?_;refine AllReady.cons rfl (fun K hK => ?_) AllReady.nil;go_simp;refine hK _ _ ?_;clear hK K;simp only [zsP];refine wpAny_done (by kernel_rfl) ?_ _;go_wp2;go_roundw
     case rel => exact ⟨k + 1, by omega, by go_num, by rw [Hs.out]; exact hown4, hB1.trans hb4⟩
     case measure => simp [intOf]; omega
   .
    have cB := xb.cell;go_simp;refine hK _ _ ?_;clear hK K cB;simp only [zsP];refine wpAny_ready (rs := [2]) (by kernel_rfl) (by simp) ?_;refine AllReady.cons rfl (fun K hK => ?_) AllReady.nil;have cB := xb.cell;go_simp;refine hK _ _ ?_;clear hK K cB;simp only [zsP];refine wpAny_ready (rs := [3]) (by kernel_rfl) (by simp) ?_;refine AllReady.cons rfl (fun K hK => ?_) AllReady.nil;go_simp;refine H1.out.mono ?_;rintro e W3 ⟨v1, rfl, hown3, hb3, hk3⟩;refine hK _ _ ?_;clear hK K H1;simp only [zsP];replace xb := hk3 _ _ _ (by decide) xb;replace hB1 := hB1.trans hb3;replace hz1 : w.heap.size <= W3.heap.size := hB1.size;clear hb3 hk3;have H2 := zhI (zeF w.heap.size v1 (L ++ textL ky) vy W3 hown3 hz1 k2 hl3);clear hown3;refine wpAny_ready (rs := [6]) (by kernel_rfl) (by simp) ?_;refine AllReady.cons rfl (fun K hK => ?_) AllReady.nil;go_simp;refine H2.out.mono ?_;rintro e W4 ⟨v2, rfl, hown4, hb4, hk4⟩;refine hK _ _ ?_;clear hK K H2;simp only [zsP];refine wpAny_ready (rs := [7]) (by kernel_rfl) (by simp) ?_;refine AllReady.cons rfl (fun K hK => ?_) AllReady.nil;go_simp;refine hK _ _ ?_;clear hK K;simp only [zsP];refine wpAny_done (by kernel_rfl) ?_ _;go_wp2;go_roundw
    case rel => exact ⟨k + 1, by omega, by go_num, by rw [Hs.out]; exact hown4, hB1.trans hb4⟩
    case measure => simp [intOf]; omega
  .
   obtain rfl : k = n := by omega
   have hl1 := hlen k;rw [show lfE ps k = encLf ps by rw [<- zhJ, Hn.out]] at hown hl1;obtain ⟨o, c, rfl, hs, hr, hob⟩ := zai hown;have hne : o ≠ none := by rintro rfl;have := (hs.nil rfl).1;simp [encLf] at this
   obtain ⟨ad, rfl⟩ := Option.ne_none_iff_exists'.1 hne;obtain ⟨m, hm⟩ : ∃ m, (encLf ps).length = m := ⟨_, rfl⟩;have hpad := zhj (encLf ps) ad c wr (by omega) hr;rw [hm] at hpad |-;clear hne hs hr hob hown hm;go_wp2_with fail;refine hpad.mono ?_;rintro e w2 ⟨rfl, hb2⟩;go_wp2;go_ret;exact ⟨rfl, Below.then hB hb2 hz⟩
section
variable {F : Fence} {nF : Nat} {P : Program} {ops : Array Oper} {md : Region.Mode} {W0 : World} {an : Anns} {Q : Exit -> Act -> World -> Prop}
end
section
variable {P : Program} {o : Oper} {a : Act} {C : World -> Prop} {K : Act -> Prop}
theorem zaL {W : World} {v : Value} (hr : (execOp a.eval o).run P W = .ok (.value v) W) : lzAt P o a W (zcL (annK v) W) := by
 unfold lzAt;rw [hr];exact ⟨Below.refl _ _, fun _ => undef, rfl, fun _ _ => trivial⟩
end
section
variable {P : Program} {ops : Array Oper} {rest : List Oper} {o : Oper} {a : Act} {Q : Exit -> Act -> World -> Prop} {w : World}
end
section
variable {P : Program} {ops : Array Oper} {rest : List Oper} {o : Oper} {a : Act} {Q : Exit -> Act -> World -> Prop} {w : World}
end
def zkn (x y : Value) (e : TypeId) : Ann := ⟨fun r => .slice (some ⟨r.lo, 0, none⟩) 2 2, fun r W => Bx W r.lo #[x, y] e⟩
def KidOk (n : Nd) : Prop := n.first = true /\ n.least.size <= 48 /\ 0 <= n.page /\ n.page <= 1000000
def inE (kids : List Nd) (k : Nat) : List UInt8 := 78 :: UInt8.ofNat kids.length :: ((kids.take k).map fun c => pageB c.page).flatten
def inF (kids : List Nd) (k : Nat) : List UInt8 := inE kids kids.length ++ ((kids.tail.take k).map fun c => textL c.least).flatten
theorem zin {kids : List Nd} {k : Nat} (h : k < kids.length) : inE kids (k + 1) = inE kids k ++ pageB kids[k].page := by
 unfold inE;rw [List.take_succ_eq_append_getElem h, List.map_append, List.flatten_append];simp only [List.map_cons, List.map_nil, List.flatten_cons, List.flatten_nil, List.append_nil, List.cons_append]
theorem ziy {kids : List Nd} {k : Nat} (h : k < kids.tail.length) : inF kids (k + 1) = inF kids k ++ textL kids.tail[k].least := by
 unfold inF;rw [List.take_succ_eq_append_getElem h, List.map_append, List.flatten_append];simp only [List.map_cons, List.map_nil, List.flatten_cons, List.flatten_nil, List.append_nil, List.append_assoc]
theorem zit (kids : List Nd) : inF kids 0 = inE kids kids.length := by unfold inF; simp
theorem zhV (kids : List Nd) : inF kids kids.tail.length = encIn kids := by
 unfold inF inE encIn;rw [List.take_length, List.take_length];simp
theorem zki (p : Int) : (pageB p).length = 2 := rfl
theorem zhE {kids : List Nd} (hl : kids.length <= 8) (k : Nat) : (inE kids k).length <= 18 := by
 unfold inE;have := zfO (f := fun c : Nd => pageB c.page) (m := 2) (l := kids.take k) fun x _ => Nat.le_of_eq (zki _);rw [zlC, zlC];have h2 : (kids.take k).length <= 8 := by rw [List.length_take]; omega
 omega
theorem zh4 {kids : List Nd} (hk : ∀ c ∈ kids, KidOk c) (hl : kids.length <= 8) (k : Nat) : (inF kids k).length <= 361 := by
 unfold inF;have h1 := zhE hl kids.length;have := zfO (f := fun c : Nd => textL c.least) (m := 49) (l := kids.tail.take k) fun x hx => by have := (hk x (List.mem_of_mem_tail (List.mem_of_mem_take hx))).2.1;rw [zby]; omega
 have h2 : (kids.tail.take k).length <= 7 := by rw [List.length_take, List.length_tail]; omega
 rw [zlA];omega
set_option maxHeartbeats 8000000 in
theorem zci (base : Nat) (t : AT) (w : World) (h : Lies base w t) (h2 : 2 <= t.kids.length) (h8 : t.kids.length <= 8) (hok : ∀ c ∈ t.kids, KidOk c.nd) :
  Calls Tryz.prog 119 #[t.ptr] w fun e w' => e = .returned (.string (bs (padZ (encIn (t.kids.map AT.nd))))) /\ Below w.heap.size w w' := by
 obtain ⟨b, pv, kv, ps, kids, page⟩ := t;simp only [AT.kids] at h2 h8 hok;have hx := h.hx;have hk := h.hk;have hc := h.hc;simp only [AT.b, AT.pv, AT.kv, AT.kids, AT.page] at hx hk hc;simp only [AT.ptr, AT.b, AT.kids];obtain ⟨g, c, rfl, -, hle, hg⟩ := zaY (i := 0) hk (by omega);have hgl := (hk.lt g hg).2;have hpt : ∀ i (hi : i < kids.length), w.cell? ⟨g, i, none⟩ = some (.pointer (some ⟨kids[i].b, 0, none⟩)) := fun i hi => by
  obtain ⟨g', c', e, hcell, -, -⟩ := zaY hk hi;obtain ⟨rfl, rfl⟩ : g = g' /\ c = c' := by simpa using e
  exact hcell
 have hem : kids.isEmpty = false := by cases kids <;> simp_all
 rw [hem] at hx;obtain ⟨N, hN⟩ : ∃ N, kids.map AT.nd = N := ⟨_, rfl⟩;have hNl : N.length = kids.length := by rw [<- hN, List.length_map]
 have hNk : ∀ c ∈ N, KidOk c := by intro c hc;rw [<- hN] at hc;obtain ⟨t, ht, rfl⟩ := List.mem_map.1 hc;exact hok t ht
 obtain ⟨n, hn⟩ : ∃ n, kids.length = n := ⟨_, rfl⟩;obtain ⟨nb, hnb⟩ : ∃ c : UInt8, UInt8.ofNat n = c := ⟨_, rfl⟩;have hu : n % 256 = nb.toNat := by rw [<- hnb, u8_of]
 have hl0 : inE N 0 = [78, nb] := by unfold inE; rw [hNl, hn, hnb]; rfl
 rw [hn] at hx h2 h8 hle hNl;have Hn := zhI hn;have HN := zhI hN;have HNl := zhI hNl;have Hl0 := zhI hl0;have Hu : Hid ((nb.toNat : Int) = (n : Int)) := zhI (by omega);have cX := hx.cell;have lX := hx.lt;unfold nodeC at cX hx;have Hpt := zhI hpt;rw [HN.out];clear hl0 hn hnb hu hN hNl hem hpt hok h hk;go_enter Tryz.func119, Tryz.ntmps119;go_wp2;clear cX lX
 go_loopw [6, 53] (fun v i wr => ∃ k : Nat, k <= n /\ i = .int .i64 k /\ wr.ownsRow w.heap.size 5 1 v (inE N k).length (zam (inE N k)) /\ Below w.heap.size w wr) (fun _ i _ => n - (intOf i).toNat)
 case atStart => refine ⟨0, by omega, rfl, ?_, Below.one _ _⟩;rw [Hl0.out, show zam [78, nb] = [.int .u8 78, .int .u8 (n : Int)] by simp [zam, Hu.out]];exact ⟨by simp, .inr ⟨w.heap.size, 2, #[.int .u8 78, .int .u8 (n : Int)], rfl, Nat.le_refl _, heap_alloc_new w _, by simp, by simp [maxLen], by simp, by simp⟩⟩
 case round =>
  obtain ⟨k, hk, rfl, hown, hB⟩ := hrel;have hz := hB.size;have hx2 := hx.belowAll hB;have hlen := zhE (kids := N) (by rw [HNl.out]; exact h8)
  by_cases hlt : k < n
  .
   have hlk : k < kids.length := by rw [Hn.out]; exact hlt
   have hlN : k < N.length := by rw [HNl.out]; exact hlt
   have d0 : wr.cell? ⟨g, k, none⟩ = some (.pointer (some ⟨kids[k].b, 0, none⟩)) := by rw [hB.cell hgl]; exact Hpt.out k hlk
   have hcl := (hc _ (List.getElem_mem hlk)).hx;have hcb : kids[k].b < w.heap.size := hcl.lt;have hpg : kids[k].page = N[k].page := by
    have : N[k] = kids[k].nd := by simp only [<- HN.out, List.getElem_map]
    rw [this, AT.nd_page]
   have hp0 := (hNk _ (List.getElem_mem hlN)).2.2.1;have hl1 := hlen k;have Hs := zhI (zin hlN);have yc : Bx wr kids[k].b (nodeC kids[k].kids.isEmpty kids[k].pv kids[k].kv kids[k].page) 129 := hcl.belowAll hB;rw [hpg] at yc;have hcp : wr.cell? ⟨kids[k].b, 3, none⟩ = some (.int .i64 N[k].page) := by rw [yc.cell]; rfl
   obtain ⟨cb, hcbe⟩ : ∃ x, kids[k].b = x := ⟨_, rfl⟩;obtain ⟨pg, hpge⟩ : ∃ x, N[k].page = x := ⟨_, rfl⟩;have lC := yc.lt;rw [hpge] at hcp hp0 Hs;rw [hcbe] at d0 hcp lC;obtain ⟨L, hL⟩ : ∃ L, inE N k = L := ⟨_, rfl⟩;rw [hL] at hown hl1 Hs;clear hL hpge hcbe hpg hcl hcb yc;have hgr : g < wr.heap.size := by omega
   go_upto_region 13 with fail
   have cQ := Lat.cells wr;obtain ⟨c1, hc1⟩ : ∃ c : UInt8, UInt8.ofNat (pg / 256).toNat = c := ⟨_, rfl⟩;obtain ⟨c2, hc2⟩ : ∃ c : UInt8, UInt8.ofNat pg.toNat = c := ⟨_, rfl⟩;have e1 : pg / 256 % 256 = (c1.toNat : Int) := by rw [<- hc1, u8_of]; omega
   have e2 : pg % 256 = (c2.toNat : Int) := by rw [<- hc2, u8_of]; omega
   have hpb : pageB pg = [c1, c2] := by unfold pageB; rw [hc1, hc2]
   rw [hpb] at Hs;have HB := zhI hB;have Ho := zhI hown;clear hc1 hc2 hpb hB hown hx2;refine zal 13 2 #[true, true, true, true, true, true, true, true, true, true, true, true, true, false, false] (fun i => if i = 2 \/ i = 8 then some (annK (.pointer (some ⟨cb, 0, none⟩))) else if i = 12 then some (zkn (.int .u8 (c1.toNat : Int)) (.int .u8 (c2.toNat : Int)) 5) else none) (by kernel_rfl) (by rfl) (by rfl) (by kernel_rfl) ?_;simp only [List.take_succ_cons, List.take_zero];refine LW.block 2 2 (by rfl) (by kernel_rfl) (by kernel_rfl) ?_;simp only [ztP]
   repeat (first | go_big_quiet_skip | (go_big_quiet_want; go_big_quiet_op; go_big_quiet_on))
   refine wpQuiet_nil ?_;refine LW.lzy _ (by rfl) (by rfl) ?_ ?_
   . intro yL _;exact zaL ((by rfl))
   intro _;simp only [Act.put, zsP]
   (try simp only [annK])
   refine LW.block 5 8 (by rfl) (by kernel_rfl) (by kernel_rfl) ?_;simp only [ztP]
   repeat (first | go_big_quiet_skip | (go_big_quiet_want; go_big_quiet_op; go_big_quiet_on))
   refine wpQuiet_nil ?_;refine LW.lzy _ (by rfl) (by rfl) ?_ ?_
   . intro yL _;exact zaL ((by rfl))
   intro _;simp only [Act.put, zsP]
   (try simp only [annK])
   refine LW.block 3 12 (by rfl) (by kernel_rfl) (by kernel_rfl) ?_;simp only [ztP]
   repeat (first | go_big_quiet_skip | (go_big_quiet_want; go_big_quiet_op; go_big_quiet_on))
   refine wpQuiet_nil ?_;refine LW.lzy _ (by rfl) (by rfl) ?_ ?_
   . intro yL _;unfold lzAt;go_simp;exact ⟨Below.one _ _, fun _ => undef, rfl, fun w'' hb => (Bx.new yL.w _ _).belowAll hb⟩
   intro r12;simp only [Act.put, zsP];refine LW.done ?_;intro W8 hG;have hx12 : Bx W8 r12.lo #[.int .u8 (c1.toNat : Int), .int .u8 (c2.toNat : Int)] 5 := hG.get 12 rfl rfl;have hr12 := hG.range 12 r12 rfl;have hb8 := hG.below;obtain ⟨lo, hlo⟩ : ∃ x, r12.lo = x := ⟨_, rfl⟩;have hB8 := Below.then HB.out hb8 hz;have hown8 := zae Ho.out hb8;have hz8 := hB8.size;obtain ⟨i0, hi, hz0, hz1, hz2⟩ := info_parts zkR;have Hi := zhI (zaI hi (zaI hz0 (zaI hz1 hz2)));rw [hlo] at hx12;simp only [zkn, hlo];clear hG cQ hr12 hlo HB Ho hb8 hi hz0 hz1 hz2 d0 hcp lC;refine wpAny_ready (rs := [13]) (by kernel_rfl) (by simp) ?_;refine AllReady.cons rfl (fun K hK => ?_) AllReady.nil;refine zke (.tmp 57) (.tmp 69) 139 rfl w.heap.size 5 i0 _ 1 1 Tryz.underlying139 Hi.out.1 Hi.out.2.1 Hi.out.2.2.1 Hi.out.2.2.2 rfl (by decide) u6 L.length (zam L) rfl hown8 (some ⟨lo, 0, none⟩) 2 2 (zam [c1, c2]) rfl (fun h => by cases h) rfl (RowAt.bx hx12) (zfm _) (by unfold maxLen; omega) (by omega) hz8 ?_;intro v5 w5 ho5 hg5;refine hK _ _ ?_;clear hK K;have hB5 : Below w.heap.size w w5 := Below.grownOwn hB8 hown8 hg5 hz8;have ho6 : w5.ownsRow w.heap.size 5 1 v5 (inE N (k + 1)).length (zam (inE N (k + 1))) := by rw [Hs.out, zlA, zam, List.map_append]; exact ho5
   clear ho5 hg5 hB8 hown8 hx12;refine wpAny_ready (rs := [14]) (by kernel_rfl) (by simp) ?_;refine AllReady.cons rfl (fun K hK => ?_) AllReady.nil;go_simp;refine hK _ _ ?_;clear hK K;refine wpAny_done (by kernel_rfl) ?_ _;go_wp2;go_roundw
   case rel => exact ⟨k + 1, by omega, by go_num, ho6, hB5⟩
   case measure => simp [intOf]; omega
  .
   obtain ⟨wo, rfl⟩ : ∃ wo, wo = wr := ⟨_, rfl⟩;obtain rfl : k = n := by omega
   have hl1 := zh4 hNk (by rw [HNl.out]; exact h8);have hown0 : wo.ownsRow w.heap.size 5 1 u6 (inF N 0).length (zam (inF N 0)) := by rw [zit, HNl.out]; exact hown
   have hck : ¬ c = 1 := by omega
   have hck2 : ¬ (c : Int) = 1 := by omega
   have Hown := zhI hown0;have HB := zhI hB;have cX := hx2.cell;have lX := hx2.lt;obtain ⟨m, hm⟩ : ∃ m, k = m + 1 := ⟨k - 1, by omega⟩;have hsub : (k : Int) - 1 = (m : Int) := by omega
   have Hm := zhI hm;clear hown hown0 hB hlen hm;go_upto_region 16 with fail
   clear cX lX hx2
   go_loopw [6, 78] (fun v i wq => ∃ j : Nat, j <= m /\ i = .int .i64 j /\ wq.ownsRow w.heap.size 5 1 v (inF N j).length (zam (inF N j)) /\ Below w.heap.size w wq) (fun _ i _ => m - (intOf i).toNat)
   case atStart => exact ⟨0, by omega, rfl, Hown.out, HB.out⟩
   case round =>
    clear Hown HB;obtain ⟨j, hj, rfl, hown, hB⟩ := hrel;have hzq := hB.size
    by_cases hlt2 : j < m
    .
     have hlk : j + 1 < kids.length := by have := Hm.out; rw [Hn.out]; omega
     have hlN : j + 1 < N.length := by have := Hm.out; rw [HNl.out]; omega
     have hlt3 : j < N.tail.length := by have := Hm.out; rw [List.length_tail, HNl.out]; omega
     have d0 : wr.cell? ⟨g, 1 + j, none⟩ = some (.pointer (some ⟨kids[j + 1].b, 0, none⟩)) := by rw [hB.cell hgl, Nat.add_comm]; exact Hpt.out (j + 1) hlk
     have hN1 : N[j + 1] = kids[j + 1].nd := by simp only [<- HN.out, List.getElem_map]
     have hN2 : N.tail[j] = N[j + 1] := by simp
     have hko := hNk _ (List.getElem_mem hlN);have hle := ziL base kids[j + 1] wr ((hc _ (List.getElem_mem hlk)).stays hB (Nat.le_refl _)) (by rw [<- hN1]; exact hko.1);have Hs := zhI (ziy hlt3);have hl2 := hl1 j;rw [hN2] at Hs;rw [<- hN1] at hle;obtain ⟨sk, hsk⟩ : ∃ s, N[j + 1].least = s := ⟨_, rfl⟩;have hks := hko.2.1;rw [hsk] at hks hle Hs;have htx := zeF w.heap.size u6 (inF N j) sk wr hown hzq (by omega) (by omega);unfold AT.ptr at hle;obtain ⟨cb, hcbe⟩ : ∃ x, kids[j + 1].b = x := ⟨_, rfl⟩;rw [hcbe] at d0 hle;have HB := zhI hB;have Hle := zhI hle;have Htx := zhI htx;clear hle htx hown hB hN1 hN2 hko hsk hcbe hl2;have hgr : g < wr.heap.size := by omega
     go_wp2_with fail;refine Hle.out.mono ?_;rintro e w2 ⟨rfl, rfl⟩;go_wp2_with fail;refine Htx.out.mono ?_;rintro e w3 ⟨v3, rfl, hown3, hb3, -⟩;have HR := zhI (zaI hown3 (HB.out.trans hb3));clear hown3 hb3 HB Hle Htx d0;go_wp2;go_roundw
     case rel => exact ⟨j + 1, by omega, by go_num, by rw [Hs.out]; exact HR.out.1, HR.out.2⟩
     case measure => simp [intOf]; omega
    .
     obtain rfl : j = m := by omega
     have hl2 := hl1 j;have hjt : N.tail.length = j := by have := Hm.out; rw [List.length_tail, HNl.out]; omega
     rw [show inF N j = encIn N by rw [<- zhV, hjt]] at hown hl2;obtain ⟨o, c3, rfl, hs, hr, hob⟩ := zai hown;have hne : o ≠ none := by rintro rfl;have := (hs.nil rfl).1;simp [encIn] at this
     obtain ⟨ad, rfl⟩ := Option.ne_none_iff_exists'.1 hne;obtain ⟨z, hz'⟩ : ∃ z, (encIn N).length = z := ⟨_, rfl⟩;have hpad := zhj (encIn N) ad c3 wr (by omega) hr;rw [hz'] at hpad |-;have Hpad := zhI hpad;clear hne hs hr hob hown hz' hpad hl1 hl2 hjt;go_wp2_with fail;refine Hpad.out.mono ?_;rintro e w2 ⟨rfl, hb2⟩;go_wp2;go_ret;exact ⟨rfl, Below.then hB hb2 hzq⟩
theorem zgz (base : Nat) (t : AT) (w : World) (h : Lies base w t) (hok : EncOk t.nd) :
  Calls Tryz.prog 119 #[t.ptr] w fun e w' => e = .returned (.string (bs (encD t.nd))) /\ Below w.heap.size w w' := by
 unfold encD encL;rw [AT.nd_kids, AT.nd_ps];rcases hok with ⟨h1, h2, h3⟩ | ⟨h1, h2, h3⟩
 . rw [AT.nd_kids] at h1;rw [AT.nd_ps] at h2 h3;rw [if_pos h1];exact zcS base t w h (by simpa using h1) h2 h3
 . rw [AT.nd_kids, List.length_map] at h1 h2;rw [if_neg (by intro e; rw [List.map_eq_nil_iff] at e; rw [e] at h1; simp at h1)];refine zci base t w h h1 h2 fun c hc => h3 _ ?_;rw [AT.nd_kids];exact List.mem_map.2 ⟨c, hc, rfl⟩
def ndC (po : Option Addr) (pc : Nat) (ko : Option Addr) (kc : Nat) (n : Nd) : List Value := [.slice po n.ps.length pc, .slice ko n.kids.length kc, .int .i64 n.page]
inductive NdC (w : World) : List Value -> Nd -> Prop
 | mk (ps : List Kv) (kids : List Nd) (page : Int) (po : Option Addr) (pc : Nat) (ko : Option Addr) (kc : Nat) (KC : List (List Value))
  (h1 : SlW po ps.length pc) (h2 : RowAt (· < w.heap.size) w po (kvsC ps)) (h3 : SlW ko kids.length kc) (h4 : KC.length = kids.length) (h5 : RowAt (· < w.heap.size) w ko KC.flatten)
  (h6 : ∀ (i : Nat) (h : i < kids.length) (h' : i < KC.length), NdC w KC[i] kids[i]) : NdC w [.slice po ps.length pc, .slice ko kids.length kc, .int .i64 page] (.mk ps kids page)
theorem NdC.cells {w : World} {cs : List Value} {n : Nd} (h : NdC w cs n) : ∃ po pc ko kc, cs = ndC po pc ko kc n := by
 cases h with | mk ps kids page po pc ko kc KC h1 h2 h3 h4 h5 h6 => exact ⟨po, pc, ko, kc, rfl⟩
theorem NdC.len {w : World} {cs : List Value} {n : Nd} (h : NdC w cs n) : cs.length = 3 := by
 obtain ⟨_, _, _, _, rfl⟩ := h.cells; rfl
theorem NdC.stays {w w' : World} (hb : Below w.heap.size w w') : ∀ {n : Nd} {cs : List Value}, NdC w cs n -> NdC w' cs n := by
 intro n
 induction n using Nd.ind with
 | h ps kids page ih =>
  intro cs h;cases h with | mk ps kids page po pc ko kc KC h1 h2 h3 h4 h5 h6 =>
   exact .mk _ _ _ _ _ _ _ KC h1 ((h2.below hb).mono fun _ h => znL h hb.size) h3 h4 ((h5.below hb).mono fun _ h => znL h hb.size)
    fun i hi hi' => ih _ (List.getElem_mem hi) (h6 i hi hi')
theorem NdC.kid {w : World} {po ko : Option Addr} {pc kc : Nat} {n : Nd} (h : NdC w (ndC po pc ko kc n) n) {i : Nat} (hi : i < n.kids.length) :
  ∃ g off p1 c1 k1 d1, ko = some ⟨g, off, none⟩ /\ g < w.heap.size /\ n.kids.length <= kc /\ w.cell? ⟨g, off + i * 3, none⟩ = some (.slice p1 n.kids[i].ps.length c1) /\ w.cell? ⟨g, off + i * 3 + 1, none⟩ = some (.slice k1 n.kids[i].kids.length d1) /\
   w.cell? ⟨g, off + i * 3 + 2, none⟩ = some (.int .i64 n.kids[i].page) /\ NdC w (ndC p1 c1 k1 d1 n.kids[i]) n.kids[i] := by
 generalize hcs : ndC po pc ko kc n = cs at h;cases h with | mk ps kids page po' pc' ko' kc' KC h1 h2 h3 h4 h5 h6 =>
  obtain ⟨-, -, rfl, rfl⟩ : po = po' /\ pc = pc' /\ ko = ko' /\ kc = kc' := by simp only [ndC, Nd.ps, Nd.kids, Nd.page, List.cons.injEq, Value.slice.injEq, and_true, true_and] at hcs;obtain ⟨⟨a, b⟩, c, d⟩ := hcs;exact ⟨a, b, c, d⟩
  simp only [Nd.kids] at hi |-;have hKi : i < KC.length := by omega
  have hN := h6 i hi hKi;obtain ⟨p1, c1, k1, d1, e⟩ := hN.cells;have hKL : ∀ x ∈ KC, x.length = 3 := by intro x hx;obtain ⟨j, hj, rfl⟩ := List.getElem_of_mem hx;exact (h6 j (by omega) hj).len
  have hfl : KC.flatten.length = kids.length * 3 := by rw [List.length_flatten, <- h4];have : KC.map List.length = List.replicate KC.length 3 := List.eq_replicate_iff.2 ⟨by simp, fun x hx => by obtain ⟨y, hy, rfl⟩ := List.mem_map.1 hx; exact hKL y hy⟩;rw [this]; simp
  obtain ⟨g, off, rfl, -, hg⟩ := h5 (i * 3) (by omega);have hcell : ∀ r, r < 3 -> w.cell? ⟨g, off + (i * 3 + r), none⟩ = KC[i][r]? := by
   intro r hr;have hlt : i * 3 + r < KC.flatten.length := by omega
   obtain ⟨g', off', e', hc, -⟩ := h5 (i * 3 + r) hlt;obtain ⟨rfl, rfl⟩ : g = g' /\ off = off' := by simpa using e'
   rw [hc, <- List.getElem?_eq_getElem hlt, flat_get hKL i r hr, List.getElem?_eq_getElem hKi];rfl
  have hkc : kids.length <= kc := by
   rcases h3 with ⟨h, _⟩ | ⟨_, _, h, _⟩
   . cases h
   . exact h
  rw [e] at hcell hN;exact ⟨g, off, p1, c1, k1, d1, rfl, hg, hkc, hcell 0 (by omega), hcell 1 (by omega), hcell 2 (by omega), hN⟩
theorem NdC.pair {w : World} {po ko : Option Addr} {pc kc : Nat} {n : Nd} (h : NdC w (ndC po pc ko kc n) n) {i : Nat} (hi : i < n.ps.length) :
  ∃ g off, po = some ⟨g, off, none⟩ /\ g < w.heap.size /\ n.ps.length <= pc /\ w.cell? ⟨g, off + i * 2, none⟩ = some (.string n.ps[i].1) /\ w.cell? ⟨g, off + i * 2 + 1, none⟩ = some (.string n.ps[i].2) := by
 generalize hcs : ndC po pc ko kc n = cs at h;cases h with | mk ps kids page po' pc' ko' kc' KC h1 h2 h3 h4 h5 h6 =>
  obtain ⟨rfl, rfl, -, -⟩ : po = po' /\ pc = pc' /\ ko = ko' /\ kc = kc' := by simp only [ndC, Nd.ps, Nd.kids, Nd.page, List.cons.injEq, Value.slice.injEq, and_true, true_and] at hcs;obtain ⟨⟨a, b⟩, c, d⟩ := hcs;exact ⟨a, b, c, d⟩
  simp only [Nd.ps] at hi |-;obtain ⟨e0, e1⟩ := zec hi;have hl := zcu ps;obtain ⟨g, off, rfl, c0, hg⟩ := h2 (i * 2) (by omega);obtain ⟨g', off', e', c1, -⟩ := h2 (i * 2 + 1) (by omega);obtain ⟨rfl, rfl⟩ : g = g' /\ off = off' := by simpa using e'
  rw [List.getElem?_eq_getElem (by omega)] at e0 e1;have hpc : ps.length <= pc := by
   rcases h1 with ⟨h, _⟩ | ⟨_, _, h, _⟩
   . cases h
   . exact h
  exact ⟨g, off, rfl, hg, hpc, by rw [c0, e0], by rw [show off + i * 2 + 1 = off + (i * 2 + 1) by omega, c1, e1]⟩
mutual
def Nd.height : Nd -> Nat
 | .mk _ [] _ => 0
 | .mk _ (k :: _) _ => k.height + 1
end
set_option maxHeartbeats 1000000 in
theorem zgn (s : ByteArray) (w : World) (hs : s.size <= 1000000) :
  Calls Tryz.prog 134 #[.string s] w fun e w' => e = .returned (.string (bs (textL s))) /\ Below w.heap.size w w' := by
 obtain ⟨c, hc⟩ : ∃ c : UInt8, UInt8.ofNat s.size = c := ⟨_, rfl⟩;have hu : ((s.size : Int) % 256) = (c.toNat : Int) := by rw [<- hc, u8_of]; omega
 have hcz : ByteArray.size { data := #[c] } = 1 := rfl;have Hc := zhI hc;clear hc;go_enter Tryz.func134, Tryz.ntmps134;go_wp2_with (refine zbx rfl _ 139 9 5 rfl Tryz.underlying139 Tryz.underlying5 Tryz.underlying9 (some ⟨w.heap.size, 0, none⟩) 1 1 [c] rfl rfl (S := (· = w.heap.size)) (RowAt.bx (Bx.new w _ _)) ?_);go_ret;refine ⟨?_, Below.one _ _⟩;unfold textL;rw [Hc.out, show c :: s.data.toList = [c] ++ s.data.toList from rfl, <- zbr, bs_of];rfl
set_option maxHeartbeats 1000000 in
theorem zl8 (n : Nd) (po ko : Option Addr) (pc kc : Nat) (w : World) (h : NdC w (ndC po pc ko kc n) n) (hf : n.first = true) :
  Calls Tryz.prog 135 #[.agg (ndC po pc ko kc n).toArray] w fun e w' => e = .returned (.string n.least) /\ Below w.heap.size w w' := by
 unfold ndC;go_enter Tryz.func135, Tryz.ntmps135;go_wp2
 go_loopg [] n.height (fun k wr => ∃ (s : Nd) (p1 k1 : Option Addr) (c1 d1 : Nat), Hid (NdC w (ndC p1 c1 k1 d1 s) s /\ s.least = n.least /\ s.first = true /\ s.height = k) /\ Bx wr w.heap.size (ndC p1 c1 k1 d1 s).toArray 95 /\ Below w.heap.size w wr)
 case atStart => exact ⟨n, po, ko, pc, kc, zhI ⟨h, rfl, hf, rfl⟩, Bx.new w _ _, Below.one _ _⟩
 case round =>
  clear h hf;obtain ⟨s, p1, k1, c1, d1, H, x, hB⟩ := hrel;obtain ⟨hl, h1, h2, h3⟩ := H.out;have hz := hB.size;have cX := x.cell;have lX := x.lt;have fX := x.free;obtain ⟨ps, kids, page⟩ := s;simp only [ndC, Nd.ps, Nd.kids, Nd.page] at cX;cases kids with
  | nil =>
   have hps : 0 < ps.length := by
    rw [Nd.first] at h2;cases ps with
    | nil => simp at h2
    | cons => simp
   obtain ⟨g, off, rfl, hg, hle, c0, -⟩ := hl.pair (i := 0) hps;rw [Nat.zero_mul, Nat.add_zero] at c0;have d0 : wr.cell? ⟨g, off, none⟩ = some (.string ps[0].1) := by rw [hB.cell hg]; exact c0
   have hres : (Nd.mk ps [] page).least = ps[0].1 := by
    cases ps with
    | nil => simp at hps
    | cons x l => rw [Nd.least]; rfl
   rw [hres] at h1;have R := zhI h1;simp only [Nd.ps] at hle;have hg2 : g < wr.heap.size := by omega
   simp only [List.length_nil] at cX;clear hl H h1 h2 h3 hres x c0 fX;go_wp2;go_ret;exact ⟨by rw [<- R.out]; rfl, hB⟩
  | cons k0 ks =>
   obtain ⟨g, off, p2, c2, k2, d2, rfl, hg, hle, e0, e1, e2, hN⟩ := hl.kid (i := 0) (by simp [Nd.kids]);simp only [Nd.kids, List.getElem_cons_zero, Nat.zero_mul, Nat.add_zero] at e0 e1 e2 hN hle;have f0 : wr.cell? ⟨g, off, none⟩ = some (.slice p2 k0.ps.length c2) := by rw [hB.cell hg]; exact e0
   have f1 : wr.cell? ⟨g, off + 1, none⟩ = some (.slice k2 k0.kids.length d2) := by rw [hB.cell hg]; exact e1
   have f2 : wr.cell? ⟨g, off + 2, none⟩ = some (.int .i64 k0.page) := by rw [hB.cell hg]; exact e2
   have R : Hid (NdC w (ndC p2 c2 k2 d2 k0) k0 /\ k0.least = n.least /\ k0.first = true /\ k0.height + 1 = gk) := zhI ⟨hN, by rw [<- h1, Nd.least], by rw [Nd.first] at h2; exact h2, by rw [<- h3, Nd.height]⟩;obtain ⟨m, hm⟩ : ∃ m, (k0 :: ks).length = m + 1 := ⟨ks.length, by simp⟩;rw [hm] at cX hle;have hg2 : g < wr.heap.size := by omega
   have X3 : Hid (Bx (((wr.setCell ⟨w.heap.size, 0, none⟩ (.slice p2 k0.ps.length c2)).setCell ⟨w.heap.size, 1, none⟩ (.slice k2 k0.kids.length d2)).setCell ⟨w.heap.size, 2, none⟩ (.int .i64 k0.page)) w.heap.size (ndC p2 c2 k2 d2 k0).toArray 95) := zhI (by
    have := ((x.set 0 (.slice p2 k0.ps.length c2)).set 1 (.slice k2 k0.kids.length d2)).set 2 (.int .i64 k0.page);simpa [ndC] using this)
   have HB := zhI hB;clear hl H h1 h2 h3 x e0 e1 e2 hN hm hB;go_wp2
   go_roundg k0.height
   case rel => exact ⟨k0, p2, k2, c2, d2, zhI ⟨R.out.1, R.out.2.1, R.out.2.2.1, rfl⟩, X3.out, zaa (zaa (zaa HB.out (Nat.le_refl _)) (Nat.le_refl _)) (Nat.le_refl _)⟩
   case measure => have := R.out.2.2.2; omega
end Go.Proofs.YtlefmmhlpgmbjaaGreat
