/- btree.pairs: the pairs of a tree in order: the contract of its iterator, which calls itself. (*loader).load with all its fuel; plain laws of what is loaded: shape, number of pairs. What btree.open returns, plain; values of indexes. The law for 'for x := range f' where the loop variable is boxed: the body's frame is told by the frame before. -/
import Derived.Test.YtlefmmhlpgmbjaaGreatS06
import Derived.Test.YtlefmmhlpgmbjaaGreatS02
import Derived.Laws.EntriesVeiled
import Derived.Test.YtlefmmhlpgmbjaaGreatS09
import Derived.Test.YtlefmmhlpgmbjaaGreatS03
import Derived.Test.YtlefmmhlpgmbjaaGreatS01
namespace Go.Proofs.YtlefmmhlpgmbjaaGreat
set_option maxRecDepth 100000
open Go.RowKit Go.Shelf
attribute [local go_sem] Oper.semAt_some
inductive Nd.Wf : Nd -> Prop
 | mk (ps : List Kv) (kids : List Nd) (page : Int) (h : kids = [] \/ ps = []) (hk : ∀ k ∈ kids, Nd.Wf k) : Nd.Wf (.mk ps kids page)
theorem Nd.Wf.kid {n : Nd} (h : n.Wf) : ∀ k ∈ n.kids, k.Wf := by cases h; assumption
theorem Nd.Wf.or {n : Nd} (h : n.Wf) : n.kids = [] \/ n.ps = [] := by cases h; assumption
theorem AT.prs_eq {t : AT} (h : t.nd.Wf) : t.nd.prs = t.ps ++ (t.kids.map fun k => k.nd.prs).flatten := by
 rcases h.or with h1 | h1
 . rw [Nd.prs_leaf h1, AT.nd_ps];rw [AT.nd_kids, List.map_eq_nil_iff] at h1;rw [h1]; simp
 .
  by_cases h2 : t.nd.kids = []
  . rw [Nd.prs_leaf h2, AT.nd_ps];rw [AT.nd_kids, List.map_eq_nil_iff] at h2;rw [h2]; simp
  . rw [Nd.prs_inner h2, AT.nd_kids, List.map_map];rw [AT.nd_ps] at h1;rw [h1]; rfl
theorem Lies.keepT {base : Nat} {T : Nat -> Prop} {W W' : World} {t : AT} (h : Lies base W t) (hk : KeepT T W W') (hT : ∀ x ∈ t.fp, T x) : Lies base W' t :=
 h.same fun x hx => by have hlt := (h.lt x hx).2;exact (hk x _ (hT x hx) (Array.getElem?_eq_getElem hlt)).trans (Array.getElem?_eq_getElem hlt).symm
theorem zgN {m m' : Nat} {P : Program} {l : Nat} {args : Array Value} {W : World} {R : Ending -> World -> Prop} (h : YieldAt Fence.wide m P l args W R) : YieldAt Fence.wide m' P l args W R := by
 obtain ⟨fn, tmps, assign, body, h1, h2, h3⟩ := h;exact ⟨fn, tmps, assign, body, h1, h2, fun c cs _ => h3 c cs (room_wide _)⟩
theorem KeepT.alloc {T : Nat -> Prop} (W : World) (o : Obj) : KeepT T W (W.alloc o) := fun k _ _ h => (Below.heap_alloc W o k (Array.getElem?_eq_some_iff.1 h).1).trans h
theorem zdF {w w' : World} {g i : Nat} (h : w'.heap[g]? = w.heap[g]?) : w'.cell? ⟨g, i, none⟩ = w.cell? ⟨g, i, none⟩ := by simp [World.cell?, h]
abbrev kvV (p : Kv) : Value := .agg #[.string p.1, .string p.2]
def wcC (wc : Nat) : Array Value := #[.func (.func 102) #[] #[.pointer (some ⟨wc, 0, none⟩)]]
section
variable (l base wc N : Nat) (T : Nat -> Prop) (J Jx : List Kv -> World -> Prop)
 (hJ : ∀ s W W', J s W -> W.grownBy W' none -> J s W')
 (hY : ∀ m pre x W1, J pre W1 -> pre.length < N -> YieldAt Fence.wide m Tryz.prog l #[kvV x] W1 fun e W' => (e = .returned (.bool true) /\ J (pre ++ [x]) W' /\ KeepT T W1 W') \/ (e = .returned (.bool false) /\ Jx (pre ++ [x]) W'))
 (hTw : T wc)
include hJ hY hTw
set_option maxRecDepth 100000 in
set_option maxHeartbeats 4000000 in
theorem zmy : ∀ (t : AT) (W : World) (pre : List Kv), Lies base W t -> t.nd.Wf -> (∀ x ∈ t.fp, T x) -> Bx W wc (wcC wc) 156 -> J pre W -> pre.length + t.nd.prs.length <= N -> N <= 1000000 ->
  Calls Tryz.prog 102 #[t.ptr, .func (.yield l) #[] #[], .pointer (some ⟨wc, 0, none⟩)] W fun e W' =>
   (e = .returned (.bool true) /\ J (pre ++ t.nd.prs) W' /\ KeepT T W W') \/ (e = .returned (.bool false) /\ ∃ ys, ys <+: t.nd.prs /\ Jx (pre ++ ys) W') := by
 intro t
 induction t using AT.ind with
 | h b pv kv ps kids page ih =>
  intro W pre hl hwf hTf hxw hJp hN hN6;have hx := hl.hx;have hp := hl.hp;have hk := hl.hk;have hc := hl.hc;have hwk := hwf.kid;have hprs := AT.prs_eq hwf;simp only [AT.b, AT.pv, AT.kv, AT.kids, AT.ps, AT.page, AT.nd_kids] at hx hp hk hc hprs hwk;rw [hprs] at hN |-;simp only [AT.ptr, AT.b];simp only [AT.fp, zmC, zmA] at hTf;obtain ⟨po, pc, rfl, hsl, hrow⟩ := hp.at;obtain ⟨ko, kc, rfl, hsk, hrok⟩ := hk.at;obtain ⟨m, hm⟩ : ∃ m, ps.length = m := ⟨_, rfl⟩;obtain ⟨q, hq⟩ : ∃ m, kids.length = m := ⟨_, rfl⟩;have hqm : kids.length <= maxLen := by rcases hsk with ⟨_, h, _⟩ | ⟨_, _, h1, h2⟩ <;> omega
  unfold maxLen at hqm;rw [hq] at hqm;rw [hm, hq] at hx;obtain ⟨C, hC⟩ : ∃ C, (kids.map fun k => k.nd.prs) = C := ⟨_, rfl⟩;rw [hC] at hN |-;rw [zlA, hm] at hN;have cX := hx.cell;have lX := hx.lt;unfold nodeC at cX;have Hm := zhI hm;have Hq := zhI hq;have HC := zhI hC;have hTb : T b := hTf b (.inl rfl);have hTp : ∀ g, (Value.slice po m pc).ownBlock = some g -> T g := fun g e => hTf g (.inr (.inl (by rw [hm] ; simpa using e)));have hTk : ∀ g, (Value.slice ko q kc).ownBlock = some g -> T g := fun g e => hTf g (.inr (.inr (.inl (by rw [hq]; simpa using e))));have hTc : ∀ c ∈ kids, ∀ x ∈ c.fp, T x := fun c hc x hx => hTf x (.inr (.inr (.inr (AT.mem_fpL.2 ⟨c, hc, hx⟩))));have HY := zhI hY;have HJ := zhI hJ;have HJp := zhI hJp;clear hY hJ hm hq hC hTf hprs hl hJp;obtain ⟨n, hn⟩ : ∃ n, 9 <= n := ⟨9, Nat.le_refl _⟩;refine (callsIn_wide (n := n)).1 ?_;have hro : Fence.wide.round = none := rfl;have h1 : 1 <= n := by omega
  refine callsIn_of_wp Tryz.func102 rfl trivial ?_ hro;simp only [Tryz.ntmps102, List.size_toArray, zlC, List.length_nil, Nat.reduceAdd, Nat.reduceSub, Array.replicate_succ, Array.replicate_zero, List.push_toArray, List.append_toArray, List.nil_append, List.cons_append];gi_wp2
  gi_loopw [15] (fun i wr => ∃ k : Nat, k <= m /\ i = .int .i64 k /\ J (pre ++ ps.take k) wr /\ KeepT T W wr) (fun i _ => m - (intOf i).toNat)
  case atStart => exact ⟨0, Nat.zero_le _, rfl, by simpa using HJp.out, KeepT.refl _ _⟩
  case round =>
   clear cX lX;obtain ⟨k, hkm, rfl, hJk, hKT⟩ := hrel
   by_cases hlt : k < m
   .
    have hlk : k < ps.length := by rw [Hm.out]; exact hlt
    obtain ⟨g, c, e, c0, c1, hpc, hg⟩ := zb9 hp hlk;obtain ⟨rfl, rfl⟩ : po = some ⟨g, 0, none⟩ /\ pc = c := by simpa using e
    have hTg : T g := hTp g rfl;have hgl := (hp.lt g hg).2;have hhg : wr.heap[g]? = W.heap[g]? := (hKT g _ hTg (Array.getElem?_eq_getElem hgl)).trans (Array.getElem?_eq_getElem hgl).symm;have d0 : wr.cell? ⟨g, k * 2, none⟩ = some (.string ps[k].1) := by rw [zdF hhg]; exact c0
    have d1 : wr.cell? ⟨g, k * 2 + 1, none⟩ = some (.string ps[k].2) := by rw [zdF hhg]; exact c1
    have hgr : g < wr.heap.size := by rw [Array.getElem?_eq_getElem hgl] at hhg;exact (Array.getElem?_eq_some_iff.1 hhg).1
    have Hs : Hid (ps.take (k + 1) = ps.take k ++ [ps[k]]) := zhI (List.take_succ_eq_append_getElem hlk);have Hpre : Hid (ps.take (k + 1) <+: ps ++ C.flatten) := zhI ((List.take_prefix _ _).trans (List.prefix_append _ _));have hlenk : (pre ++ ps.take k).length < N := by rw [zlA, List.length_take]; omega
    obtain ⟨⟨ky, vy⟩, hkv⟩ : ∃ p : Kv, ps[k] = p := ⟨_, rfl⟩;rw [hkv] at d0 d1 Hs;simp only at d0 d1;have hJ1 := HJ.out _ _ _ hJk (World.grownBy_alloc wr (.cells #[.string ky, .string vy] 77) none);obtain ⟨fn, tmps, assign, body, hy, hR⟩ := HY.out (n - 1) _ (ky, vy) _ hJ1 hlenk;unfold kvV at hy;dsimp only at hy;have HK := zhI (hKT.trans (KeepT.alloc wr (.cells #[.string ky, .string vy] 77)));rw [Hm.out] at hpc;clear hkv c0 c1 e hg hhg hlenk hJk hJ1 hKT hxw hx hp hk;gi_wp2;refine hR.mono ?_;rintro e W3 (⟨rfl, hJ3, hk3⟩ | ⟨rfl, hJx3⟩)
    .
     clear hy d0 d1;gi_wp2;go_roundw
     case rel => exact ⟨k + 1, by omega, by go_num, by rw [Hs.out, <- List.append_assoc]; exact hJ3, HK.out.trans hk3⟩
     case measure => simp [intOf]; omega
    . clear hy d0 d1;gi_wp2;go_ret;exact .inr ⟨rfl, _, Hpre.out, by rw [Hs.out, <- List.append_assoc]; exact hJx3⟩
   .
    obtain ⟨wo, rfl⟩ : ∃ wo, wo = wr := ⟨_, rfl⟩;obtain rfl : k = m := by omega
    have hx2 : Bx wo b _ _ := hKT _ _ hTb hx;have cX := hx2.cell;have lX := hx2.lt;unfold nodeC at cX;rw [show pre ++ ps.take k = pre ++ (ps ++ (C.take 0).flatten) by rw [<- Hm.out, List.take_length]; simp] at hJk;have HJk := zhI hJk;have HKT := zhI hKT;clear hx2 hJk hKT hx;gi_wp2;clear cX lX
    gi_loopw [29] (fun i wq => ∃ j : Nat, j <= q /\ i = .int .i64 j /\ J (pre ++ (ps ++ (C.take j).flatten)) wq /\ KeepT T W wq) (fun i _ => q - (intOf i).toNat)
    case atStart => exact ⟨0, Nat.zero_le _, rfl, HJk.out, HKT.out⟩
    case round =>
     obtain ⟨j, hjq, rfl, hJj, hKT⟩ := hrel;clear HJk HKT
     by_cases hlt : j < q
     .
      have hlk : j < kids.length := by rw [Hq.out]; exact hlt
      have hlC : j < C.length := by rw [<- HC.out, List.length_map]; exact hlk
      obtain ⟨g, c, e, c0, hkc, hg⟩ := zaY hk hlk;obtain ⟨rfl, rfl⟩ : ko = some ⟨g, 0, none⟩ /\ kc = c := by simpa using e
      have hTg : T g := hTk g rfl;have hgl := (hk.lt g hg).2;have hhg : wr.heap[g]? = W.heap[g]? := (hKT g _ hTg (Array.getElem?_eq_getElem hgl)).trans (Array.getElem?_eq_getElem hgl).symm;have d0 : wr.cell? ⟨g, j, none⟩ = some kids[j].ptr := by rw [zdF hhg]; exact c0
      have hgr : g < wr.heap.size := by rw [Array.getElem?_eq_getElem hgl] at hhg;exact (Array.getElem?_eq_some_iff.1 hhg).1
      have hxw2 : Bx wr wc (wcC wc) _ := hKT _ _ hTw hxw;have cW := hxw2.cell;have lW := hxw2.lt;unfold wcC at cW;have hCj : C[j] = kids[j].nd.prs := by simp only [<- HC.out, List.getElem_map]
      have hfl : C.flatten = (C.take j).flatten ++ (C[j] ++ (C.drop (j + 1)).flatten) := by rw [<- List.flatten_cons, <- List.drop_eq_getElem_cons hlC, <- List.flatten_append, List.take_append_drop]
      have hlen : (pre ++ (ps ++ (C.take j).flatten)).length + kids[j].nd.prs.length <= N := by rw [hfl, zlA, zlA] at hN;rw [<- hCj, zlA, zlA, Hm.out];omega
      have hih := ih kids[j] (List.getElem_mem hlk) wr (pre ++ (ps ++ (C.take j).flatten)) ((hc _ (List.getElem_mem hlk)).keepT hKT (hTc _ (List.getElem_mem hlk))) (hwk _ (List.mem_map.2 ⟨_, List.getElem_mem hlk, rfl⟩)) (hTc _ (List.getElem_mem hlk)) hxw2 hJj hlen hN6;have Hs : Hid ((C.take (j + 1)).flatten = (C.take j).flatten ++ kids[j].nd.prs) := zhI (by rw [List.take_succ_eq_append_getElem hlC, List.flatten_append, <- hCj]; simp);have Hpre : Hid (∀ ys, ys <+: kids[j].nd.prs -> ps ++ (C.take j).flatten ++ ys <+: ps ++ C.flatten) := zhI (fun ys hys => by rw [hfl, List.append_assoc, List.prefix_append_right_inj, List.prefix_append_right_inj, hCj];exact hys.trans (List.prefix_append _ _))
      unfold AT.ptr at hih d0;obtain ⟨cb, hcb⟩ : ∃ x, kids[j].b = x := ⟨_, rfl⟩;obtain ⟨D, hD⟩ : ∃ x, kids[j].nd.prs = x := ⟨_, rfl⟩;rw [hcb] at hih d0;rw [hD] at hih Hs Hpre;have Hih := zhI hih;have HK := zhI hKT;rw [Hq.out] at hkc;clear hcb hD hih hKT hlen hfl hCj hxw2 c0 e hhg hg hJj hp hk;gi_wp2_with (refine ⟨trivial, ?_⟩; gi_at_call 102; refine (callsIn_wide.2 Hih.out).mono ?_);rintro e W3 (⟨rfl, hJ3, hk3⟩ | ⟨rfl, ys, hys, hJx3⟩)
      .
       clear d0 cW lW;gi_wp2;go_roundw
       case rel => exact ⟨j + 1, by omega, by go_num, by rw [Hs.out, <- List.append_assoc ps, <- List.append_assoc pre]; exact hJ3, HK.out.trans hk3⟩
       case measure => simp [intOf]; omega
      . clear d0 cW lW;gi_wp2;go_ret;exact .inr ⟨rfl, _, Hpre.out ys hys, by rw [<- List.append_assoc pre]; exact hJx3⟩
     .
      obtain rfl : j = q := by omega
      have hCl : C.take j = C := List.take_of_length_le (by rw [<- HC.out, List.length_map, Hq.out]; exact Nat.le_refl _);rw [hCl] at hJj;gi_wp2;go_ret;exact .inl ⟨rfl, hJj, hKT⟩
end
def rootV : Option AT -> Value
 | none => .pointer none
 | some t => t.ptr
def LiesO (base : Nat) (W : World) (o : Option AT) : Prop := ∀ t, o = some t -> Lies base W t /\ t.nd.Wf /\ t.fp.Nodup
def fpO : Option AT -> List Nat
 | none => []
 | some t => t.fp
def ndO (o : Option AT) : Option Nd := o.map AT.nd
set_option maxRecDepth 100000 in
set_option maxHeartbeats 4000000 in
theorem zbQ (n : Nat) (hn : 2 <= n) (base rc wc : Nat) (T : Nat -> Prop) (o : Option AT) (w : World) (ho : LiesO base w o) (hT : ∀ x ∈ fpO o, T x) (_hTr : T rc) (hTw : T wc)
  (xr : Bx w rc #[rootV o] 88) (xw : Bx w wc (wcC wc) 156) (hl : (zaf (ndO o)).length <= 1000000) :
  SeqStopsK Fence.wide n Tryz.prog 103 #[.pointer (some ⟨rc, 0, none⟩), .pointer (some ⟨wc, 0, none⟩)] (fun x : Kv => #[kvV x]) (KeepT T) (fun ys => ys = zaf (ndO o)) (fun pre => pre <+: zaf (ndO o)) (zaf (ndO o)).length w := by
 intro l J Jx W hW hJ hJx hY h0;have hro : Fence.wide.round = none := rfl;have h1 : 1 <= n := by omega
 have yr := xr.belowAll hW;have yw := xw.belowAll hW;have cR := yr.cell;have lR := yr.lt;have cW := yw.cell;have lW := yw.lt;unfold wcC at cW;have HJ : Hid (∀ s W W', J s W -> W.grownBy W' none -> J s W') := zhI (fun s A B hs hg => hJ s A B none hs hg (by simp));have HY : Hid (∀ m pre x W1, J pre W1 -> pre.length < (zaf (ndO o)).length -> YieldAt Fence.wide m Tryz.prog l #[kvV x] W1 fun e W' => (e = .returned (.bool true) /\ J (pre ++ [x]) W' /\ KeepT T W1 W') \/ (e = .returned (.bool false) /\ Jx (pre ++ [x]) W')) :=
  zhI (fun m pre x W1 hj hl => zgN (hY pre x W1 hj hl))
 have H0 := zhI h0;clear hY hJ hJx h0;cases o with
 | none => unfold rootV at cR;refine callsIn_of_wp Tryz.func103 rfl trivial ?_ hro;simp only [Tryz.ntmps103, List.size_toArray, zlC, List.length_nil, Nat.reduceAdd, Nat.reduceSub, Array.replicate_succ, Array.replicate_zero, List.push_toArray, List.append_toArray, List.nil_append, List.cons_append];gi_wp2;go_end0;exact ⟨⟨_, rfl⟩, .inl H0.out⟩
 | some t =>
  obtain ⟨hli, hwf, -⟩ := ho t rfl;have er : rootV (some t) = .pointer (some ⟨t.b, 0, none⟩) := rfl;rw [er] at cR;have hwk := zmy l base wc (zaf (ndO (some t))).length T J Jx HJ.out HY.out hTw t W [] (hli.staysAll hW) hwf hT yw H0.out (by simp [zaf, ndO]) hl;simp only [AT.ptr, List.nil_append] at hwk;have hpo : zaf (ndO (some t)) = t.nd.prs := rfl;rw [hpo];obtain ⟨D, hD⟩ : ∃ D, t.nd.prs = D := ⟨_, rfl⟩;rw [hD] at hwk |-;obtain ⟨b, hb⟩ : ∃ b, t.b = b := ⟨_, rfl⟩;rw [hb] at hwk cR;have Hwk := zhI hwk;clear hD hb hwk hl hpo hli hwf ho hT HY;refine callsIn_of_wp Tryz.func103 rfl trivial ?_ hro;simp only [Tryz.ntmps103, List.size_toArray, zlC, List.length_nil, Nat.reduceAdd, Nat.reduceSub, Array.replicate_succ, Array.replicate_zero, List.push_toArray, List.append_toArray, List.nil_append, List.cons_append];gi_wp2_with (refine ⟨trivial, ?_⟩; gi_at_call 102; refine (callsIn_wide.2 Hwk.out).mono ?_);rintro e W3 (⟨rfl, hJ3, -⟩ | ⟨rfl, ys, hys, hJx3⟩)
  . gi_wp2;go_end0;exact ⟨⟨_, rfl⟩, .inl ⟨_, rfl, hJ3⟩⟩
  . gi_wp2;go_end0;exact ⟨⟨_, rfl⟩, .inr ⟨_, hys, hJx3⟩⟩
set_option maxHeartbeats 1000000 in
theorem zc0 (n : Nat) (p : Option Addr) (w : World) :
  CallsIn Fence.wide n Tryz.prog 61 #[.pointer p] w fun e w' => e = .returned (.func (.func 103) #[] #[.pointer (some ⟨w.heap.size, 0, none⟩), .pointer (some ⟨w.heap.size + 1, 0, none⟩)]) /\
   Bx w' w.heap.size #[.pointer p] 88 /\ Bx w' (w.heap.size + 1) (wcC (w.heap.size + 1)) 156 /\ Below w.heap.size w w' /\ w'.heap.size = w.heap.size + 2 := by
 have hro : Fence.wide.round = none := rfl;refine callsIn_of_wp Tryz.func61 rfl trivial ?_ hro;simp only [Tryz.ntmps61, List.size_toArray, zlC, List.length_nil, Nat.reduceAdd, Nat.reduceSub, Array.replicate_succ, Array.replicate_zero, List.push_toArray, List.append_toArray, List.nil_append, List.cons_append];gi_wp2;go_ret;exact ⟨rfl, (Bx.new w #[.pointer p] 88).alloc _, Bx.newAt (w.alloc (.cells #[.pointer p] 88)) _ 156 (w.heap.size + 1) (by simp), (Below.one w _).alloc (by simp) _, by simp⟩
end Go.Proofs.YtlefmmhlpgmbjaaGreat
namespace Go.Proofs.YtlefmmhlpgmbjaaGreat
set_option maxRecDepth 100000
open Go.RowKit
inductive Shp : Nd -> Prop
 | lf (ps : List Kv) (pg : Int) (h1 : 1 <= ps.length) (h3 : ps.length <= 3) (hk : ∀ p ∈ ps, KvOk p) : Shp (.mk ps [] pg)
 | inn (kids : List Nd) (pg : Int) (h2 : 2 <= kids.length) (h8 : kids.length <= 8) (hk : ∀ k ∈ kids, Shp k) : Shp (.mk [] kids pg)
theorem Shp.wf : ∀ {n : Nd}, Shp n -> n.Wf := by
 intro n
 induction n using Nd.ind with
 | h ps kids page ih =>
  intro h;cases h with
  | lf _ _ h1 h3 hk => exact .mk _ _ _ (.inl rfl) (fun k hk => by cases hk)
  | inn _ _ h2 h8 hk => exact .mk _ _ _ (.inr rfl) (fun k h => ih k h (hk k h))
theorem Shp.first : ∀ {n : Nd}, Shp n -> n.first = true := by
 intro n
 induction n using Nd.ind with
 | h ps kids page ih =>
  intro h;cases h with
  | lf _ _ h1 h3 hk => exact zft h1
  | inn _ _ h2 h8 hk =>
   cases kids with
   | nil => simp at h2
   | cons k r => rw [Nd.first]; exact ih k (by simp) (hk k (by simp))
theorem Shp.least : ∀ {n : Nd}, Shp n -> n.least.size <= 48 := by
 intro n
 induction n using Nd.ind with
 | h ps kids page ih =>
  intro h;cases h with
  | lf _ _ h1 h3 hk => exact zfg hk
  | inn _ _ h2 h8 hk =>
   cases kids with
   | nil => simp at h2
   | cons k r => rw [Nd.least]; exact ih k (by simp) (hk k (by simp))
theorem zeW {d : Dsk} {frm til : Int} : ∀ (f : Nat) {root : Bool} {page : Int} {used u : List Int} {n : Nd} {k : Nat}, loadP d frm til f root page used = some (n, k, u) -> Shp n
 | 0, _, _, _, _, _, _, h => by cases h
 | f + 1, root, page, used, u, n, k, h => by
  rw [loadP] at h;split at h
  . cases h
  .
   split at h
   .
    split at h
    . cases h
    .
     rename_i hc
     split at h
     . cases h
     .
      rename_i ps hps
      split at h
      . simp only [Option.some.injEq, Prod.mk.injEq] at h;obtain ⟨rfl, -, -⟩ := h;obtain ⟨e1, e2⟩ := zbn hps;exact .lf _ _ (by omega) (by omega) e2
      . cases h
   .
    split at h
    . cases h
    .
     rename_i hc
     split at h
     . cases h
     .
      rename_i kids k1 u1 hk
      split at h
      .
       simp only [Option.some.injEq, Prod.mk.injEq] at h;obtain ⟨rfl, -, -⟩ := h;obtain ⟨e1, e2⟩ := zcb hk;have hlen : kids.length = ((pageL d page).getD 1 0).toNat := by rw [e1]; simp [zar]
       exact .inn _ _ (by omega) (by omega) fun x hx => by obtain ⟨p, u2, k2, u3, hg⟩ := e2 x hx;exact zeW f hg
      . cases h
theorem zhu {g : Int -> List Int -> Option (Nd × Nat × List Int)} (hg : ∀ p u n k u', g p u = some (n, k, u') -> n.prs.length + 3 * u.length <= 3 * u'.length) :
  ∀ {l : List Int} {o : Option Nat} {u u' : List Int} {ns : List Nd} {k : Nat}, kidsV g l o u = some (ns, k, u') -> (ns.map Nd.prs).flatten.length + 3 * u.length <= 3 * u'.length
 | [], _, _, _, _, _, h => by simp only [kidsV, Option.some.injEq, Prod.mk.injEq] at h;obtain ⟨rfl, -, rfl⟩ := h;simp
 | p :: r, o, u, u', ns, k, h => by
  rw [kidsV] at h;split at h
  . cases h
  .
   rename_i n k1 u1 hx
   split at h
   . cases h
   . obtain ⟨⟨m, k2, u2⟩, hm, e⟩ := Option.map_eq_some_iff.1 h;simp only [Prod.mk.injEq] at e;obtain ⟨rfl, rfl, rfl⟩ := e;have h1 := hg _ _ _ _ _ hx;have h2 := zhu hg hm;simp only [List.map_cons, List.flatten_cons, zlA];omega
theorem zej {d : Dsk} {frm til : Int} : ∀ (f : Nat) {root : Bool} {page : Int} {used u : List Int} {n : Nd} {k : Nat}, loadP d frm til f root page used = some (n, k, u) -> n.prs.length + 3 * used.length <= 3 * u.length
 | 0, _, _, _, _, _, _, h => by cases h
 | f + 1, root, page, used, u, n, k, h => by
  rw [loadP] at h;split at h
  . cases h
  .
   split at h
   .
    split at h
    . cases h
    .
     rename_i hc
     split at h
     . cases h
     .
      rename_i ps hps
      split at h
      . simp only [Option.some.injEq, Prod.mk.injEq] at h;obtain ⟨rfl, -, rfl⟩ := h;obtain ⟨e1, e2⟩ := zbn hps;rw [Nd.prs_leaf rfl];simp only [Nd.ps, zlA, zlC, List.length_nil];omega
      . cases h
   .
    split at h
    . cases h
    .
     rename_i hc
     split at h
     . cases h
     .
      rename_i kids k1 u1 hk
      split at h
      .
       simp only [Option.some.injEq, Prod.mk.injEq] at h;obtain ⟨rfl, -, rfl⟩ := h;obtain ⟨e1, e2⟩ := zcb hk;have hlen : kids.length = ((pageL d page).getD 1 0).toNat := by rw [e1]; simp [zar]
       have := zhu (fun p u n k u' hg => zej f hg) hk;rw [Nd.prs_inner (by intro e; simp only [Nd.kids] at e; rw [e, List.length_nil] at hlen; omega)];simp only [Nd.kids];simp only [zlA, zlC, List.length_nil] at this;omega
      . cases h
section
variable (B0 lb mb : Nat) (d : Dsk) (po co : Option Addr) (pc cc : Nat) (frm til : Int)
theorem zjB (hc : chk d = 0) (hfit : fits5 d frm til = true) : ∀ f, f <= 1000000 -> LoadC B0 lb mb d po co pc cc frm til f
 | 0, _ => zhe B0 lb mb d po co pc cc frm til
 | f + 1, h => zho B0 lb mb d po co pc cc frm til f (zjB hc hfit f (by omega)) hc hfit (by omega)
end
def treeP (d : Dsk) (frm til : Int) (r : Nat) : Option (Option Nd × List Int) :=
 if r = 0 then some (none, [])
 else match loadP d frm til (fuelX frm til) true r [] with
  | none => none
  | some (n, _, u) => if ascK n.prs then some (some n, u) else none
def readP (d : Dsk) (frm til : Int) : Option (Ix × Option Nd) :=
 if (headX d frm til).1 = 0 then none
 else match treeP d frm til (headX d frm til).2 with
  | none => none
  | some (t, u) => some (⟨d, frm, til, (headX d frm til).1, (headX d frm til).2, zap frm til u⟩, t)
abbrev dC (d : Dsk) (po co : Option Addr) (pc cc : Nat) : Array Value := #[.int .i64 d.size, .slice po d.pages.length pc, .slice co d.cache.length cc, .int .i64 d.left]
def st8 (w : World) (b : Nat) (v0 v1 v2 v3 v4 v5 v6 v7 : Value) : World :=
 (((((((w.setCell ⟨b, 0, none⟩ v0).setCell ⟨b, 1, none⟩ v1).setCell ⟨b, 2, none⟩ v2).setCell ⟨b, 3, none⟩ v3).setCell ⟨b, 4, none⟩ v4).setCell ⟨b, 5, none⟩ v5).setCell ⟨b, 6, none⟩ v6).setCell ⟨b, 7, none⟩ v7
theorem Bx.setO8 {w : World} {b b' : Nat} {cs : Array Value} {v0 v1 v2 v3 v4 v5 v6 v7 : Value} {t : TypeId} (h : Bx w b' cs t) (hne : b' ≠ b) : Bx (st8 w b v0 v1 v2 v3 v4 v5 v6 v7) b' cs t :=
 (((((((h.setO (a := ⟨b, 0, none⟩) hne v0).setO (a := ⟨b, 1, none⟩) hne v1).setO (a := ⟨b, 2, none⟩) hne v2).setO (a := ⟨b, 3, none⟩) hne v3).setO (a := ⟨b, 4, none⟩) hne v4).setO (a := ⟨b, 5, none⟩) hne v5).setO (a := ⟨b, 6, none⟩) hne v6).setO (a := ⟨b, 7, none⟩) hne v7
theorem ziV {B : Nat} {w w' : World} {b : Nat} {v0 v1 v2 v3 v4 v5 v6 v7 : Value} (h : Below B w w') (hb : B <= b) : Below B w (st8 w' b v0 v1 v2 v3 v4 v5 v6 v7) :=
 zaa (b := b) (zaa (b := b) (zaa (b := b) (zaa (b := b) (zaa (b := b) (zaa (b := b) (zaa (b := b) (zaa (b := b) h hb) hb) hb) hb) hb) hb) hb) hb
abbrev ixC (d : Dsk) (po co : Option Addr) (pc cc : Nat) (frm til ver root : Int) (fo : Option Addr) (fn fc : Nat) : Array Value := #[.int .i64 d.size, .slice po d.pages.length pc, .slice co d.cache.length cc, .int .i64 d.left, .int .i64 frm, .int .i64 til, .int .i64 ver, .int .i64 root, .slice fo fn fc]
abbrev ixZ : Array Value := #[.int .i64 0, .slice none 0 0, .slice none 0 0, .int .i64 0, .int .i64 0, .int .i64 0, .int .i64 0, .int .i64 0, .slice none 0 0]
def IxV (w : World) (v : Value) (x : Ix) : Prop :=
 ∃ po pc co cc fo fc, v = .agg (ixC x.disk po co pc cc x.frm x.til x.ver x.root fo x.free.length fc) /\ DskV w (.agg (dC x.disk po co pc cc)) x.disk /\ SlW fo x.free.length fc /\ zas (· < w.heap.size) w fo x.free
theorem IxV.below {w w' : World} {v : Value} {x : Ix} (h : IxV w v x) (hb : Below w.heap.size w w') : IxV w' v x := by
 obtain ⟨po, pc, co, cc, fo, fc, rfl, h1, h2, h3⟩ := h;exact ⟨po, pc, co, cc, fo, fc, rfl, h1.below hb, h2, fun i hi => by obtain ⟨b, off, e, c, hs⟩ := (zas.below h3 hb) i hi;exact ⟨b, off, e, c, znL hs hb.size⟩⟩
def IntsT (w : World) (o : Option Addr) (l : List Int) : Prop :=
 ∀ i (h : i < l.length), ∃ b off cs fz, o = some ⟨b, off, none⟩ /\ w.heap[b]? = some (.cells cs 3 fz) /\ w.cell? ⟨b, off + i, none⟩ = some (.int .i64 l[i])
theorem IntsT.at {w : World} {o : Option Addr} {l : List Int} (h : IntsT w o l) : zas (· < w.heap.size) w o l := fun i hi => by
 obtain ⟨b, off, cs, fz, e, hh, hc⟩ := h i hi;exact ⟨b, off, e, hc, (Array.getElem?_eq_some_iff.1 hh).1⟩
theorem IntsT.same {w w' : World} {o : Option Addr} {l : List Int} (h : IntsT w o l) (hs : ∀ b cs fz, w.heap[b]? = some (.cells cs 3 fz) -> o.map Addr.block = some b -> w'.heap[b]? = w.heap[b]?) : IntsT w' o l := fun i hi => by
 obtain ⟨b, off, cs, fz, rfl, hh, hc⟩ := h i hi;have e := hs b cs fz hh rfl;exact ⟨b, off, cs, fz, rfl, e.trans hh, by rw [<- hc]; simp [World.cell?, e]⟩
theorem IntsT.below {w w' : World} {o : Option Addr} {l : List Int} (h : IntsT w o l) (hb : Below w.heap.size w w') : IntsT w' o l :=
 h.same fun b _ _ hh _ => hb.block b (Array.getElem?_eq_some_iff.1 hh).1
theorem IntsT.own {w : World} {base n : Nat} {o : Option Addr} {c : Nat} {l : List Int} (h : w.ownsRow base 3 1 (.slice o n c) n (l.map (.int .i64))) : IntsT w o l := by
 intro i hi;obtain ⟨o', c', e', hs', hr', hob'⟩ := zai h;obtain ⟨rfl, rfl⟩ : o = o' /\ c = c' := by simpa using e'
 obtain ⟨b, off, e, hc, hb⟩ := hr' i (by simpa using hi);rcases h.2 with ⟨h1, h2⟩ | ⟨g, cap, cur, h1, h2, h3, _⟩
 . rw [e] at h1; cases h1
 . rw [e] at h1;simp at h1;obtain ⟨⟨rfl, rfl⟩, rfl⟩ := h1;exact ⟨b, 0, cur, (0, 0), e, h3, by rw [hc]; simp⟩
def IxT (w : World) (v : Value) (x : Ix) : Prop :=
 ∃ po pc co cc fo fc, v = .agg (ixC x.disk po co pc cc x.frm x.til x.ver x.root fo x.free.length fc) /\ DskV w (.agg (dC x.disk po co pc cc)) x.disk /\ SlW fo x.free.length fc /\ IntsT w fo x.free
theorem IxT.v {w : World} {v : Value} {x : Ix} (h : IxT w v x) : IxV w v x := by
 obtain ⟨po, pc, co, cc, fo, fc, rfl, h1, h2, h3⟩ := h;exact ⟨po, pc, co, cc, fo, fc, rfl, h1, h2, h3.at⟩
theorem IxT.below {w w' : World} {v : Value} {x : Ix} (h : IxT w v x) (hb : Below w.heap.size w w') : IxT w' v x := by
 obtain ⟨po, pc, co, cc, fo, fc, rfl, h1, h2, h3⟩ := h;exact ⟨po, pc, co, cc, fo, fc, rfl, h1.below hb, h2, h3.below hb⟩
theorem IxT.zero (w : World) : IxT w (.agg ixZ) zeroX :=
 ⟨none, 0, none, 0, none, 0, rfl, zba w, .inl ⟨rfl, rfl, rfl⟩, by intro j h; exact absurd h (by simp [zeroX])⟩
structure OpB (w : World) (N : Nat) (d : Dsk) (po co : Option Addr) (pc cc : Nat) (W : World) : Prop where
 dsk : Bx W N (dC d po co pc cc) 25
 res : Bx W (N + 1) ixZ 33
 rp : Bx W (N + 1 + 1) #[.pointer none] 88
 rb : Bx W (N + 1 + 1 + 1) #[.bool false] 4
 below : Below w.heap.size w W
 val : DskR (· < w.heap.size) W (.agg (dC d po co pc cc)) d
 base : w.heap.size = N
 size : N + 3 < W.heap.size
theorem OpB.next {w : World} {N : Nat} {d : Dsk} {po co : Option Addr} {pc cc : Nat} {W W' : World} (h : OpB w N d po co pc cc W) (hb : Below W.heap.size W W') : OpB w N d po co pc cc W' :=
 ⟨h.dsk.belowAll hb, h.res.belowAll hb, h.rp.belowAll hb, h.rb.belowAll hb, btr h.below hb, h.val.same fun b hb' => hb.block b (znL hb' h.below.size), h.base, znL h.size hb.size⟩
theorem OpB.grown {w : World} {N mb : Nat} {d : Dsk} {po co : Option Addr} {pc cc : Nat} {W W' : World} (h : OpB w N d po co pc cc W) (hg : W.grownBy W' (some mb)) (hm : N + 3 < mb) : OpB w N d po co pc cc W' := by
 have hb := h.base;refine ⟨h.dsk.grown hg (by simp; omega), h.res.grown hg (by simp; omega), h.rp.grown hg (by simp; omega), h.rb.grown hg (by simp; omega), h.below.grown hg h.below.size (fun k e => by cases e; omega), h.val.same fun b hb' => hg.block b (znL hb' h.below.size) (by simp; omega), h.base, znL h.size hg.size⟩
theorem OpB.dskv {w : World} {N : Nat} {d : Dsk} {po co : Option Addr} {pc cc : Nat} {W : World} (h : OpB w N d po co pc cc W) : DskV W (.agg (dC d po co pc cc)) d := h.val.mono fun _ hb => znL hb h.below.size
def st9 (w : World) (b : Nat) (v0 v1 v2 v3 v4 v5 v6 v7 v8 : Value) : World := (st8 w b v0 v1 v2 v3 v4 v5 v6 v7).setCell ⟨b, 8, none⟩ v8
theorem Bx.set9 {w : World} {b : Nat} {u0 u1 u2 u3 u4 u5 u6 u7 u8 v0 v1 v2 v3 v4 v5 v6 v7 v8 : Value} {t : TypeId} (h : Bx w b #[u0, u1, u2, u3, u4, u5, u6, u7, u8] t) : Bx (st9 w b v0 v1 v2 v3 v4 v5 v6 v7 v8) b #[v0, v1, v2, v3, v4, v5, v6, v7, v8] t := by
 have := ((((((((h.set 0 v0).set 1 v1).set 2 v2).set 3 v3).set 4 v4).set 5 v5).set 6 v6).set 7 v7).set 8 v8;simpa [Go.Proofs.YtlefmmhlpgmbjaaGreat.st9, Go.Proofs.YtlefmmhlpgmbjaaGreat.st8] using this
theorem Bx.setO9 {w : World} {b b' : Nat} {cs : Array Value} {v0 v1 v2 v3 v4 v5 v6 v7 v8 : Value} {t : TypeId} (h : Bx w b' cs t) (hne : b' ≠ b) : Bx (st9 w b v0 v1 v2 v3 v4 v5 v6 v7 v8) b' cs t :=
 (h.setO8 hne).setO (a := ⟨b, 8, none⟩) hne v8
theorem zad {B : Nat} {w w' : World} {b : Nat} {v0 v1 v2 v3 v4 v5 v6 v7 v8 : Value} (h : Below B w w') (hb : B <= b) : Below B w (st9 w' b v0 v1 v2 v3 v4 v5 v6 v7 v8) :=
 zaa (b := b) (ziV h hb) hb
theorem zb1 {W : World} {N : Nat} {u0 u1 u2 u3 u4 u5 u6 u7 u8 p b : Value} (hx : Bx W (N + 1) #[u0, u1, u2, u3, u4, u5, u6, u7, u8] 33) (hp : Bx W (N + 1 + 1) #[p] 88) (hb : Bx W (N + 1 + 1 + 1) #[b] 4) (v0 v1 v2 v3 v4 v5 v6 v7 v8 p' b' : Value) :
  Bx (((st9 W (N + 1) v0 v1 v2 v3 v4 v5 v6 v7 v8).setCell ⟨N + 1 + 1, 0, none⟩ p').setCell ⟨N + 1 + 1 + 1, 0, none⟩ b') (N + 1) #[v0, v1, v2, v3, v4, v5, v6, v7, v8] 33 /\
  Bx (((st9 W (N + 1) v0 v1 v2 v3 v4 v5 v6 v7 v8).setCell ⟨N + 1 + 1, 0, none⟩ p').setCell ⟨N + 1 + 1 + 1, 0, none⟩ b') (N + 1 + 1) #[p'] 88 /\
  Bx (((st9 W (N + 1) v0 v1 v2 v3 v4 v5 v6 v7 v8).setCell ⟨N + 1 + 1, 0, none⟩ p').setCell ⟨N + 1 + 1 + 1, 0, none⟩ b') (N + 1 + 1 + 1) #[b'] 4 := by
 refine ⟨(hx.set9.setO (a := ⟨N + 1 + 1, 0, none⟩) (by simp) _).setO (a := ⟨N + 1 + 1 + 1, 0, none⟩) (by simp) _, ?_, ?_⟩
 . have := ((hp.setO9 (b := N + 1) (v0 := v0) (v1 := v1) (v2 := v2) (v3 := v3) (v4 := v4) (v5 := v5) (v6 := v6) (v7 := v7) (v8 := v8) (by simp)).set 0 p').setO (a := ⟨N + 1 + 1 + 1, 0, none⟩) (by simp) b';simpa using this
 . have := ((hb.setO9 (b := N + 1) (v0 := v0) (v1 := v1) (v2 := v2) (v3 := v3) (v4 := v4) (v5 := v5) (v6 := v6) (v7 := v7) (v8 := v8) (by omega)).setO (a := ⟨N + 1 + 1, 0, none⟩) (by simp) p').set 0 b';simpa using this
theorem zg5 {B N : Nat} {w W : World} {v0 v1 v2 v3 v4 v5 v6 v7 v8 p' b' : Value} (h : Below B w W) (hN : B <= N) : Below B w (((st9 W (N + 1) v0 v1 v2 v3 v4 v5 v6 v7 v8).setCell ⟨N + 1 + 1, 0, none⟩ p').setCell ⟨N + 1 + 1 + 1, 0, none⟩ b') :=
 zaa (b := N + 1 + 1 + 1) (zaa (b := N + 1 + 1) (zad h (by omega)) (by omega)) (by omega)
def KeepB (L : List Nat) (W W' : World) : Prop := W'.os = W.os /\ W'.tape = W.tape /\ W'.output = W.output /\ W.heap.size <= W'.heap.size /\ ∀ b, b < W.heap.size -> b ∉ L -> W'.heap[b]? = W.heap[b]?
theorem KeepB.refl (L : List Nat) (W : World) : KeepB L W W := ⟨rfl, rfl, rfl, Nat.le_refl _, fun _ _ _ => rfl⟩
theorem KeepB.trans {L : List Nat} {A B C : World} (h : KeepB L A B) (k : KeepB L B C) : KeepB L A C :=
 ⟨k.1.trans h.1, k.2.1.trans h.2.1, k.2.2.1.trans h.2.2.1, znT h.2.2.2.1 k.2.2.2.1, fun b hb hn => (k.2.2.2.2 b (znL hb h.2.2.2.1) hn).trans (h.2.2.2.2 b hb hn)⟩
theorem KeepB.grown {L : List Nat} {W A B : World} {row : Option Nat} (h : KeepB L W A) (hg : A.grownBy B row) (hr : ∀ r, row = some r -> W.heap.size <= r) : KeepB L W B :=
 ⟨hg.os.trans h.1, hg.tape.trans h.2.1, hg.output.trans h.2.2.1, znT h.2.2.2.1 hg.size, fun b hb hn => (hg.block b (znL hb h.2.2.2.1) (fun e => by have := hr b e.symm; omega)).trans (h.2.2.2.2 b hb hn)⟩
theorem KeepB.set {L : List Nat} {W A : World} {b k : Nat} {v : Value} (h : KeepB L W A) (hb : b ∈ L) : KeepB L W (A.setCell ⟨b, k, none⟩ v) := by
 refine ⟨?_, ?_, ?_, ?_, fun c hc hn => (Below.heap_setCell A ⟨b, k, none⟩ v c (fun e => hn (by rw [show c = b from e]; exact hb))).trans (h.2.2.2.2 c hc hn)⟩
 . exact (zaa (b := b) (k := k) (v := v) (Below.refl 0 A) (Nat.zero_le _)).os.trans h.1
 . exact (zaa (b := b) (k := k) (v := v) (Below.refl 0 A) (Nat.zero_le _)).tape.trans h.2.1
 . exact (zaa (b := b) (k := k) (v := v) (Below.refl 0 A) (Nat.zero_le _)).output.trans h.2.2.1
 . simpa using h.2.2.2.1
theorem KeepB.below {L : List Nat} {B : Nat} {w W A : World} (h : KeepB L W A) (hb : Below B w W) (hz : B <= W.heap.size) (hL : ∀ b ∈ L, B <= b) : Below B w A :=
 hb.trans ⟨h.1, h.2.1, h.2.2.1, h.2.2.2.1, fun b hb => h.2.2.2.2 b (znL hb hz) (fun hm => by have := hL b hm; omega)⟩
theorem KeepB.bx {L : List Nat} {W A : World} (h : KeepB L W A) {b : Nat} {cs : Array Value} {t : TypeId} (hx : Bx W b cs t) (hb : b ∉ L) : Bx A b cs t := (h.2.2.2.2 b hx.lt hb).trans hx
theorem KeepB.keepT {L : List Nat} {W A : World} (h : KeepB L W A) (T : Nat -> Prop) (hT : ∀ b, T b -> b ∉ L) : KeepT T W A := fun k _ hk ho => (h.2.2.2.2 k (Array.getElem?_eq_some_iff.1 ho).1 (hT k hk)).trans ho
theorem KeepB.own {L : List Nat} {W A B : World} {l : Nat} {o : Obj} (h : KeepB L W A) (hl : W.heap.size <= l) (hk : B = A.putObj l o) : KeepB L W B := by
 subst hk;exact h.grown (grownBy_putObj' A l o) (fun r e => by cases e; exact hl)
theorem KeepB.res {L : List Nat} {W A : World} {N : Nat} {v0 v1 v2 v3 v4 v5 v6 v7 v8 p' b' : Value} (h : KeepB L W A) (h1 : N + 1 ∈ L) (h2 : N + 1 + 1 ∈ L) (h3 : N + 1 + 1 + 1 ∈ L) : KeepB L W (((st9 A (N + 1) v0 v1 v2 v3 v4 v5 v6 v7 v8).setCell ⟨N + 1 + 1, 0, none⟩ p').setCell ⟨N + 1 + 1 + 1, 0, none⟩ b') :=
 ((((((((((h.set (k := 0) h1).set (k := 1) h1).set (k := 2) h1).set (k := 3) h1).set (k := 4) h1).set (k := 5) h1).set (k := 6) h1).set (k := 7) h1).set (k := 8) h1).set (k := 0) h2).set (k := 0) h3
theorem KeepB.of_below {L : List Nat} {W A B : World} (h : KeepB L W A) (hb : Below A.heap.size A B) : KeepB L W B := h.grown (grownBy_below hb (Nat.le_refl _) none) (by simp)
theorem KeepB.sub {L L' : List Nat} {W A : World} (h : KeepB L W A) (hs : ∀ b ∈ L, b ∈ L') : KeepB L' W A := ⟨h.1, h.2.1, h.2.2.1, h.2.2.2.1, fun b hb hn => h.2.2.2.2 b hb fun hm => hn (hs b hm)⟩
theorem zcE (A : World) (N : Nat) (v0 v1 v2 v3 v4 v5 v6 v7 v8 p' b' : Value) : KeepsOthers A (((st9 A (N + 1) v0 v1 v2 v3 v4 v5 v6 v7 v8).setCell ⟨N + 1 + 1, 0, none⟩ p').setCell ⟨N + 1 + 1 + 1, 0, none⟩ b') :=
 (((((((((((KeepsOthers.setCell A ⟨N + 1, 0, none⟩ v0).trans (KeepsOthers.setCell _ ⟨N + 1, 1, none⟩ v1)).trans (KeepsOthers.setCell _ ⟨N + 1, 2, none⟩ v2)).trans (KeepsOthers.setCell _ ⟨N + 1, 3, none⟩ v3)).trans (KeepsOthers.setCell _ ⟨N + 1, 4, none⟩ v4)).trans (KeepsOthers.setCell _ ⟨N + 1, 5, none⟩ v5)).trans (KeepsOthers.setCell _ ⟨N + 1, 6, none⟩ v6)).trans (KeepsOthers.setCell _ ⟨N + 1, 7, none⟩ v7)).trans (KeepsOthers.setCell _ ⟨N + 1, 8, none⟩ v8)).trans (KeepsOthers.setCell _ ⟨N + 1 + 1, 0, none⟩ p')).trans (KeepsOthers.setCell _ ⟨N + 1 + 1 + 1, 0, none⟩ b'))
def lastK (l : List Kv) : ByteArray := (l.getLast?.map (·.1)).getD ByteArray.empty
theorem zcA (l : List Kv) (x : Kv) : lastK (l ++ [x]) = x.1 := by simp [lastK]
theorem zgC (l : List Kv) (x : Kv) : ascK (l ++ [x]) = (ascK l && (l.isEmpty || kLt (lastK l) x.1)) := by
 induction l with
 | nil => rfl
 | cons a l ih =>
  cases l with
  | nil => simp [ascK, lastK]
  | cons b r =>
   have e : lastK (a :: b :: r) = lastK (b :: r) := by simp [lastK]
   simp only [List.cons_append, ascK] at ih |-;rw [ih, e];simp [Bool.and_assoc]
theorem zew {l m : List Kv} (h : l <+: m) (hl : ascK l = false) : ascK m = false := by
 obtain ⟨r, rfl⟩ := h;cases hm : ascK (l ++ r) with
 | false => rfl
 | true => have := ((zc5 _).1 hm).sub (List.sublist_append_left l r);rw [<- zc5, hl] at this;cases this
theorem zcp {frm til : Int} {k V n : Nat} {s : List UInt8} (h : hdrX s frm til k = some (V, n)) : 1 <= V /\ V <= 1099511627776 /\ n <= 1099511627776 := by
 obtain ⟨q1, q2, q3, q4, q5, q6, q7, q8⟩ := zbg h;omega
theorem zhc {d : Dsk} {frm til : Int} (h0 : hdrX (pageL d frm) frm til 0 = none) (h1 : hdrX (pageL d (frm + 1)) frm til 1 = none) : readP d frm til = none := by
 unfold readP headX;rw [h0, h1];rfl
theorem zcB {d : Dsk} {frm til : Int} {V n : Nat} (h : headX d frm til = (V, n)) (hV : 1 <= V) : readP d frm til = (match treeP d frm til n with
  | none => none
  | some (t, u) => some (⟨d, frm, til, V, n, zap frm til u⟩, t)) := by
 unfold readP;rw [h, if_neg (by simp only; omega)]
end Go.Proofs.YtlefmmhlpgmbjaaGreat
namespace Go.Proofs.YtlefmmhlpgmbjaaGreat
set_option maxRecDepth 100000
open Go.RowKit Go.Shelf
variable {F : Fence} {n : Nat} {P : Program}
theorem KeepT.allocB {T : Nat -> Prop} (W : World) (o : Obj) : KeepT T W (W.alloc o) := fun k _ _ h => (Below.heap_alloc W o k (Array.getElem?_eq_some_iff.1 h).1).trans h
theorem zaD {A B : World} {row : Option Nat} {b : Nat} {cs : Array Value} {t : TypeId} (hs : Bx A b cs t) (hg : A.grownBy B row) (hr : ∀ r, row = some r -> ∃ o : Obj, A.heap[r]? = some o /\ o.isCells = false) : Bx B b cs t := by
 refine hs.grown hg fun e => ?_;obtain ⟨o, ho, hc⟩ := hr b e.symm;unfold Bx at hs;rw [hs] at ho;cases ho;cases hc
theorem zca {α : Type} {g : Operand} {ps : Array Tmp} {assign body : Code} {Q : Exit -> Act -> World -> Prop} {a : Act} {w : World}
  (hro : F.round = none) (h1 : 1 <= n) {gf : Nat} {lb : Array Value} (hg : a.eval g = .func (.func gf) #[] lb) (hFg : F.fn gf) (eg : ∀ args w, (callFunc gf args).run P w = .ok (.enter gf args) w)
  {encs : α -> Array Value} {T : Nat -> Prop} {S Sp : List α -> Prop} {N : Nat} (hseq : SeqStopsK F (n - 1) P gf lb encs (KeepT T) S Sp N w)
  (hT : ∀ b, T b -> b < w.heap.size) (hps : ∀ x, (encs x).size = ps.size)
  (I : List α -> World -> Prop) (Ix : Code -> List α -> World -> Prop) (hI : OwnFrom w.heap.size I) (hIx : ∀ c, OwnFrom w.heap.size (Ix c)) (h0 : I [] w) (hIz : ∀ s W, I s W -> w.heap.size <= W.heap.size) (slot : Nat) (cs : α -> Array Value) (ty : TypeId)
  (hassign : ∀ (l : Nat) (pre : List α) (x : α) (W : World) (K : Act -> World -> Prop), I pre W -> K { tmps := ((ps.zip (encs x)).foldl (fun t (p, v) => t.setIfInBounds p v) a.tmps).setIfInBounds slot (.pointer (some ⟨W.heap.size, 0, none⟩)), defers := [] } (W.alloc (.cells (cs x) ty)) ->
   assign.wpIn (F.inRound l) (n - 1 - 1) P (Exit.then K (fun _ _ _ => False)) { tmps := (ps.zip (encs x)).foldl (fun t (p, v) => t.setIfInBounds p v) a.tmps, defers := [] } W)
  (hbody : ∀ (l : Nat) (pre : List α) (x : α) (Bb : Nat) (W : World), w.heap.size <= Bb -> I pre W -> Bx W Bb (cs x) ty -> pre.length < N ->
   body.wpIn (F.inRound l) (n - 1 - 1) P (ownPostG w.heap.size (KeepT T) I Ix (pre ++ [x]) W) { tmps := ((ps.zip (encs x)).foldl (fun t (p, v) => t.setIfInBounds p v) a.tmps).setIfInBounds slot (.pointer (some ⟨Bb, 0, none⟩)), defers := [] } W)
  (hdone : ∀ (D : Nat) (xs : List α) (W : World), w.heap.size <= D -> S xs -> I xs W -> W.heap[D]? = some (.deferred (some [])) -> Q .normal { a with defers := { target := .collected D, args := #[] } :: a.defers } W)
  (hstop : ∀ (D : Nat) (c : Code) (pre : List α) (W : World), w.heap.size <= D -> Sp pre -> Ix c pre W -> W.heap[D]? = some (.deferred (some [])) -> c.wpIn F n P Q { a with defers := { target := .collected D, args := #[] } :: a.defers } W) :
  (Code.rangeFunc g ps assign body).wpIn F n P Q a w :=
 wpIn_rangeFunc_ownH hro h1 hg hFg eg hseq KeepT.trans (fun W l o o' hl _ _ _ => KeepT.put W o' (fun h => by have := hT _ h; omega)) (Below.refl _ _) hps I Ix hI hIx h0
  (fun x a' W => ∃ Bb, w.heap.size <= Bb /\ Bx W Bb (cs x) ty /\ a' = { tmps := ((ps.zip (encs x)).foldl (fun t (p, v) => t.setIfInBounds p v) a.tmps).setIfInBounds slot (.pointer (some ⟨Bb, 0, none⟩)), defers := [] })
  (fun x a' s A B row hs hg hr => by obtain ⟨Bb, e1, e2, e3⟩ := hs; exact ⟨Bb, e1, zaD e2 hg (fun r e => (hr r e).2), e3⟩)
  (fun l pre x W K hi hK => hassign l pre x W K hi (hK _ _ ((KeepsOthers.alloc _ _).from _) (KeepT.allocB W _) (hI.alloc _ hi) ⟨W.heap.size, hIz _ _ hi, Bx.new W _ _, rfl⟩))
  (fun l pre x a' W _ _ hi hA hlt => by obtain ⟨Bb, e1, e2, rfl⟩ := hA; exact hbody l pre x Bb W e1 hi e2 hlt)
  hdone hstop
end Go.Proofs.YtlefmmhlpgmbjaaGreat
