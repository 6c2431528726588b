/- law42.Changes$1: one change is gathered. The shelf: slices.SortFunc of pairs and of changes, laid (printed by mk_sort0.py). slices.SortFunc of pairs and of changes by their keys: the ascending list of the same elements. law42.Changes: the changes of an act. law 42's example, plain: a tree of four keys, one of them removed again. No function of the program is named here. -/
import Derived.Test.YtlefmmhlpgmbjaaGreatQ23
import Derived.Test.YtlefmmhlpgmbjaaGreatQ24
import Derived.Shelf.SlSortCmp.NoneTotal
import Derived.Test.YtlefmmhlpgmbjaaGreatProg
import Derived.Test.YtlefmmhlpgmbjaaGreatQ10
import Derived.Test.YtlefmmhlpgmbjaaGreatQ01
namespace Go.Proofs.YtlefmmhlpgmbjaaGreat
set_option maxRecDepth 100000
open Go.RowKit
theorem infoChg : (Tryz.prog.info? 71).map (fun i => (i.zero, i.size, i.bytes)) = some (some (.agg #[.string .empty, .bool false, .bool false, .string .empty, .string .empty]), 5, 56) := by kernel_rfl
theorem chgsC_app (l m : List Chg) : chgsC (l ++ m) = chgsC l ++ chgsC m := by simp [chgsC]
theorem ChgsR.at {w : World} {base : Nat} {v : Value} {l : List Chg} (h : w.ownsRow base 71 5 v l.length (chgsC l)) : ∃ o c, v = .slice o l.length c /\ SlW o l.length c /\ ChgsAt w o l := by
 obtain ⟨o, c, e, hs, hr, -⟩ := ownsRow_at h
 exact ⟨o, c, e, hs, hr.mono fun _ hb => hb.2⟩
structure GatS (W : World) (B lb ob : Nat) (l : List Kv) (lo : Option Addr) (lc : Nat) (o : Option Addr) (c : Nat) (out : List Chg) : Prop where
 xl : Bx W lb #[.slice lo l.length lc] 41
 xo : Bx W ob #[.slice o out.length c] 52
 own : W.ownsRow B 71 5 (.slice o out.length c) out.length (chgsC out)
 pairs : RowAt (· < B) W lo (kvsC l)
 sl : SlW lo l.length lc
 hob : B <= ob
 hB : B <= W.heap.size
abbrev GatL (ob : Nat) (o : Option Addr) (n c : Nat) : List Nat := ob :: (Value.slice o n c).ownBlock.toList
def GatR (W : World) (B lb ob : Nat) (l : List Kv) (lo : Option Addr) (lc : Nat) (o : Option Addr) (c : Nat) (out out' : List Chg) (e : Ending) (w' : World) : Prop :=
 e = .returned (.tuple #[]) /\ ∃ o' c', GatS w' B lb ob l lo lc o' c' out' /\ KeepB (GatL ob o out.length c) W w'
theorem keepB_grown {A A' : World} {row : Option Nat} (hg : A.grownBy A' row) : KeepB row.toList A A' :=
 ⟨hg.os, hg.tape, hg.output, hg.size, fun b hb hn => hg.block b hb fun e => hn (by rw [<- e]; simp)⟩
theorem RowAt.keepB {A A' : World} {B : Nat} {o : Option Addr} {l : List Value} {L : List Nat} (h : RowAt (· < B) A o l) (hk : KeepB L A A') (hL : ∀ y ∈ L, B <= y) (hB : B <= A.heap.size) : RowAt (· < B) A' o l := by
 intro i hi
 obtain ⟨b, off, e, hc, hs⟩ := h i hi
 refine ⟨b, off, e, ?_, hs⟩
 rw [cell_of_block (hk.2.2.2.2 b (znL hs hB) fun hm => by have := hL b hm; omega)]
 exact hc
set_option maxRecDepth 100000 in
set_option maxHeartbeats 4000000 in
theorem rn_changes1 (x : Chg) (W : World) (B lb ob : Nat) (l : List Kv) (lo : Option Addr) (lc : Nat) (o : Option Addr) (c : Nat) (out : List Chg) (h : GatS W B lb ob l lo lc o c out) (hol : out.length <= 1000) :
  Calls Tryz.prog 68 #[.agg (chgC x).toArray, .pointer (some ⟨lb, 0, none⟩), .pointer (some ⟨ob, 0, none⟩)] W (GatR W B lb ob l lo lc o c out (addG l out x)) := by
 obtain ⟨ip, hip, hz0, hz1, hz2⟩ := info_parts infoChg
 have Hi := zhI (zaI hip (zaI hz0 (zaI hz1 hz2)))
 clear hip hz0 hz1 hz2
 obtain ⟨R, hR⟩ : ∃ R, GatR W B lb ob l lo lc o c out (addG l out x) = R := ⟨_, rfl⟩
 rw [hR]
 have HR := zhI hR
 clear hR
 obtain ⟨k1, b1, c1, d1, e1⟩ := x
 show Calls Tryz.prog 68 #[.agg #[.string k1, .bool b1, .bool d1, .string c1, .string e1], .pointer (some ⟨lb, 0, none⟩), .pointer (some ⟨ob, 0, none⟩)] W _
 obtain ⟨M, hM⟩ : ∃ M, W.heap.size = M := ⟨_, rfl⟩
 obtain ⟨W0, hW0⟩ : ∃ W0, W.alloc (.cells #[.string k1, .bool b1, .bool d1, .string c1, .string e1] 71) = W0 := ⟨_, rfl⟩
 have xc : Bx W0 M #[.string k1, .bool b1, .bool d1, .string c1, .string e1] 71 := by subst hW0 hM; exact Bx.new W _ _
 have hb0 : Below W.heap.size W W0 := by subst hW0; exact Below.one W _
 have xl0 := h.xl.belowAll hb0
 have hval := rn_value l lo lc k1 W0 (KvsAt.below (show KvsAt W lo l from h.pairs.mono fun b hb => znL hb h.hB) hb0) h.sl
 obtain ⟨⟨vs, vb⟩, hv⟩ : ∃ r, valK l k1 = r := ⟨_, rfl⟩
 rw [hv] at hval
 have Hval := zhI hval
 have Hv := zhI hv
 have H := zhI h
 have HM := zhI hM
 have Hb0 := zhI hb0
 have cL := xl0.cell
 have lL := xl0.lt
 have cC := xc.cell
 have lC := xc.lt
 clear hval hv h hb0
 go_enter Tryz.func68, Tryz.ntmps68
 go_wp2_with fail
 refine Hval.out.mono ?_
 rintro e w1 ⟨rfl, hb1⟩
 have xc1 := xc.belowAll hb1
 clear cL lL cC lC xl0 xc hW0 Hval
 have hB1 := btr Hb0.out hb1
 obtain ⟨w2, hw2⟩ : ∃ w2, (w1.setCell ⟨M, 3, none⟩ (.string vs)).setCell ⟨M, 1, none⟩ (.bool vb) = w2 := ⟨_, rfl⟩
 have xc2 : Bx w2 M #[.string k1, .bool vb, .bool d1, .string vs, .string e1] 71 := by
  subst hw2
  have := (xc1.set 3 (.string vs)).set 1 (.bool vb)
  simpa using this
 have hb2 : Below W.heap.size W w2 := by subst hw2; exact below_set1 (b := M) (below_set1 (b := M) hB1 (by omega)) (by omega)
 have xo2 := H.out.xo.belowAll hb2
 have hown2 := ownsRow_belowAll H.out.own hb2
 have cC := xc1.cell
 have lC := xc1.lt
 have fC := xc1.free
 have cO := xo2.cell
 have lO := xo2.lt
 have hal := H.out
 obtain ⟨n, hn⟩ : ∃ n, out.length = n := ⟨_, rfl⟩
 rw [hn] at cO hol xo2 hown2
 have Hn := zhI hn
 have Hw2 := zhI hw2
 have Hb2 := zhI hb2
 have Hxo := zhI xo2
 have Hxc := zhI xc2
 have Hown := zhI hown2
 clear hn hb2 hal xo2 xc2 hown2 hB1 hb1 xc1
 go_wp2
 clear cO lO
 have HAt : Hid (ChgsAt w2 o out) := zhI (by
  have := Hown.out
  rw [<- Hn.out] at this
  obtain ⟨o', c', e, -, q⟩ := ChgsR.at this
  obtain ⟨rfl, rfl⟩ : o = o' /\ c = c' := by simpa using e
  exact q)
 go_loopw [17] (fun i wr => ∃ (k : Nat), k <= n /\ i = .int .i64 k /\ Hid ((out.take k).any (fun x => decide (x.key = k1)) = false) /\ Below w2.heap.size w2 wr) (fun i _ => n - (intOf i).toNat)
 case atStart => exact ⟨0, Nat.zero_le _, rfl, zhI rfl, Below.refl _ _⟩
 case round =>
  obtain ⟨k, hk, rfl, hq, hB⟩ := hrel
  have cC := (Hxc.out.belowAll hB).cell
  have lC := (Hxc.out.belowAll hB).lt
  by_cases hlt : k < n
  .
   have hlt2 : k < out.length := by rw [Hn.out]; exact hlt
   obtain ⟨b, off, rfl, hgb, q0, q1, q2, q3, q4⟩ := HAt.out.cell hlt2
   have c0 := (hB.cell hgb).trans q0
   have c1' := (hB.cell hgb).trans q1
   have c2 := (hB.cell hgb).trans q2
   have c3 := (hB.cell hgb).trans q3
   have c4 := (hB.cell hgb).trans q4
   clear q0 q1 q2 q3 q4
   have hst : (out.take (k + 1)).any (fun x => decide (x.key = k1)) = decide (out[k].key = k1) := by
    rw [List.take_succ_eq_append_getElem hlt2, List.any_append, hq.out]; simp
   have hmem : out[k] ∈ out := List.getElem_mem hlt2
   obtain ⟨y, hy⟩ : ∃ y, out[k] = y := ⟨_, rfl⟩
   rw [hy] at c0 c1' c2 c3 c4 hst hmem
   have Hst := zhI hst
   have Hmem := zhI hmem
   have hbo := Below.one wr (.cells #[.string y.key, .bool y.hasOld, .bool y.hasNew, .string y.old, .string y.new] 71)
   have hBB := btr hB hbo
   have lB : b < wr.heap.size := znL hgb hB.size
   have HBB := zhI hBB
   clear hst hmem hy hlt2 hq hbo hBB
   cases g : (y.key.toList == k1.toList)
   .
    have hne : y.key ≠ k1 := fun e => by rw [e] at g; simp at g
    have Q : Hid ((out.take (k + 1)).any (fun x => decide (x.key = k1)) = false) := zhI (by rw [Hst.out, decide_eq_false hne])
    clear Hst hne
    go_wp2
    go_roundw
    case rel => exact ⟨k + 1, by omega, by go_num, Q, HBB.out⟩
    case measure => simp [intOf]; omega
   .
    have he : y.key = k1 := toList_inj' (by simpa using g)
    have hA : addG l out ⟨k1, b1, c1, d1, e1⟩ = out := by
     unfold addG
     rw [if_pos (List.any_eq_true.2 ⟨y, Hmem.out, by simpa using he⟩)]
    have HA := zhI hA
    clear he hA
    go_wp2
    refine bodyPost_ret (v := .tuple #[]) (by simp [results, Tryz.results68, go_sem]) rfl ?_
    have hA := HA.out
    have hE := HBB.out
    have hbE := btr Hb2.out hE
    rw [<- HR.out]
    rw [hA]
    exact ⟨rfl, _, _, ⟨H.out.xl.belowAll hbE, H.out.xo.belowAll hbE, ownsRow_belowAll H.out.own hbE, H.out.pairs.below hbE, H.out.sl, H.out.hob, znT H.out.hB hbE.size⟩, (KeepB.refl _ W).of_below hbE⟩
  .
   have hany : out.any (fun x => decide (x.key = k1)) = false := by rw [<- hq.out, List.take_of_length_le (by rw [Hn.out]; omega)]
   have Hany := zhI hany
   have HBB := zhI hB
   clear hany hq hB
   cases gb : vb with
   | false =>
    cases gd : d1 with
    | false =>
     subst gb gd
     have HA : Hid (addG l out ⟨k1, b1, c1, false, e1⟩ = out) := zhI (by
      unfold addG
      rw [if_neg (by simpa using Hany.out), if_neg]
      simp only [Hv.out]; decide)
     go_wp2
     refine bodyPost_end (v := .tuple #[]) (by simp [results, Tryz.results68, go_sem]) rfl ?_
     have hA := HA.out
     have hE := HBB.out
     have hbE := btr Hb2.out hE
     rw [<- HR.out]
     rw [hA]
     exact ⟨rfl, _, _, ⟨H.out.xl.belowAll hbE, H.out.xo.belowAll hbE, ownsRow_belowAll H.out.own hbE, H.out.pairs.below hbE, H.out.sl, H.out.hob, znT H.out.hB hbE.size⟩, (KeepB.refl _ W).of_below hbE⟩
    | true =>
     subst gb gd
     have HA : Hid (addG l out ⟨k1, b1, c1, true, e1⟩ = out ++ [⟨k1, false, vs, true, e1⟩]) := zhI (by
      unfold addG
      rw [if_neg (by simpa using Hany.out), if_pos (by simp only [Hv.out]; simp)]
      simp only [Hv.out])
     have xo3 := Hxo.out.belowAll HBB.out
     have hown3 := ownsRow_belowAll Hown.out HBB.out
     have hown4 := hown3.alloc (.cells #[.string k1, .bool false, .bool true, .string vs, .string e1] 71)
     have xo4 := xo3.alloc (.cells #[.string k1, .bool false, .bool true, .string vs, .string e1] 71)
     have hbA := HBB.out.alloc HBB.out.size (.cells #[.string k1, .bool false, .bool true, .string vs, .string e1] 71)
     have H1c : Hid (∀ u ∈ [Value.string k1, .bool false, .bool true, .string vs, .string e1], u.oneCell' = true) := zhI (by intro u hu; simp at hu; rcases hu with rfl | rfl | rfl | rfl | rfl <;> rfl)
     have HRW : Hid (RowAt (· = wr.heap.size) (wr.alloc (.cells #[.string k1, .bool false, .bool true, .string vs, .string e1] 71)) (some ⟨wr.heap.size, 0, none⟩) [.string k1, .bool false, .bool true, .string vs, .string e1]) := zhI (RowAt.bx (Bx.new wr #[.string k1, .bool false, .bool true, .string vs, .string e1] 71))
     have hzB : B <= wr.heap.size := by have := H.out.hB; have := Hb2.out.size; have := HBB.out.size; omega
     have HbA := zhI (btr Hb2.out hbA)
     have Hx4 := zhI xo4
     have Hw4 := zhI hown4
     have cO := xo3.cell
     have lO := xo3.lt
     clear hbA xo3 hown3 xo4
     go_wp2_with (at_builtin; refine wpList_app rfl _ _ 52 rfl B 71 ip _ 5 56 Tryz.underlying52 Hi.out.1 Hi.out.2.1 Hi.out.2.2.1 Hi.out.2.2.2 rfl (by decide) (.slice o n c) n (chgsC out) rfl hown4 (some ⟨wr.heap.size, 0, none⟩) 1 1 [.string k1, .bool false, .bool true, .string vs, .string e1] rfl (by intro e; cases e) rfl HRW.out H1c.out (by unfold maxLen; omega) (by omega) (by simp; omega) ?_; intro v3 w3 hown3 hg3; obtain ⟨o3, c3, rfl⟩ := own_slice hown3; have x3 := Hx4.out.grown hg3 (fun e => ownsRow_ne_bx Hw4.out Hx4.out (by decide) e.symm); have cO3 := x3.cell; have fO3 := x3.free; have lO3 := x3.lt)
     refine bodyPost_end (v := .tuple #[]) (by simp [results, Tryz.results68, go_sem]) rfl ?_
     have hA := HA.out
     rw [<- HR.out]
     rw [hA]
     have hK : KeepB (GatL ob o out.length c) W (w3.setCell ⟨ob, 0, none⟩ (.slice o3 (n + 1) c3)) := by
      have k1 : KeepB (GatL ob o out.length c) W (wr.alloc (.cells #[.string k1, .bool false, .bool true, .string vs, .string e1] 71)) := (KeepB.refl _ W).of_below HbA.out
      have k2 := keepB_grown hg3
      refine (k1.trans' k2 fun y hy => .inl ?_).set (by simp)
      rw [Hn.out]
      exact List.mem_cons_of_mem _ hy
     have hge : ∀ y ∈ GatL ob o out.length c, B <= y := by
      intro y hy
      rcases zmC.1 hy with rfl | hy
      .
       exact H.out.hob
      .
       exact (H.out.own.lt y (by simpa using hy)).1
     have hlb : lb ∉ GatL ob o out.length c := by
      intro hm
      rcases zmC.1 hm with e | hm
      .
       exact absurd e (bx_ne H.out.xl H.out.xo (by decide))
      .
       exact ownsRow_ne_bx H.out.own H.out.xl (by decide) (by simpa using hm)
     refine ⟨rfl, o3, c3, ⟨hK.bx H.out.xl hlb, ?_, ?_, H.out.pairs.keepB hK hge H.out.hB, H.out.sl, H.out.hob, znT H.out.hB hK.2.2.2.1⟩, hK⟩
     .
      rw [zlA, Hn.out]
      have := x3.set 0 (.slice o3 (n + 1) c3)
      simpa using this
     .
      rw [zlA, Hn.out, chgsC_app]
      exact ownsRow_set hown3 (a := ⟨ob, 0, none⟩) (ownsRow_ne_bx hown3 x3 (by decide)) _
   | true =>
    subst gb
    have HA : Hid (addG l out ⟨k1, b1, c1, d1, e1⟩ = out ++ [⟨k1, true, vs, d1, e1⟩]) := zhI (by
     unfold addG
     rw [if_neg (by simpa using Hany.out), if_pos (by simp only [Hv.out]; simp)]
     simp only [Hv.out])
    have xo3 := Hxo.out.belowAll HBB.out
    have hown3 := ownsRow_belowAll Hown.out HBB.out
    have hown4 := hown3.alloc (.cells #[.string k1, .bool true, .bool d1, .string vs, .string e1] 71)
    have xo4 := xo3.alloc (.cells #[.string k1, .bool true, .bool d1, .string vs, .string e1] 71)
    have hbA := HBB.out.alloc HBB.out.size (.cells #[.string k1, .bool true, .bool d1, .string vs, .string e1] 71)
    have H1c : Hid (∀ u ∈ [Value.string k1, .bool true, .bool d1, .string vs, .string e1], u.oneCell' = true) := zhI (by intro u hu; simp at hu; rcases hu with rfl | rfl | rfl | rfl | rfl <;> rfl)
    have HRW : Hid (RowAt (· = wr.heap.size) (wr.alloc (.cells #[.string k1, .bool true, .bool d1, .string vs, .string e1] 71)) (some ⟨wr.heap.size, 0, none⟩) [.string k1, .bool true, .bool d1, .string vs, .string e1]) := zhI (RowAt.bx (Bx.new wr #[.string k1, .bool true, .bool d1, .string vs, .string e1] 71))
    have hzB : B <= wr.heap.size := by have := H.out.hB; have := Hb2.out.size; have := HBB.out.size; omega
    have HbA := zhI (btr Hb2.out hbA)
    have Hx4 := zhI xo4
    have Hw4 := zhI hown4
    have cO := xo3.cell
    have lO := xo3.lt
    clear hbA xo3 hown3 xo4
    go_wp2_with (at_builtin; refine wpList_app rfl _ _ 52 rfl B 71 ip _ 5 56 Tryz.underlying52 Hi.out.1 Hi.out.2.1 Hi.out.2.2.1 Hi.out.2.2.2 rfl (by decide) (.slice o n c) n (chgsC out) rfl hown4 (some ⟨wr.heap.size, 0, none⟩) 1 1 [.string k1, .bool true, .bool d1, .string vs, .string e1] rfl (by intro e; cases e) rfl HRW.out H1c.out (by unfold maxLen; omega) (by omega) (by simp; omega) ?_; intro v3 w3 hown3 hg3; obtain ⟨o3, c3, rfl⟩ := own_slice hown3; have x3 := Hx4.out.grown hg3 (fun e => ownsRow_ne_bx Hw4.out Hx4.out (by decide) e.symm); have cO3 := x3.cell; have fO3 := x3.free; have lO3 := x3.lt)
    refine bodyPost_end (v := .tuple #[]) (by simp [results, Tryz.results68, go_sem]) rfl ?_
    have hA := HA.out
    rw [<- HR.out]
    rw [hA]
    have hK : KeepB (GatL ob o out.length c) W (w3.setCell ⟨ob, 0, none⟩ (.slice o3 (n + 1) c3)) := by
     have k1 : KeepB (GatL ob o out.length c) W (wr.alloc (.cells #[.string k1, .bool true, .bool d1, .string vs, .string e1] 71)) := (KeepB.refl _ W).of_below HbA.out
     have k2 := keepB_grown hg3
     refine (k1.trans' k2 fun y hy => .inl ?_).set (by simp)
     rw [Hn.out]
     exact List.mem_cons_of_mem _ hy
    have hge : ∀ y ∈ GatL ob o out.length c, B <= y := by
     intro y hy
     rcases zmC.1 hy with rfl | hy
     .
      exact H.out.hob
     .
      exact (H.out.own.lt y (by simpa using hy)).1
    have hlb : lb ∉ GatL ob o out.length c := by
     intro hm
     rcases zmC.1 hm with e | hm
     .
      exact absurd e (bx_ne H.out.xl H.out.xo (by decide))
     .
      exact ownsRow_ne_bx H.out.own H.out.xl (by decide) (by simpa using hm)
    refine ⟨rfl, o3, c3, ⟨hK.bx H.out.xl hlb, ?_, ?_, H.out.pairs.keepB hK hge H.out.hB, H.out.sl, H.out.hob, znT H.out.hB hK.2.2.2.1⟩, hK⟩
    .
     rw [zlA, Hn.out]
     have := x3.set 0 (.slice o3 (n + 1) c3)
     simpa using this
    .
     rw [zlA, Hn.out, chgsC_app]
     exact ownsRow_set hown3 (a := ⟨ob, 0, none⟩) (ownsRow_ne_bx hown3 x3 (by decide)) _
end Go.Proofs.YtlefmmhlpgmbjaaGreat
namespace Go.Proofs
open Go.Shelf
def Tryz.l_sortP_ren : Go.Shelf.Ren := ⟨fun | 6 => 80 | 15 => 117 | 14 => 123 | 28 => 157 | 29 => 158 | 20 => 168 | 21 => 169 | 22 => 170 | 23 => 171 | 24 => 172 | 25 => 173 | 26 => 174 | 27 => 175 | 46 => 197 | 47 => 184 | 48 => 185 | 49 => 198 | 50 => 199 | 57 => 208 | n => n, fun | 22 => 41 | 24 => 77 | 25 => 133 | 3 => 3 | 39 => 158 | 0 => 0 | 53 => 203 | 55 => 206 | 4 => 4 | 46 => 215 | 45 => 214 | 50 => 154 | 5 => 5 | 9 => 9 | 66 => 243 | 70 => 247 | 76 => 260 | 77 => 91 | n => n, fun | n => n⟩
theorem Tryz.l_sortP : Go.Proofs.SlLaysF0.n6 Tryz.prog Tryz.l_sortP_ren := {
 mixed := by kernel_rfl
 f6 := ⟨Tryz.f80.name, by decide, Tryz.func80.trans (congrArg some (by kernel_rfl))⟩
 f14 := ⟨Tryz.f123.name, by decide, Tryz.func123.trans (congrArg some (by kernel_rfl))⟩
 f15 := Tryz.func117.trans (congrArg some (by kernel_rfl))
 f20 := ⟨Tryz.f168.name, by decide, Tryz.func168.trans (congrArg some (by kernel_rfl))⟩
 f21 := ⟨Tryz.f169.name, by decide, Tryz.func169.trans (congrArg some (by kernel_rfl))⟩
 f22 := ⟨Tryz.f170.name, by decide, Tryz.func170.trans (congrArg some (by kernel_rfl))⟩
 f23 := ⟨Tryz.f171.name, by decide, Tryz.func171.trans (congrArg some (by kernel_rfl))⟩
 f24 := ⟨Tryz.f172.name, by decide, Tryz.func172.trans (congrArg some (by kernel_rfl))⟩
 f25 := ⟨Tryz.f173.name, by decide, Tryz.func173.trans (congrArg some (by kernel_rfl))⟩
 f26 := ⟨Tryz.f174.name, by decide, Tryz.func174.trans (congrArg some (by kernel_rfl))⟩
 f27 := ⟨Tryz.f175.name, by decide, Tryz.func175.trans (congrArg some (by kernel_rfl))⟩
 f28 := Tryz.func157.trans (congrArg some (by kernel_rfl))
 f29 := Tryz.func158.trans (congrArg some (by kernel_rfl))
 f46 := ⟨Tryz.f197.name, by decide, Tryz.func197.trans (congrArg some (by kernel_rfl))⟩
 f47 := Tryz.func184.trans (congrArg some (by kernel_rfl))
 f48 := Tryz.func185.trans (congrArg some (by kernel_rfl))
 f49 := ⟨Tryz.f198.name, by decide, Tryz.func198.trans (congrArg some (by kernel_rfl))⟩
 f50 := ⟨Tryz.f199.name, by decide, Tryz.func199.trans (congrArg some (by kernel_rfl))⟩
 f57 := ⟨Tryz.f208.name, by decide, Tryz.func208.trans (congrArg some (by kernel_rfl))⟩
 t0 := Tryz.underlying0
 a0 := Tryz.isAgg0
 z0 := Tryz.sizeOf0
 v0 := Tryz.zeroValue0
 t3 := Tryz.underlying3
 a3 := Tryz.isAgg3
 z3 := Tryz.sizeOf3
 v3 := Tryz.zeroValue3
 t4 := Tryz.underlying4
 a4 := Tryz.isAgg4
 z4 := Tryz.sizeOf4
 v4 := Tryz.zeroValue4
 t5 := Tryz.underlying5
 a5 := Tryz.isAgg5
 z5 := Tryz.sizeOf5
 v5 := Tryz.zeroValue5
 t9 := Tryz.underlying9
 a9 := Tryz.isAgg9
 z9 := Tryz.sizeOf9
 v9 := Tryz.zeroValue9
 t22 := Tryz.underlying41
 a22 := Tryz.isAgg41
 z22 := Tryz.sizeOf41
 v22 := Tryz.zeroValue41
 t25 := Tryz.underlying133
 a25 := Tryz.isAgg133
 z25 := Tryz.sizeOf133
 v25 := Tryz.zeroValue133
 t39 := Tryz.underlying158
 a39 := Tryz.isAgg158
 z39 := Tryz.sizeOf158
 v39 := Tryz.zeroValue158
 t45 := Tryz.underlying214
 a45 := Tryz.isAgg214
 z45 := Tryz.sizeOf214
 v45 := Tryz.zeroValue214
 t46 := Tryz.underlying215
 a46 := Tryz.isAgg215
 z46 := Tryz.sizeOf215
 v46 := Tryz.zeroValue215
 t50 := Tryz.underlying154
 a50 := Tryz.isAgg154
 z50 := Tryz.sizeOf154
 v50 := Tryz.zeroValue154
 t53 := Tryz.underlying203
 a53 := Tryz.isAgg203
 z53 := Tryz.sizeOf203
 v53 := Tryz.zeroValue203
 t55 := Tryz.underlying206
 a55 := Tryz.isAgg206
 z55 := Tryz.sizeOf206
 v55 := Tryz.zeroValue206
 t66 := Tryz.underlying243
 a66 := Tryz.isAgg243
 z66 := Tryz.sizeOf243
 v66 := Tryz.zeroValue243
 t70 := Tryz.underlying247
 a70 := Tryz.isAgg247
 z70 := Tryz.sizeOf247
 v70 := Tryz.zeroValue247
 t76 := Tryz.underlying260
 a76 := Tryz.isAgg260
 z76 := Tryz.sizeOf260
 v76 := Tryz.zeroValue260
 t77 := Tryz.underlying91
 a77 := Tryz.isAgg91
 z77 := Tryz.sizeOf91
 v77 := Tryz.zeroValue91 }
def Tryz.l_sortC_ren : Go.Shelf.Ren := ⟨fun | 6 => 69 | 15 => 117 | 14 => 116 | 28 => 157 | 29 => 158 | 20 => 149 | 21 => 150 | 22 => 151 | 23 => 152 | 24 => 153 | 25 => 154 | 26 => 155 | 27 => 156 | 46 => 183 | 47 => 184 | 48 => 185 | 49 => 186 | 50 => 187 | 57 => 203 | n => n, fun | 22 => 52 | 24 => 71 | 25 => 115 | 3 => 3 | 39 => 158 | 0 => 0 | 53 => 203 | 55 => 206 | 4 => 4 | 46 => 215 | 45 => 214 | 50 => 154 | 5 => 5 | 9 => 9 | 66 => 243 | 70 => 247 | 76 => 260 | 77 => 91 | n => n, fun | n => n⟩
theorem Tryz.l_sortC : Go.Proofs.SlLaysF0.n6 Tryz.prog Tryz.l_sortC_ren := {
 mixed := by kernel_rfl
 f6 := ⟨Tryz.f69.name, by decide, Tryz.func69.trans (congrArg some (by kernel_rfl))⟩
 f14 := ⟨Tryz.f116.name, by decide, Tryz.func116.trans (congrArg some (by kernel_rfl))⟩
 f15 := Tryz.func117.trans (congrArg some (by kernel_rfl))
 f20 := ⟨Tryz.f149.name, by decide, Tryz.func149.trans (congrArg some (by kernel_rfl))⟩
 f21 := ⟨Tryz.f150.name, by decide, Tryz.func150.trans (congrArg some (by kernel_rfl))⟩
 f22 := ⟨Tryz.f151.name, by decide, Tryz.func151.trans (congrArg some (by kernel_rfl))⟩
 f23 := ⟨Tryz.f152.name, by decide, Tryz.func152.trans (congrArg some (by kernel_rfl))⟩
 f24 := ⟨Tryz.f153.name, by decide, Tryz.func153.trans (congrArg some (by kernel_rfl))⟩
 f25 := ⟨Tryz.f154.name, by decide, Tryz.func154.trans (congrArg some (by kernel_rfl))⟩
 f26 := ⟨Tryz.f155.name, by decide, Tryz.func155.trans (congrArg some (by kernel_rfl))⟩
 f27 := ⟨Tryz.f156.name, by decide, Tryz.func156.trans (congrArg some (by kernel_rfl))⟩
 f28 := Tryz.func157.trans (congrArg some (by kernel_rfl))
 f29 := Tryz.func158.trans (congrArg some (by kernel_rfl))
 f46 := ⟨Tryz.f183.name, by decide, Tryz.func183.trans (congrArg some (by kernel_rfl))⟩
 f47 := Tryz.func184.trans (congrArg some (by kernel_rfl))
 f48 := Tryz.func185.trans (congrArg some (by kernel_rfl))
 f49 := ⟨Tryz.f186.name, by decide, Tryz.func186.trans (congrArg some (by kernel_rfl))⟩
 f50 := ⟨Tryz.f187.name, by decide, Tryz.func187.trans (congrArg some (by kernel_rfl))⟩
 f57 := ⟨Tryz.f203.name, by decide, Tryz.func203.trans (congrArg some (by kernel_rfl))⟩
 t0 := Tryz.underlying0
 a0 := Tryz.isAgg0
 z0 := Tryz.sizeOf0
 v0 := Tryz.zeroValue0
 t3 := Tryz.underlying3
 a3 := Tryz.isAgg3
 z3 := Tryz.sizeOf3
 v3 := Tryz.zeroValue3
 t4 := Tryz.underlying4
 a4 := Tryz.isAgg4
 z4 := Tryz.sizeOf4
 v4 := Tryz.zeroValue4
 t5 := Tryz.underlying5
 a5 := Tryz.isAgg5
 z5 := Tryz.sizeOf5
 v5 := Tryz.zeroValue5
 t9 := Tryz.underlying9
 a9 := Tryz.isAgg9
 z9 := Tryz.sizeOf9
 v9 := Tryz.zeroValue9
 t22 := Tryz.underlying52
 a22 := Tryz.isAgg52
 z22 := Tryz.sizeOf52
 v22 := Tryz.zeroValue52
 t25 := Tryz.underlying115
 a25 := Tryz.isAgg115
 z25 := Tryz.sizeOf115
 v25 := Tryz.zeroValue115
 t39 := Tryz.underlying158
 a39 := Tryz.isAgg158
 z39 := Tryz.sizeOf158
 v39 := Tryz.zeroValue158
 t45 := Tryz.underlying214
 a45 := Tryz.isAgg214
 z45 := Tryz.sizeOf214
 v45 := Tryz.zeroValue214
 t46 := Tryz.underlying215
 a46 := Tryz.isAgg215
 z46 := Tryz.sizeOf215
 v46 := Tryz.zeroValue215
 t50 := Tryz.underlying154
 a50 := Tryz.isAgg154
 z50 := Tryz.sizeOf154
 v50 := Tryz.zeroValue154
 t53 := Tryz.underlying203
 a53 := Tryz.isAgg203
 z53 := Tryz.sizeOf203
 v53 := Tryz.zeroValue203
 t55 := Tryz.underlying206
 a55 := Tryz.isAgg206
 z55 := Tryz.sizeOf206
 v55 := Tryz.zeroValue206
 t66 := Tryz.underlying243
 a66 := Tryz.isAgg243
 z66 := Tryz.sizeOf243
 v66 := Tryz.zeroValue243
 t70 := Tryz.underlying247
 a70 := Tryz.isAgg247
 z70 := Tryz.sizeOf247
 v70 := Tryz.zeroValue247
 t76 := Tryz.underlying260
 a76 := Tryz.isAgg260
 z76 := Tryz.sizeOf260
 v76 := Tryz.zeroValue260
 t77 := Tryz.underlying91
 a77 := Tryz.isAgg91
 z77 := Tryz.sizeOf91
 v77 := Tryz.zeroValue91 }
end Go.Proofs
namespace Go.Proofs.YtlefmmhlpgmbjaaGreat
set_option maxRecDepth 100000
open Go.RowKit Go.Shelf Go.Sort Go.Lib
theorem flatK_flat {α : Type} [Inhabited α] {enc : α -> List Value} {k : Nat} (hk : ∀ x, (enc x).length = k) (l : List α) : (flatK enc k l.toArray).toList = (l.map enc).flatten := by
 have hl : ∀ x ∈ l.map enc, x.length = k := by
  intro x hx
  obtain ⟨y, _, rfl⟩ := List.mem_map.1 hx
  exact hk y
 have hn : (l.map enc).flatten.length = l.length * k := by rw [flat_len hl]; simp
 apply List.ext_getElem?
 intro j
 by_cases hj : j < l.length * k
 .
  have hk0 : 0 < k := by
   rcases Nat.eq_zero_or_pos k with h | h
   .
    rw [h] at hj; simp at hj
   .
    exact h
  have hj' : j < l.toArray.size * k := by simpa using hj
  rw [Array.getElem?_toList, Array.getElem?_eq_getElem (by rw [size_flatK]; exact hj'), <- getElem!_pos (flatK enc k l.toArray) j (by rw [size_flatK]; exact hj'), get_flatK _ _ _ _ hj']
  have hq : j / k < l.length := (Nat.div_lt_iff_lt_mul hk0).2 hj
  have hr : j % k < k := Nat.mod_lt _ hk0
  have hg := flat_get hl (j / k) (j % k) hr
  have hjj : j / k * k + j % k = j := by rw [Nat.mul_comm]; exact Nat.div_add_mod j k
  rw [hjj] at hg
  rw [hg, List.getElem?_map, List.getElem?_eq_getElem hq]
  simp only [Option.map_some, Option.bind_some]
  have e1 : (l.toArray[j / k]! : α) = l[j / k] := by rw [getElem!_pos _ _ (by simpa using hq)]; simp
  rw [e1, List.getElem?_eq_getElem (by rw [hk]; exact hr), getElem!_pos _ _ (by rw [hk]; exact hr)]
 .
  rw [List.getElem?_eq_none (by simp; omega), List.getElem?_eq_none (by omega)]
theorem skw_block {α : Type} [Inhabited α] {enc : α -> List Value} {k : Nat} (d : Array α) (w : World) (blk off n : Nat) (os : Array Obj) (j : Nat) (hj : j < w.heap.size) (hb : j ≠ blk) : (sortWorldK enc k w blk off n d os).heap[j]? = w.heap[j]? := by
 unfold sortWorldK
 rw [heap_grow_old _ _ (by rw [size_putRowK]; exact hj)]
 unfold putRowK putRow mapBlock
 simp only [Array.getElem?_modify]
 rw [if_neg (fun h => hb h.symm)]
 rfl
theorem skw_row {α : Type} [Inhabited α] {enc : α -> List Value} {k : Nat} (d : Array α) (w : World) (blk n : Nat) (os : Array Obj) {cur : Array Value} {e : TypeId} (hx : w.heap[blk]? = some (.cells cur e (0, 0))) :
  ∃ cur', (sortWorldK enc k w blk 0 n d os).heap[blk]? = some (.cells cur' e (0, 0)) /\ cur'.size = cur.size /\ (d.size * k <= cur.size -> cur'.toList.take (d.size * k) = (flatK enc k d).toList) := by
 have hlt : blk < w.heap.size := (Array.getElem?_eq_some_iff.1 hx).1
 refine ⟨putCells id 0 (flatK enc k d) cur, ?_, by simp [putCells], fun hle => ?_⟩
 .
  unfold sortWorldK
  rw [heap_grow_old _ _ (by rw [size_putRowK]; exact hlt)]
  unfold putRowK putRow mapBlock
  simp only [Array.getElem?_modify]
  rw [if_pos trivial]
  show Option.map _ w.heap[blk]? = _
  rw [hx]
  rfl
 .
  apply List.ext_getElem?
  intro j
  rw [List.getElem?_take]
  by_cases hj : j < d.size * k
  .
   rw [if_pos hj]
   have hc : j < cur.size := by omega
   simp only [putCells, Array.getElem?_toList, Array.getElem?_mapIdx, size_flatK, Nat.zero_le, true_and, Nat.zero_add, Nat.sub_zero, id]
   rw [Array.getElem?_eq_getElem hc, Option.map_some, if_pos hj, getElem!_pos _ _ (by rw [size_flatK]; exact hj), Array.getElem?_eq_getElem (by rw [size_flatK]; exact hj)]
  .
   rw [if_neg hj, List.getElem?_eq_none (by simp; omega)]
theorem sort_row {ρ : Ren} (L : SlLaysF0.n6 Tryz.prog ρ) {α : Type} [Inhabited α] (k : Nat) (aE : ∀ w, (isAgg (ρ.t 24)).run Tryz.prog w = .ok true w) (zE : ∀ w, (Go.sizeOf (ρ.t 24)).run Tryz.prog w = .ok k w) (enc : α -> List Value) (hk : ∀ x, (enc x).length = k) (h1 : ∀ x, ∀ v ∈ enc x, v.oneCell' = true)
  (cf : α -> α -> Int) (hO : SWO (ltOf cf)) (g : Nat) (cb : Array Value) (eg : ∀ args w, (callFunc g args).run Tryz.prog w = .ok (.enter g args) w)
  (hcmp : ∀ (W : World) (x y : α), Calls Tryz.prog g (#[.agg (enc x).toArray, .agg (enc y).toArray] ++ cb) W fun e w' => e = .returned (.int .i64 (cf x y)) /\ ∃ q os', w' = grow (W.drewN q) os')
  {w : World} {base : Nat} {t : TypeId} {v : Value} {l : List α} (h : w.ownsRow base t k v l.length (l.map enc).flatten) (hbig : l.length < 4611686018427387904) :
  Calls Tryz.prog (ρ.f 6) #[v, .func (.func g) #[] cb] w fun e w' => e = .returned (.tuple #[]) /\ ∃ l' : List α, l'.Perm l /\ l'.Pairwise (fun x y => ltOf cf y x = false) /\ w'.ownsRow base t k v l.length (l'.map enc).flatten /\ w.grownBy w' v.ownBlock := by
 rcases h.2 with ⟨rfl, hl⟩ | ⟨b, cap, cur, rfl, hb, hg, hn, hc, hs, ht⟩
 .
  refine (AnyF.slices_SortFunc_none { L with } none 0 _ w).mono ?_ |> (by rw [hl]; exact ·)
  rintro e w' ⟨rfl, rfl⟩
  have : l = [] := List.eq_nil_of_length_eq_zero hl
  subst this
  exact ⟨rfl, [], List.Perm.refl _, List.Pairwise.nil, by simpa using h, ⟨rfl, rfl, rfl, Nat.le_refl _, fun _ _ _ => rfl⟩⟩
 .
  have hlt : b < w.heap.size := (Array.getElem?_eq_some_iff.1 hg).1
  have hlen : l.toArray.size = l.length := by simp
  have hH : HoldsK enc k w b 0 l.toArray := by
   intro j hj
   rw [size_flatK] at hj
   have hj' : j < l.length * k := by simpa using hj
   have hB : Bx w b cur t := hg
   rw [Nat.zero_add, hB.cell, hB.free]
   refine ⟨?_, rfl⟩
   have e1 : cur.toList[j]? = (l.map enc).flatten[j]? := by rw [<- ht, List.getElem?_take, if_pos hj']
   have e2 := flatK_flat hk l
   rw [<- Array.getElem?_toList, e1, <- e2, Array.getElem?_toList, id, Array.getElem?_eq_getElem (by rw [size_flatK]; exact hj), getElem!_pos _ _ (by rw [size_flatK]; exact hj)]
  have hS := AnyQ.slices_SortFunc L k aE zE enc hk h1 cf hO g cb b 0 cap l.toArray w eg (fun m os dk _ x y => hcmp _ x y) hH hlt (by rw [hlen]; exact hbig)
  rw [hlen] at hS
  refine Calls.mono hS ?_
  rintro e w' ⟨rfl, d', n, os, hp, hso, rfl⟩
  obtain ⟨p1, p2, p3⟩ := hp
  have hd : d'.size = l.length := by rw [p1, hlen]
  obtain ⟨cur', b1, b2, b3⟩ := skw_row (enc := enc) (k := k) d' w b n os hg
  have hfl := flatK_flat hk d'.toList
  rw [Array.toArray_toList] at hfl
  rw [hd, hfl] at b3
  have b4 := b3 (by rw [hs]; exact Nat.mul_le_mul_right _ hn)
  have hfd : (d'.toList.map enc).flatten.length = l.length * k := by
   rw [flat_len (m := k) (by intro x hx; obtain ⟨y, _, rfl⟩ := List.mem_map.1 hx; exact hk y)]
   simp [hd]
  refine ⟨rfl, d'.toList, ?_, ?_, ⟨hfd, .inr ⟨b, cap, cur', rfl, hb, b1, hn, hc, by rw [b2]; exact hs, b4⟩⟩, ⟨rfl, rfl, rfl, ?_, fun j hj hne => skw_block _ w b 0 n os j hj (fun e => hne (by rw [e]; rfl))⟩⟩
  .
   have e1 : d'.extract 0 l.length = d' := by rw [<- hd]; simp
   have e2 : l.toArray.extract 0 l.length = l.toArray := by rw [<- hlen]; simp
   rw [e1, e2] at p3
   simpa using p3
  .
   rw [List.pairwise_iff_getElem]
   intro i j hi hj hij
   have hi' : i < d'.size := by simpa using hi
   have hj' : j < d'.size := by simpa using hj
   have := hso i j (Nat.zero_le _) hij (by omega)
   rw [getElem!_pos d' i hi', getElem!_pos d' j hj'] at this
   simpa using this
  .
   unfold sortWorldK
   rw [size_grow, size_putRowK]
   exact Nat.le_add_right _ _
theorem cmpK_neg (a b : ByteArray) : decide (cmpK a b < 0) = kLt a b := by
 have e : ∀ s : ByteArray, s.toList = s.data.toList := fun s => ByteArray.toList_eq s
 unfold cmpK kLt
 rw [e, e]
 rcases cmp_spec a.data.toList b.data.toList with ⟨h1, h2⟩ | ⟨h1, h2⟩ | ⟨h1, h2⟩
 .
  rw [h1, h2]; rfl
 .
  rw [h1, h2, bl_irrefl]; rfl
 .
  rw [h1]
  cases h : Go.Op.bytesLess a.data.toList b.data.toList
  .
   rfl
  .
   have := bl_trans h h2
   rw [bl_irrefl] at this
   cases this
theorem swo_key {α : Type} (key : α -> ByteArray) : SWO (ltOf fun x y => cmpK (key x) (key y)) where
 irrefl x := by show decide _ = _; rw [cmpK_neg]; exact kLt_irrefl _
 trans x y z h1 h2 := by
  have h1 : decide (cmpK (key x) (key y) < 0) = true := h1
  have h2 : decide (cmpK (key y) (key z) < 0) = true := h2
  show decide _ = _
  rw [cmpK_neg] at *
  exact kLt_trans h1 h2
 ntrans x y z h1 h2 := by
  have h1 : decide (cmpK (key x) (key y) < 0) = false := h1
  have h2 : decide (cmpK (key y) (key z) < 0) = false := h2
  show decide _ = _
  rw [cmpK_neg] at *
  cases h : kLt (key x) (key z)
  .
   rfl
  .
   cases g : kLt (key y) (key x)
   .
    have := kLt_total h1 g
    rw [this] at h
    rw [h] at h2; cases h2
   .
    have := kLt_trans g h
    rw [this] at h2; cases h2
theorem asc_sorted {α : Type} {key : α -> ByteArray} {l : List α} (h : l.Pairwise fun x y => ltOf (fun x y => cmpK (key x) (key y)) y x = false) (hn : (l.map key).Nodup) : AscG key l := by
 have hn' : l.Pairwise fun x y => key x ≠ key y := by
  have := hn
  unfold List.Nodup at this
  rwa [List.pairwise_map] at this
 refine (h.and hn').imp fun {x y} ⟨h1, h2⟩ => ?_
 have h1 : decide (cmpK (key y) (key x) < 0) = false := h1
 rw [cmpK_neg] at h1
 cases g : kLt (key x) (key y)
 .
  exact absurd (kLt_total g h1) h2
 .
  rfl
theorem kvC_len2 (x : Kv) : (kvC x).length = 2 := rfl
theorem isAggPr (w : World) : (isAgg 77).run Tryz.prog w = .ok true w := Tryz.isAgg77 w
theorem sizeOfPr (w : World) : (Go.sizeOf 77).run Tryz.prog w = .ok 2 w := Tryz.sizeOf77 w
set_option maxHeartbeats 1000000 in
theorem rn_after2 (x y : Kv) (w : World) : Calls Tryz.prog 81 #[.agg (kvC x).toArray, .agg (kvC y).toArray] w fun e w' => e = .returned (.int .i64 (cmpK x.1 y.1)) /\ ∃ q os', w' = grow (w.drewN q) os' := by
 obtain ⟨k1, v1⟩ := x
 obtain ⟨k2, v2⟩ := y
 have hB : (w.alloc (.cells #[.string k1, .string v1] 77)).alloc (.cells #[.string k2, .string v2] 77) = grow (w.drewN 0) #[.cells #[.string k1, .string v1] 77, .cells #[.string k2, .string v2] 77] := by
  rw [alloc_eq_grow, alloc_eq_grow, grow_grow]; rfl
 show Calls Tryz.prog 81 #[.agg #[.string k1, .string v1], .agg #[.string k2, .string v2]] w _
 have hc := Tryz.strings_Compare k1 k2
 have HB := zhI hB
 clear hB
 go_enter Tryz.func81, Tryz.ntmps81
 go_wp2_with fail
 refine (hc _).mono ?_
 rintro e w1 ⟨rfl, rfl⟩
 go_wp2
 go_ret
 exact ⟨rfl, 0, _, HB.out⟩
set_option maxHeartbeats 1000000 in
theorem rn_changes2 (x y : Chg) (w : World) : Calls Tryz.prog 70 #[.agg (chgC x).toArray, .agg (chgC y).toArray] w fun e w' => e = .returned (.int .i64 (cmpK x.key y.key)) /\ ∃ q os', w' = grow (w.drewN q) os' := by
 obtain ⟨k1, b1, c1, d1, e1⟩ := x
 obtain ⟨k2, b2, c2, d2, e2⟩ := y
 have hB : (w.alloc (.cells #[.string k1, .bool b1, .bool d1, .string c1, .string e1] 71)).alloc (.cells #[.string k2, .bool b2, .bool d2, .string c2, .string e2] 71) = grow (w.drewN 0) #[.cells #[.string k1, .bool b1, .bool d1, .string c1, .string e1] 71, .cells #[.string k2, .bool b2, .bool d2, .string c2, .string e2] 71] := by
  rw [alloc_eq_grow, alloc_eq_grow, grow_grow]; rfl
 show Calls Tryz.prog 70 #[.agg #[.string k1, .bool b1, .bool d1, .string c1, .string e1], .agg #[.string k2, .bool b2, .bool d2, .string c2, .string e2]] w _
 have hc := Tryz.strings_Compare k1 k2
 have HB := zhI hB
 clear hB
 go_enter Tryz.func70, Tryz.ntmps70
 go_wp2_with fail
 refine (hc _).mono ?_
 rintro e w1 ⟨rfl, rfl⟩
 go_wp2
 go_ret
 exact ⟨rfl, 0, _, HB.out⟩
theorem chgC_one (x : Chg) : ∀ u ∈ chgC x, u.oneCell' = true := by
 intro u hu
 simp only [chgC, zmC, List.not_mem_nil, or_false] at hu
 rcases hu with rfl | rfl | rfl | rfl | rfl <;> rfl
theorem kvC_one (x : Kv) : ∀ u ∈ kvC x, u.oneCell' = true := by
 intro u hu
 simp only [kvC, zmC, List.not_mem_nil, or_false] at hu
 rcases hu with rfl | rfl <;> rfl
set_option maxRecDepth 100000 in
theorem sort_pairs {w : World} {base : Nat} {v : Value} {l m : List Kv} (h : w.ownsRow base 77 2 v l.length (kvsC l)) (hbig : l.length < 1000000) (hn : (l.map Prod.fst).Nodup) (hm : AscG Prod.fst m) (hlm : ∀ x, x ∈ l ↔ x ∈ m) :
  Calls Tryz.prog 80 #[v, .func (.func 81) #[] #[]] w fun e w' => e = .returned (.tuple #[]) /\ l.length = m.length /\ w'.ownsRow base 77 2 v m.length (kvsC m) /\ w.grownBy w' v.ownBlock := by
 have hS := sort_row Tryz.l_sortP 2 isAggPr sizeOfPr kvC kvC_len2 kvC_one (fun x y => cmpK x.1 y.1) (swo_key Prod.fst) 81 #[] (by intro args W; rfl) (fun W x y => rn_after2 x y W) (l := l) h (by omega)
 refine Calls.mono hS ?_
 rintro e w' ⟨rfl, l', hp, hs, ho, hg⟩
 have hnd : (l'.map Prod.fst).Nodup := (hp.map Prod.fst).nodup_iff.2 hn
 have : l' = m := asc_unique (asc_sorted hs hnd) hm fun x => (hp.mem_iff).trans (hlm x)
 subst this
 have hle := hp.length_eq
 exact ⟨rfl, hle.symm, by rw [<- hle] at ho; exact ho, hg⟩
set_option maxRecDepth 100000 in
theorem sort_chgs {w : World} {base : Nat} {v : Value} {l : List Chg} (h : w.ownsRow base 71 5 v l.length (chgsC l)) (hbig : l.length < 1000000) (hn : (l.map Chg.key).Nodup) :
  Calls Tryz.prog 69 #[v, .func (.func 70) #[] #[]] w fun e w' => e = .returned (.tuple #[]) /\ ∃ m, m.Perm l /\ AscG Chg.key m /\ w'.ownsRow base 71 5 v m.length (chgsC m) /\ w.grownBy w' v.ownBlock := by
 have hS := sort_row Tryz.l_sortC 5 isAggCh sizeOfCh chgC (fun _ => rfl) chgC_one (fun x y => cmpK x.key y.key) (swo_key Chg.key) 70 #[] (by intro args W; rfl) (fun W x y => rn_changes2 x y W) (l := l) h (by omega)
 refine Calls.mono hS ?_
 rintro e w' ⟨rfl, l', hp, hs, ho, hg⟩
 have hnd : (l'.map Chg.key).Nodup := (hp.map Chg.key).nodup_iff.2 hn
 have hle := hp.length_eq
 exact ⟨rfl, l', hp, asc_sorted hs hnd, by rw [<- hle] at ho; exact ho, hg⟩
end Go.Proofs.YtlefmmhlpgmbjaaGreat
namespace Go.Proofs.YtlefmmhlpgmbjaaGreat
set_option maxRecDepth 100000
open Go.RowKit
def putsG (l : List Kv) (out : List Chg) (ps : List Kv) : List Chg := ps.foldl (fun o p => addG l o (putC p)) out
def delsG (l : List Kv) (out : List Chg) (ds : List ByteArray) : List Chg := ds.foldl (fun o k => addG l o (delC k)) out
theorem putsG_take {l : List Kv} {out : List Chg} {ps : List Kv} {k : Nat} (h : k < ps.length) : putsG l out (ps.take (k + 1)) = addG l (putsG l out (ps.take k)) (putC ps[k]) := by
 unfold putsG; rw [List.take_succ_eq_append_getElem h, List.foldl_append]; rfl
theorem delsG_take {l : List Kv} {out : List Chg} {ds : List ByteArray} {k : Nat} (h : k < ds.length) : delsG l out (ds.take (k + 1)) = addG l (delsG l out (ds.take k)) (delC ds[k]) := by
 unfold delsG; rw [List.take_succ_eq_append_getElem h, List.foldl_append]; rfl
theorem addG_len (l : List Kv) (out : List Chg) (c : Chg) : (addG l out c).length <= out.length + 1 := by
 unfold addG
 split
 .
  omega
 .
  split
  .
   simp
  .
   omega
theorem putsG_len (l : List Kv) : ∀ (ps : List Kv) (out : List Chg), (putsG l out ps).length <= out.length + ps.length
 | [], out => by simp [putsG]
 | p :: ps, out => by
  have h1 := putsG_len l ps (addG l out (putC p))
  have h2 := addG_len l out (putC p)
  unfold putsG at h1 |-
  rw [List.foldl_cons, zlC]
  omega
theorem delsG_len (l : List Kv) : ∀ (ds : List ByteArray) (out : List Chg), (delsG l out ds).length <= out.length + ds.length
 | [], out => by simp [delsG]
 | p :: ds, out => by
  have h1 := delsG_len l ds (addG l out (delC p))
  have h2 := addG_len l out (delC p)
  unfold delsG at h1 |-
  rw [List.foldl_cons, zlC]
  omega
theorem rawC_G (a : ActB) (l : List Kv) : rawC a l = delsG l (putsG l [] a.puts) a.dels := rfl
theorem fitsA_len {a : ActB} (h : fitsA a = true) : a.chgs.length <= 12 /\ a.puts.length <= 12 /\ a.dels.length <= 12 /\ a.picks.length <= 40 := by
 unfold fitsA lensFine at h
 simp only [Bool.and_eq_true, decide_eq_true_eq] at h
 obtain ⟨_, _, h1, h2, h3, h4⟩ := h
 omega
section
variable {W W' : World} {B lb ob : Nat} {l : List Kv} {lo : Option Addr} {lc : Nat} {o : Option Addr} {c : Nat} {out : List Chg}
theorem GatS.below (h : GatS W B lb ob l lo lc o c out) (hb : Below W.heap.size W W') : GatS W' B lb ob l lo lc o c out :=
 ⟨h.xl.belowAll hb, h.xo.belowAll hb, ownsRow_belowAll h.own hb, h.pairs.keepB ((KeepB.refl [] W).of_below hb) (by simp) h.hB, h.sl, h.hob, znT h.hB hb.size⟩
theorem GatS.ge (h : GatS W B lb ob l lo lc o c out) : ∀ y ∈ GatL ob o out.length c, B <= y := by
 intro y hy
 rcases zmC.1 hy with rfl | hy
 .
  exact h.hob
 .
  exact (h.own.lt y (by simpa using hy)).1
theorem GatS.notin (h : GatS W B lb ob l lo lc o c out) {b : Nat} {cs : Array Value} {t : TypeId} (hx : Bx W b cs t) (h1 : t ≠ 52) (h2 : 71 ≠ t) : b ∉ GatL ob o out.length c := by
 intro hm
 rcases zmC.1 hm with e | hm
 .
  exact absurd e (bx_ne hx h.xo h1)
 .
  exact ownsRow_ne_bx h.own hx h2 (by simpa using hm)
end
set_option maxRecDepth 100000 in
set_option maxHeartbeats 4000000 in
theorem rn_Changes (a : ActB) (co po do_ qo : Option Addr) (cc pc dc qc : Nat) (l : List Kv) (lo : Option Addr) (lc : Nat) (w : World) (hA : ActBOk w a co po do_ qo cc pc dc qc) (hf : fitsA a = true) (hl : KvsAt w lo l) (hls : SlW lo l.length lc) :
  Calls Tryz.prog 35 #[.agg (actBC a co po do_ qo cc pc dc qc), .slice lo l.length lc] w fun e w' => ∃ o c, e = .returned (.slice o (chgsOf a l).length c) /\ SlW o (chgsOf a l).length c /\ ChgsAt w' o (chgsOf a l) /\ Below w.heap.size w w' := by
 obtain ⟨hf1, hf2, hf3, -⟩ := fitsA_len hf
 obtain ⟨N, hN⟩ : ∃ N, w.heap.size = N := ⟨_, rfl⟩
 obtain ⟨R, hR⟩ : ∃ R, chgsOf a l = R := ⟨_, rfl⟩
 rw [hR]
 obtain ⟨W0, hW0⟩ : ∃ W0, (w.alloc (.cells (actBC a co po do_ qo cc pc dc qc) 54)).alloc (.cells #[.slice lo l.length lc] 41) = W0 := ⟨_, rfl⟩
 have x0 : Bx W0 N (actBC a co po do_ qo cc pc dc qc) 54 := by subst hW0 hN; exact (Bx.new w _ _).alloc _
 have x1 : Bx W0 (N + 1) #[.slice lo l.length lc] 41 := by subst hW0 hN; exact Bx.newAt _ _ _ _ (by simp)
 have hB0 : Below w.heap.size w W0 := by subst hW0; exact (Below.one w _).alloc (by simp) _
 have hs0 : W0.heap.size = N + 2 := by subst hW0 hN; simp
 have c0 := x0.cell
 have l0 := x0.lt
 have HA := zhI hA
 have HR := zhI hR
 have HL := zhI (zaI hl hls)
 clear hR hA hl hls
 go_enter Tryz.func35, Tryz.ntmps35
 cases k1 : (a.kind != 1)
 rotate_left
 .
  have hk : a.kind ≠ 1 := by simpa using k1
  have hR : R = a.chgs := by rw [<- HR.out]; unfold chgsOf; rw [if_pos hk]
  clear HR
  go_wp2
  go_ret
  rw [hR]
  exact ⟨co, cc, rfl, HA.out.slc, HA.out.chgs.below hB0, hB0⟩
 .
  have hk : a.kind = 1 := by simpa using k1
  have HR2 : Hid (R = sortC (rawC a l)) := zhI (by rw [<- HR.out]; unfold chgsOf; rw [if_neg (by simpa using hk)])
  clear HR hk
  have xO : Bx (W0.alloc (.cells #[.slice none 0 0] 52)) (N + 2) #[.slice none 0 0] 52 := Bx.newAt _ _ _ _ hs0.symm
  have hbo := Below.one W0 (.cells #[.slice none 0 0] 52)
  have hB1 := btr hB0 hbo
  have y0 := x0.belowAll hbo
  have hG : GatS (W0.alloc (.cells #[.slice none 0 0] 52)) N (N + 1) (N + 2) l lo lc none 0 (putsG l [] (a.puts.take 0)) := by
   refine ⟨x1.belowAll hbo, xO, World.ownsRow_nil _ _ _ _, ?_, HL.out.2, by omega, by have := hB1.size; omega⟩
   rw [<- hN]
   exact RowAt.below HL.out.1 hB1
  clear xO hbo hB0 x0 x1
  go_wp2
  clear c0 l0
  generalize (W0.alloc (.cells #[.slice none 0 0] 52)) = W1 at *
  clear hW0 hs0
  go_loopw [20] (fun i wr => ∃ (k : Nat) (o : Option Addr) (c : Nat), k <= a.puts.length /\ i = .int .i64 k /\ GatS wr N (N + 1) (N + 2) l lo lc o c (putsG l [] (a.puts.take k)) /\ Below w.heap.size w wr /\ Bx wr N (actBC a co po do_ qo cc pc dc qc) 54) (fun i _ => a.puts.length - (intOf i).toNat)
  case atStart => exact ⟨0, none, 0, Nat.zero_le _, rfl, hG, hB1, y0⟩
  case round =>
   clear hG hB1 y0
   obtain ⟨k, o, c, hk, rfl, hG, hB, y0⟩ := hrel
   by_cases hlt : k < a.puts.length
   .
    have HKv : Hid (KvsAt w po a.puts) := zhI HA.out.puts
    obtain ⟨b, off, rfl, hgb, q0, q1⟩ := HKv.out.cell hlt
    have c0 := (hB.cell hgb).trans q0
    have c1 := (hB.cell hgb).trans q1
    have lB : b < wr.heap.size := znL hgb hB.size
    have Hs := zhI (putsG_take (l := l) (out := []) hlt)
    have hgl := putsG_len l (a.puts.take k) []
    rw [List.length_take, List.length_nil] at hgl
    obtain ⟨G, hGe⟩ : ∃ G, putsG l [] (a.puts.take k) = G := ⟨_, rfl⟩
    rw [hGe] at hG Hs hgl
    obtain ⟨⟨ky, vl⟩, hx⟩ : ∃ x, a.puts[k] = x := ⟨_, rfl⟩
    rw [hx] at c0 c1 Hs
    have hbo := Below.one wr (.cells #[.string ky, .string vl] 77)
    have hG1 := hG.below hbo
    have hB1 := btr hB hbo
    have y1 := y0.belowAll hbo
    have hch := rn_changes1 (putC (ky, vl)) _ N (N + 1) (N + 2) l lo lc o c G hG1 (by omega)
    have Hch := zhI hch
    have HG := zhI hG1
    have HB := zhI hB1
    have HY := zhI y1
    clear q0 q1 hGe hx hbo hG hB y0 hch hG1 hB1 y1 HKv
    go_wp2_with fail
    refine Hch.out.mono ?_
    rintro e w1 ⟨rfl, o1, c1', hG2, hK⟩
    have hB2 := hK.below HB.out HB.out.size (fun b hb => by rw [hN]; exact HG.out.ge b hb)
    have y2 := hK.bx HY.out (HG.out.notin HY.out (by decide) (by decide))
    have HG2 := zhI hG2
    have HB2 := zhI hB2
    have HY2 := zhI y2
    clear hG2 hB2 y2 hK Hch HG HB HY c0 c1 lB
    go_wp2
    go_roundw
    case rel => exact ⟨k + 1, o1, c1', by omega, by go_num, by rw [Hs.out]; exact HG2.out, HB2.out, HY2.out⟩
    case measure => simp [intOf]; omega
   .
    have hfull : putsG l [] (a.puts.take k) = putsG l [] a.puts := by rw [List.take_of_length_le (by omega)]
    have hgl := putsG_len l a.puts []
    rw [List.length_nil] at hgl
    rw [hfull] at hG
    obtain ⟨P, hP⟩ : ∃ P, putsG l [] a.puts = P := ⟨_, rfl⟩
    rw [hP] at hG hgl
    have hraw : rawC a l = delsG l P a.dels := by rw [rawC_G, hP]
    have HRaw := zhI hraw
    have HG := zhI (show GatS wr N (N + 1) (N + 2) l lo lc o c (delsG l P (a.dels.take 0)) from hG)
    have HB := zhI hB
    have HY := zhI y0
    have c0 := y0.cell
    have l0 := y0.lt
    clear hfull hP hraw hG hB y0 hk
    go_wp2
    clear c0 l0 hlt
    go_loopw [35] (fun i wr => ∃ (k : Nat) (o : Option Addr) (c : Nat), k <= a.dels.length /\ i = .int .i64 k /\ GatS wr N (N + 1) (N + 2) l lo lc o c (delsG l P (a.dels.take k)) /\ Below w.heap.size w wr /\ Bx wr N (actBC a co po do_ qo cc pc dc qc) 54) (fun i _ => a.dels.length - (intOf i).toNat)
    case atStart => exact ⟨0, o, c, Nat.zero_le _, rfl, HG.out, HB.out, HY.out⟩
    case round =>
     clear HG HB HY
     obtain ⟨k, o, c, hk, rfl, hG, hB, y0⟩ := hrel
     by_cases hlt : k < a.dels.length
     .
      have HKv : Hid (StrsAt (· < w.heap.size) w do_ a.dels) := zhI HA.out.dels
      obtain ⟨b, off, rfl, q0, hgb⟩ := HKv.out k hlt
      have c0 := (hB.cell hgb).trans q0
      have lB : b < wr.heap.size := znL hgb hB.size
      have Hs := zhI (delsG_take (l := l) (out := P) hlt)
      have hgl2 := delsG_len l (a.dels.take k) P
      rw [List.length_take] at hgl2
      obtain ⟨G, hGe⟩ : ∃ G, delsG l P (a.dels.take k) = G := ⟨_, rfl⟩
      rw [hGe] at hG Hs hgl2
      obtain ⟨ky, hx⟩ : ∃ x, a.dels[k] = x := ⟨_, rfl⟩
      rw [hx] at c0 Hs
      have hch := rn_changes1 (delC ky) wr N (N + 1) (N + 2) l lo lc o c G hG (by omega)
      have Hch := zhI hch
      have HG := zhI hG
      have HB := zhI hB
      have HY := zhI y0
      clear q0 hGe hx hG hB y0 hch HKv
      go_wp2_with fail
      refine Hch.out.mono ?_
      rintro e w1 ⟨rfl, o1, c1', hG2, hK⟩
      have hB2 := hK.below HB.out HB.out.size (fun b hb => by rw [hN]; exact HG.out.ge b hb)
      have y2 := hK.bx HY.out (HG.out.notin HY.out (by decide) (by decide))
      have HG2 := zhI hG2
      have HB2 := zhI hB2
      have HY2 := zhI y2
      clear hG2 hB2 y2 hK Hch HG HB HY c0 lB
      go_wp2
      go_roundw
      case rel => exact ⟨k + 1, o1, c1', by omega, by go_num, by rw [Hs.out]; exact HG2.out, HB2.out, HY2.out⟩
      case measure => simp [intOf]; omega
     .
      have hfull : delsG l P (a.dels.take k) = rawC a l := by rw [HRaw.out, List.take_of_length_le (by omega)]
      rw [hfull] at hG
      obtain ⟨hnd, -, hlen⟩ := rawC_ok a l
      obtain ⟨T, hT⟩ : ∃ T, rawC a l = T := ⟨_, rfl⟩
      have hR3 : R = sortC T := by rw [HR2.out, hT]
      rw [hT] at hG hnd hlen
      have hso := sort_chgs hG.own (by omega) hnd
      obtain ⟨m, hm⟩ : ∃ m, T.length = m := ⟨_, rfl⟩
      have xo := hG.xo
      have hown := hG.own
      rw [hm] at hso xo
      have Hso := zhI hso
      have HR3 := zhI (zaI hR3 (zaI hnd hm))
      have HG := zhI hG
      have HB := zhI hB
      have cO := xo.cell
      have lO := xo.lt
      have Hxo := zhI xo
      clear hfull hT hR3 hnd hlen hm hso hG hB xo hown HRaw HR2
      go_wp2_with fail
      refine Hso.out.mono ?_
      rintro e w2 ⟨rfl, T', hp, hasc, hown2, hg2⟩
      have hE : T' = R := by rw [HR3.out.1]; exact sortC_eq HR3.out.2.1 hp hasc
      have hB2 := HB.out.grown hg2 HB.out.size (fun r e => by
       have := HG.out.own.lt r (by rw [HR3.out.2.2]; exact e.symm ▸ rfl)
       omega)
      have hml : m = T'.length := by rw [<- HR3.out.2.2]; exact hp.length_eq.symm
      have xo2 := Hxo.out.grown hg2 (fun e => ownsRow_ne_bx HG.out.own HG.out.xo (by decide) (by rw [HR3.out.2.2]; exact e.symm))
      have HE := zhI (zaI hE (zaI hml hown2))
      have HB2 := zhI hB2
      clear hE hB2 hml hown2 hp hasc hg2 cO lO Hso
      have cO := xo2.cell
      have lO := xo2.lt
      clear xo2
      go_wp2
      go_ret
      obtain ⟨e1, e2, e3⟩ := HE.out
      subst e1
      rw [e2] at e3 |-
      obtain ⟨o', c', e4, hs, hr⟩ := ChgsR.at e3
      obtain ⟨rfl, rfl⟩ : o = o' /\ c = c' := by simpa using e4
      exact ⟨o, c, rfl, hs, hr, HB2.out⟩
theorem fmtX_power {d : Dsk} {frm til : Int} (hf : fitX d frm til = 0) (hl : d.left = -1) : (fmtX d frm til).2 = 0 := by
 have hfz := fitX_bd hf
 unfold fmtX
 rw [if_neg (by simp [hf])]
 refine (perf_power _ hfz.1 (fun o ho => ?_) hl).1
 rcases zmC.1 ho with rfl | ho
 .
  exact ⟨by omega, by omega, by rw [bs_size, show padZ [] = List.replicate 512 0 from rfl, List.length_replicate]; omega⟩
 .
  rcases zmC.1 ho with rfl | ho
  .
   exact ⟨by omega, by omega, by rw [bs_size, hdrL_len (by decide)]; omega⟩
  .
   rw [zmS.1 ho]; trivial
theorem kLt_lit (a b : UInt8) : kLt ⟨#[a]⟩ ⟨#[b]⟩ = decide (a < b) := by simp [kLt, ByteArray.toList_eq, Go.Op.bytesLess]
abbrev kA : ByteArray := ⟨#[97]⟩
abbrev kB : ByteArray := ⟨#[98]⟩
abbrev kC : ByteArray := ⟨#[99]⟩
abbrev kD : ByteArray := ⟨#[100]⟩
abbrev kvE (k : ByteArray) : Kv := (k, ByteArray.empty)
theorem put_lf {ps L : List Kv} {x : Kv} (h : withP ps x = L) (hl : L.length <= 3) : putN (some (lfN ps)) x = lfN L := by
 have : insN x (lfN ps) = (lfN L, none) := by rw [insN_leaf (n := lfN ps) rfl, <- splitN_small hl, <- h]; rfl
 unfold putN
 simp only
 rw [this]
theorem put_lf4 {ps L : List Kv} {x : Kv} (h : withP ps x = L) (hl : 3 < L.length) : putN (some (lfN ps)) x = inN [lfN (L.take 2), lfN (L.drop 2)] := by
 have : insN x (lfN ps) = (lfN (L.take 2), some (lfN (L.drop 2))) := by rw [insN_leaf (n := lfN ps) rfl, <- splitN_big hl, <- h]; rfl
 unfold putN
 simp only
 rw [this]
theorem aw_with2 : withP [kvE kA] (kvE kB) = [kvE kA, kvE kB] := by simp [withP, kLt_lit]
theorem aw_with3 : withP [kvE kA, kvE kB] (kvE kC) = [kvE kA, kvE kB, kvE kC] := by simp [withP, kLt_lit]
theorem aw_with4 : withP [kvE kA, kvE kB, kvE kC] (kvE kD) = [kvE kA, kvE kB, kvE kC, kvE kD] := by simp [withP, kLt_lit]
abbrev addC (k : ByteArray) : Chg := ⟨k, false, ByteArray.empty, true, ByteArray.empty⟩
abbrev awC1 : List Chg := [addC kA, addC kB, addC kC, addC kD]
abbrev awC2 : List Chg := [⟨kD, true, ByteArray.empty, false, ByteArray.empty⟩]
abbrev awN1 : Nd := inN [lfN [kvE kA, kvE kB], lfN [kvE kC, kvE kD]]
theorem aw_fold1 : awC1.foldl chg1 none = some awN1 := by
 simp only [awC1, List.foldl_cons, List.foldl_nil, chg1, addC, if_true]
 rw [show putN none (kA, ByteArray.empty) = lfN [kvE kA] from rfl, put_lf aw_with2 (by decide), put_lf aw_with3 (by decide), put_lf4 aw_with4 (by decide)]
 rfl
abbrev awT1 : Nd := .mk [] [.mk [kvE kA, kvE kB] [] 2, .mk [kvE kC, kvE kD] [] 3] 4
theorem aw_free1 : otherX 0 10 [] = [2, 3, 4, 5, 6, 7, 8, 9] := by decide +kernel
theorem aw_plan1 (d : Dsk) : ∃ p, planP (ixOf d 0 10 1 none) none awC1 = some (some awT1, p) := by
 unfold planP
 rw [Option.map_none, aw_fold1]
 simp only [ixOf, usedN, aw_free1]
 exact ⟨_, rfl⟩
theorem aw_child : childP [lfN [kvE kA, kvE kB], lfN [kvE kC, kvE kD]] kD = 1 := by simp [childP, lfN, Nd.least, kLt_lit]
theorem aw_without : withoutP [kvE kC, kvE kD] kD = [kvE kC] := by simp [withoutP]
theorem aw_rem : remN kD awN1 = inN [.mk [kvE kA, kvE kB, kvE kC] [] 0] := by
 rw [remN, if_neg (by simp [awN1, inN, Nd.kids])]
 split
 .
  rename_i h
  simp only [awN1, inN, Nd.kids] at h
  rw [aw_child] at h
  simp at h
 .
  rename_i c h
  simp only [awN1, inN, Nd.kids] at h |-
  rw [aw_child] at h |-
  simp only [List.getElem?_cons_succ, List.getElem?_cons_zero, Option.some.injEq] at h
  subst h
  rw [remN_leaf (n := lfN [kvE kC, kvE kD]) rfl, show (lfN [kvE kC, kvE kD]).ps = [kvE kC, kvE kD] from rfl, aw_without]
  rfl
abbrev awT2 : Nd := .mk [kvE kA, kvE kB, kvE kC] [] 5
theorem aw_fold2 : awC2.foldl chg1 (some awN1) = some (.mk [kvE kA, kvE kB, kvE kC] [] 0) := by
 simp only [awC2, List.foldl_cons, List.foldl_nil, chg1, Bool.false_eq_true, if_false, dropN]
 rw [aw_rem]
 rfl
theorem aw_known {g : Int} : knownO (some awT1) (bs (encD (.mk [kvE kA, kvE kB, kvE kC] [] 0))) ≠ some g := by
 intro h
 obtain ⟨k, hk, _, e⟩ := knownO_val h
 have e0 := congrArg (fun l : List UInt8 => (l.getD 0 0, l.getD 1 0)) e
 simp only [preO, Nd.pre, Nd.preK, List.append_nil, List.cons_append, List.nil_append, zmC, List.not_mem_nil, or_false] at hk
 rcases hk with rfl | rfl | rfl
 .
  exact absurd e0 (by simp [encD, encL, encIn, encLf, padZ, Nd.kids, Nd.ps])
 .
  exact absurd e0 (by simp [encD, encL, encLf, padZ, Nd.kids, Nd.ps])
 .
  exact absurd e0 (by simp [encD, encL, encLf, padZ, Nd.kids, Nd.ps])
theorem aw_free2 : otherX 0 10 (usedN (some awT1)) = [5, 6, 7, 8, 9] := by decide +kernel
theorem aw_free3 : (otherX 0 10 (usedN (some awT2))).length = 7 := by decide +kernel
theorem aw_er : awT1.er = awN1 := rfl
theorem place_leaf {look : List UInt8 -> Option Int} {ps : List Kv} {g : Int} {r : List Int} {ws : List PW} (h : look (encD (.mk ps [] 0)) = none) : ∃ q, placeN look (.mk ps [] 0) ⟨g :: r, ws⟩ = some (.mk ps [] g, q) := by
 rw [placeN_eq]
 simp only [Nd.kids, Nd.ps, placeK]
 rw [h]
 exact ⟨_, rfl⟩
theorem aw_plan2 (d : Dsk) : ∃ p, planP (ixOf d 0 10 2 (some awT1)) (some awT1) awC2 = some (some awT2, p) := by
 obtain ⟨q, hq⟩ := place_leaf (look := fun s => knownO (some awT1) (bs s)) (ps := [kvE kA, kvE kB, kvE kC]) (g := 5) (r := [6, 7, 8, 9]) (ws := []) (Option.eq_none_iff_forall_ne_some.2 fun g => aw_known)
 refine ⟨q, ?_⟩
 unfold planP
 rw [Option.map_some, aw_er, aw_fold2]
 simp only [ixOf, aw_free2]
 rw [hq]
 rfl
theorem aw_chg1 : chgsE none awC1 = 0 := by
 simp [chgsE, chgE, kLt_lit]
 decide
theorem aw_chg2 : chgsE none awC2 = 0 := by
 simp [chgsE, chgE]
 decide
theorem aw_clash1 : awC1.any (clashO none) = false := by simp [awC1, clashO, getO, addC]
theorem aw_get : getO (some awT1) kD = (ByteArray.empty, true) := by
 have hl : awT1.leafAt kD = [kvE kC, kvE kD] := by
  rw [Nd.leafAt_kid (n := awT1) (by simp [Nd.kids])]
  have hc : childP awT1.kids kD = 1 := by simp [childP, Nd.kids, Nd.least, kLt_lit]
  have : ∀ i (hi : i < awT1.kids.length), i = 1 -> (awT1.kids[i]).leafAt kD = [kvE kC, kvE kD] := by
   rintro i hi rfl
   exact Nd.leafAt_leaf rfl
  exact this _ _ hc
 unfold getO
 simp only
 rw [hl]
 simp [getL, findB, findI, kLt_lit]
theorem aw_clash2 : awC2.any (clashO (some awT1)) = false := by
 simp only [awC2, List.any_cons, List.any_nil, clashO, aw_get]
 decide
theorem aw_scan : scanP (Nd.prs awT2) kB ByteArray.empty = [kvE kB, kvE kC] := by
 rw [Nd.prs_leaf (n := awT2) rfl]
 simp [scanP, Nd.ps, kLt_lit]
theorem step_ok {d : Dsk} {frm til : Int} {V : Nat} {t t' : Option Nd} {R : Ix × Int} (h : StepX d frm til V t t' R) (hl : d.left = -1) : R = (ixOf R.1.disk frm til (V + 1) t', 0) /\ IxS R.1.disk frm til (V + 1) t' /\ R.1.disk.left = -1 := by
 obtain ⟨f1, f2⟩ := h.full hl
 rcases h.res with ⟨h1, h2, h3⟩ | ⟨h1, _⟩
 .
  exact ⟨Prod.ext h3 h1, h2, f2⟩
 .
  rw [f1] at h1; exact absurd h1 (by decide)
theorem aw_key42 : ∃ (d0 d1 : Dsk) (x1 x2 x3 : Ix), newD 10 512 = (d0, 0) /\ fmtX d0 0 10 = (d1, 0) /\ openP d1 0 10 = (x1, 0) /\ commitP x1 awC1 = (x2, 0) /\ x2.root = 4 /\ commitP x2 awC2 = (x3, 0) /\ x3.root = 5 /\ x3.ver = 3 /\ x3.free.length = 7 /\ scanPP x3 kB ByteArray.empty = ([kvE kB, kvE kC], 0) /\
  d0.cache = [] /\ x1.disk.cache = [] /\ x2.disk.cache = [] /\ ∀ t, validP x3 = some t -> (pairsO t).length <= 1000000 := by
 obtain ⟨n1, n2, n3, n4, n5, n6⟩ := new_ok (p := 10) (s := 512) (by decide)
 obtain ⟨d0, hd0⟩ : ∃ d0, (newD 10 512).1 = d0 := ⟨_, rfl⟩
 rw [hd0] at n2 n3 n4 n5 n6
 have hf : fitX d0 0 10 = 0 := fitX_mk n4 n5 (by decide) (by omega) (by decide) (by decide)
 have hfm := fmtX_power hf n2
 obtain ⟨f1, f2, f3, _⟩ := fmt_X hfm
 obtain ⟨d1, hd1⟩ : ∃ d1, (fmtX d0 0 10).1 = d1 := ⟨_, rfl⟩
 rw [hd1] at f1 f2 f3
 have ho := f1.opens
 have hl1 := f3 n2
 rcases commit_law f1 (by decide) awC1 with h | h | h | h | ⟨_, _, _, t', p, hp, _, _, hS⟩
 .
  exact absurd aw_chg1 h.1
 .
  rw [aw_clash1] at h; exact absurd h.2.1 (by decide)
 .
  exact absurd h.2.2.1 (by simp [awC1])
 .
  obtain ⟨p, hp⟩ := aw_plan1 d1
  have := plan_none f1.tm (d := d1) (frm := 0) (til := 10) (V := 1) (l := awC1) (fun c hc => (chgsE_ok aw_chg1 c hc).1)
  exfalso
  have h5 := h.2.2.2.1
  simp only [ixOf, usedN, aw_free1] at h5
  have h6 : (applyL (pairsO none) awC1).length = 4 := by
   have := fold_pairs (o := none) (l := awC1) (fun n e => by cases e) (fun c hc => (chgsE_ok aw_chg1 c hc).1)
   rw [aw_fold1] at this
   rw [<- this]
   rfl
  rw [h6] at h5
  exact absurd h5 (by decide)
 .
  obtain ⟨p', hp'⟩ := aw_plan1 d1
  rw [hp'] at hp
  simp only [Option.some.injEq, Prod.mk.injEq] at hp
  obtain ⟨rfl, rfl⟩ := hp
  obtain ⟨e1, e2, e3⟩ := step_ok hS hl1
  obtain ⟨d2, hd2⟩ : ∃ d2, (commitP (ixOf d1 0 10 1 none) awC1).1.disk = d2 := ⟨_, rfl⟩
  rw [hd2] at e1 e2 e3
  rcases commit_law e2 (by decide) awC2 with h | h | h | h | ⟨_, _, _, t', p, hp, _, _, hS⟩
  .
   exact absurd aw_chg2 h.1
  .
   rw [aw_clash2] at h; exact absurd h.2.1 (by decide)
  .
   exact absurd h.2.2.1 (by simp [awC2])
  .
   exfalso
   have h5 := h.2.2.2.1
   simp only [ixOf, aw_free2] at h5
   have h6 : (applyL (pairsO (some awT1)) awC2).length = 3 := by
    have := fold_pairs (o := some awN1) (l := awC2) (by
     intro n e
     rw [<- aw_er] at e
     exact e2.tm.er n e) (fun c hc => (chgsE_ok aw_chg2 c hc).1)
    rw [aw_fold2] at this
    have hpe : pairsO (some awT1) = pairsO (some awN1) := by rw [<- aw_er]; exact (pairsO_er (some awT1)).symm
    rw [hpe, <- this]
    rfl
   rw [h6] at h5
   exact absurd h5 (by decide)
  .
   obtain ⟨p', hp'⟩ := aw_plan2 d2
   rw [hp'] at hp
   simp only [Option.some.injEq, Prod.mk.injEq] at hp
   obtain ⟨rfl, rfl⟩ := hp
   obtain ⟨g1, g2, g3⟩ := step_ok hS e3
   obtain ⟨d3, hd3⟩ : ∃ d3, (commitP (ixOf d2 0 10 (1 + 1) (some awT1)) awC2).1.disk = d3 := ⟨_, rfl⟩
   rw [hd3] at g1 g2 g3
   have hv : validP (ixOf d3 0 10 (1 + 1 + 1) (some awT2)) = some (some awT2) := by rw [validP_X]; exact g2.valid
   refine ⟨d0, d1, ixOf d1 0 10 1 none, ixOf d2 0 10 (1 + 1) (some awT1), ixOf d3 0 10 (1 + 1 + 1) (some awT2), Prod.ext hd0 n1, Prod.ext hd1 hfm, by rw [openP_X]; exact ho, e1, rfl, g1, rfl, rfl, aw_free3, ?_, n3, f1.empty, e2.empty, ?_⟩
   .
    unfold scanPP
    rw [hv]
    simp only [pairsO, aw_scan]
   .
    intro t ht
    rw [hv] at ht
    cases ht
    simp only [pairsO]
    rw [Nd.prs_leaf (n := awT2) rfl]
    decide
end Go.Proofs.YtlefmmhlpgmbjaaGreat
