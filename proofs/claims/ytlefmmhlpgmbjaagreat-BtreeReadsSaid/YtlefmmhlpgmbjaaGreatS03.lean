/- disk.Read (layer 40) for every disk and index: the pair 'readD' of the disk. Contracts of Crash of layer 40, of the program's and the reference's. disk.Flush (layer 40) for every disk: the pair 'flushD' of the disk. Contract of the reference's Write of layer 40. disk.Flush (layer 40): the two failing ways, and all together; the reference's Flush. Contract of the reference's Crash of layer 40. Contracts of Same and Great of the reference of layer 40. law 40's 'awake': it returns true. Regions that draw their order, whose operations read what was there before and whose callees may make memory but answer with one value whatever they find above it: walked once, in the order of the text. Two words on worlds that grow. Plain laws on the disks of layer 40: what Write, Flush and Crash leave is valid, and how its pages read. No function of the program is named here. Small lemmas that the walks of layer 40's laws share. Numbers of 8 bytes: pagelog.number, pagelog.value, pagelog.header; the reference's number, value, Header. -/
import Derived.Test.YtlefmmhlpgmbjaaGreatS02
import Derived.Test.YtlefmmhlpgmbjaaGreatS01
import Derived.StillTailTactics
import Derived.Deep.RegionHeld3
import Derived.Deep.DeepCutAuto
import Derived.BigQuiet
import Derived.Deep.QuietTactic
import Derived.WalkKit
import Derived.Below
import Derived.Deep.RegionWith
namespace Go.Proofs.YtlefmmhlpgmbjaaGreat
set_option maxRecDepth 100000
open Go.RowKit Go.Shelf
attribute [local go_sem] Oper.semAt_some
theorem zkF {l : List PW} {k : Nat} (hk : k <= l.length) {x : PW} (hx : x ∈ l.drop (l.length - k)) : ∃ p ∈ upto (bkF l) k, p.2 = x := by
 obtain ⟨m, hm, rfl⟩ := List.mem_iff_getElem.1 hx;have hm' : m < k := by simp at hm; omega
 refine ⟨bkF l (k - 1 - m), List.mem_map.2 ⟨k - 1 - m, List.mem_range.2 (by omega), rfl⟩, ?_⟩;have e : l.length - 1 - (k - 1 - m) = l.length - k + m := by omega
 simp [bkF, e];rw [List.getElem?_eq_getElem (by omega)]; rfl
theorem zfq {i : Int} {l : List PW} (h : ∀ x ∈ l, (x.page == i) = false) (s : ByteArray) : lastW i l s = s := by
 induction l generalizing s with
 | nil => rfl
 | cons x l ih => rw [lastW, if_neg (by simpa using h x (by simp)), ih (fun y hy => h y (by simp [hy]))]
theorem zhs {i : Int} (a b : List PW) (s : ByteArray) : lastW i (a ++ b) s = lastW i b (lastW i a s) := by
 induction a generalizing s with
 | nil => rfl
 | cons x a ih => rw [List.cons_append, lastW, lastW, ih]
theorem zj3 {i : Int} {l : List PW} (h : ∀ p ∈ upto (bkF l) l.length, (p.2.page == i) = false) (s : ByteArray) : lastW i l s = s :=
 zfq (fun x hx => by obtain ⟨p, hp, rfl⟩ := zkF (Nat.le_refl l.length) (x := x) (by simpa using hx); exact h p hp) s
theorem zlm {i : Int} {l : List PW} {k : Nat} (hk : k < l.length) (h : ∀ p ∈ upto (bkF l) k, (p.2.page == i) = false) (hx : ((bkF l k).2.page == i) = true) (s : ByteArray) : lastW i l s = (bkF l k).2.data := by
 have e : l = l.take (l.length - 1 - k) ++ (l[l.length - 1 - k] :: l.drop (l.length - k)) := by rw [show l.length - k = l.length - 1 - k + 1 by omega, <- List.drop_eq_getElem_cons, List.take_append_drop]
 have e2 : (bkF l k).2 = l[l.length - 1 - k] := by simp [bkF, List.getElem?_eq_getElem (show l.length - 1 - k < l.length by omega)]
 rw [e2] at hx |-;rw [show lastW i l s = lastW i (l.take (l.length - 1 - k) ++ (l[l.length - 1 - k] :: l.drop (l.length - k))) s by rw [<- e], zhs, lastW, if_pos (by simpa using hx)];exact zfq (fun x hx => by obtain ⟨p, hp, rfl⟩ := zkF (Nat.le_of_lt hk) hx; exact h p hp) _
set_option maxRecDepth 100000 in
set_option maxHeartbeats 2000000 in
theorem zkN (d : Dsk) (v : Value) (i : Int) (w : World) {S : Nat -> Prop} (hS : InS S w) (hD : DskR S w v d) :
  Calls Tryz.prog 41 #[v, .int .i64 i] w fun e w' => e = .returned (.tuple #[.string (readD d i).1, .int .i64 (readD d i).2]) /\ Below w.heap.size w w' := by
 have hD0 := hD;obtain ⟨po, pc, co, cc, rfl, hp, hc, ok⟩ := hD;have ok1 := ok.pages;have ok2 := ok.cache;have hcb : ∀ k (h : k < d.pages.length), ∃ b off, po = some ⟨b, off, none⟩ /\ w.cell? ⟨b, off + k, none⟩ = some (.string d.pages[k]) := fun k h => by obtain ⟨b, off, e, h1, _⟩ := hp k h; exact ⟨b, off, e, h1⟩
 obtain ⟨n, hn⟩ : ∃ n, 9 <= n := ⟨9, Nat.le_refl _⟩;refine (callsIn_wide (n := n)).1 ?_;have hro : Fence.wide.round = none := rfl;have h1 : 1 <= n := by omega
 refine callsIn_of_wp_marks Tryz.func41 rfl trivial ?_ hro;simp only [Tryz.ntmps41, List.size_toArray, zlC, List.length_nil, Nat.reduceAdd, Nat.reduceSub, Array.replicate_succ, Array.replicate_zero, List.push_toArray, List.append_toArray, List.nil_append, List.cons_append];generalize hres : readD d i = res;unfold readD at hres;have hbw : ∀ o1 o2 o3 o4, Below w.heap.size w ((((w.alloc o1).alloc o2).alloc o3).alloc o4) := fun o1 o2 o3 o4 =>
  ((((Below.refl _ _).alloc (Nat.le_refl _) _).alloc (by simp) _).alloc (by simp; omega) _).alloc (by simp; omega) _
 gi_wp2_with (refine ⟨trivial, ?_⟩; gi_at_call 43; refine (callsIn_wide.2 (zaN d _ _ (hD0.below (hbw _ _ _ _)))).mono ?_);rintro e w1 ⟨rfl, hb⟩;have xD := ((((Bx.new w #[.int .i64 d.size, .slice po d.pages.length pc, .slice co d.cache.length cc, .int .i64 d.left] 25).alloc (.cells #[.int .i64 i] 3)).alloc (.cells #[.string ⟨#[]⟩] 9)).alloc (.cells #[.int .i64 0] 28)).belowAll hb;have xI := (((Bx.newAt (w.alloc (.cells #[.int .i64 d.size, .slice po d.pages.length pc, .slice co d.cache.length cc, .int .i64 d.left] 25)) #[.int .i64 i] 3 (w.heap.size + 1) (by simp)).alloc (.cells #[.string ⟨#[]⟩] 9)).alloc (.cells #[.int .i64 0] 28)).belowAll hb;have xS := ((Bx.newAt ((w.alloc (.cells #[.int .i64 d.size, .slice po d.pages.length pc, .slice co d.cache.length cc, .int .i64 d.left] 25)).alloc (.cells #[.int .i64 i] 3)) #[.string ⟨#[]⟩] 9 (w.heap.size + 1 + 1) (by simp)).alloc (.cells #[.int .i64 0] 28)).belowAll hb;have xE := (Bx.newAt (((w.alloc (.cells #[.int .i64 d.size, .slice po d.pages.length pc, .slice co d.cache.length cc, .int .i64 d.left] 25)).alloc (.cells #[.int .i64 i] 3)).alloc (.cells #[.string ⟨#[]⟩] 9)) #[.int .i64 0] 28 (w.heap.size + 1 + 1 + 1) (by simp)).belowAll hb;have hB1 : Below w.heap.size w w1 := (hbw _ _ _ _).trans (hb.mono (by simp; omega));have hsz : w.heap.size + 4 <= w1.heap.size := by have := hb.size; simp at this; omega
 clear hb;have cD0 := xD.cell 0; have cD1 := xD.cell 1; have cD2 := xD.cell 2; have cD3 := xD.cell 3;have cI := xI.cell 0; have cS := xS.cell 0; have cE := xE.cell 0;have fS := xS.free 0; have fE := xE.free 0;have lS := xS.lt; have lE := xE.lt; have lD := xD.lt; have lI := xI.lt;simp at cD0 cD1 cD2 cD3 cI cS cE;cases hz : (chk d != 0)
 .
  rw [if_neg (by simpa using hz)] at hres
  by_cases hneg : i < 0
  .
   rw [if_pos hneg] at hres;subst hres;gi_wp2;refine ⟨.tuple #[.string ByteArray.empty, .int .i64 2], ?_, rfl, zaa (b := w.heap.size + 1 + 1 + 1) (zaa (b := w.heap.size + 1 + 1) hB1 (by omega)) (by omega)⟩;simp [results, Tryz.f41, go_sem, cS, cE]
   all_goals first | rfl | omega
  .
   rw [if_neg hneg] at hres;obtain ⟨k, rfl⟩ := Int.eq_ofNat_of_zero_le (Int.not_lt.1 hneg);rw [Int.toNat_natCast] at hres
   by_cases hk : k < d.pages.length
   .
    rw [dif_pos hk] at hres;subst hres;obtain ⟨pb, poff, rfl, hcell0⟩ := hcb k hk;gi_wp2_with (refine ⟨trivial, ?_⟩; gi_at_call 82; refine (zmQ Fence.wide _ trivial hro _ _ _ _).mono ?_; rintro e w' ⟨rfl, rfl⟩);obtain ⟨W0, hW0⟩ : ∃ W0, w1.alloc (.cells #[.slice co d.cache.length cc] 23) = W0 := ⟨_, rfl⟩;have yB : Bx W0 w1.heap.size #[.slice co d.cache.length cc] 23 := by rw [<- hW0]; exact Bx.new _ _ _
    have yD := xD.alloc (.cells #[.slice co d.cache.length cc] 23); rw [hW0] at yD;have yI := xI.alloc (.cells #[.slice co d.cache.length cc] 23); rw [hW0] at yI;have yS := xS.alloc (.cells #[.slice co d.cache.length cc] 23); rw [hW0] at yS;have yE := xE.alloc (.cells #[.slice co d.cache.length cc] 23); rw [hW0] at yE;have hB0 : Below w.heap.size w W0 := by rw [<- hW0]; exact hB1.alloc (by omega) _
    have hc0 : PWsAt S W0 co d.cache := hc.below hB0;have hbS : ∀ b, S b -> b < w1.heap.size + 1 := fun b h => by have := hS b h; omega
    have hs0 : W0.heap.size = w1.heap.size + 1 := by rw [<- hW0]; simp
    rw [hW0];clear hW0 xD xI xS xE cD0 cD1 cD2 cD3 cI cS cE fS fE lS lE lD lI;refine wpIn_rangeFunc_ownH hro h1 (gf := 124) (lb := #[.pointer (some ⟨w1.heap.size, 0, none⟩)]) rfl trivial (enters_of Tryz.func124 (by kernel_rfl) rfl)
     (zjk Fence.wide (n - 1) trivial hro (by omega) w1.heap.size (w1.heap.size + 1) cc co d.cache ok2 hbS W0 (by omega) (by omega) (yB.cell 0) hc0) belowK_t (belowK_b (by omega)) (Below.refl _ _) (fun _ => rfl)
     (fun pre W => ((((∀ p ∈ pre, (p.2.page == (k : Int)) = false) /\ Bx W (w.heap.size + 1) #[.int .i64 k] 3) /\ Bx W (w.heap.size + 1 + 1) #[.string ⟨#[]⟩] 9 /\ Bx W (w.heap.size + 1 + 1 + 1) #[.int .i64 0] 28) /\ Bx W w.heap.size #[.int .i64 d.size, .slice (some ⟨pb, poff, none⟩) d.pages.length pc, .slice co d.cache.length cc, .int .i64 d.left] 25) /\ Below w.heap.size w W /\ Bx W w1.heap.size #[.slice co d.cache.length cc] 23)
     (fun c pre W => ((c = .ret /\ ∃ ini last, pre = ini ++ [last] /\ (∀ p ∈ ini, (p.2.page == (k : Int)) = false) /\ (last.2.page == (k : Int)) = true /\ Bx W (w.heap.size + 1 + 1) #[.string last.2.data] 9) /\ Bx W (w.heap.size + 1 + 1 + 1) #[.int .i64 0] 28) /\ Below w.heap.size w W)
     (OwnFrom.and (Own.from (fun s A B row hs hg hr => ⟨⟨⟨hs.1.1.1, zbJ hs.1.1.2 hg hr⟩, zbJ hs.1.2.1 hg hr, zbJ hs.1.2.2 hg hr⟩, zbJ hs.2 hg hr⟩) _) (OwnFrom.and (ownFrom_below (Nat.le_refl _) (by omega)) (Own.from (fun s A B row hs hg hr => zbJ hs hg hr) _)))
     (fun c => OwnFrom.and (Own.from (fun s A B row hs hg hr => by obtain ⟨⟨hc, ini, last, e1, e2, e3, e4⟩, e5⟩ := hs; exact ⟨⟨hc, ini, last, e1, e2, e3, zbJ e4 hg hr⟩, zbJ e5 hg hr⟩) _) (ownFrom_below (Nat.le_refl _) (by omega)))
     ⟨⟨⟨⟨by simp, yI⟩, yS, yE⟩, yD⟩, hB0, yB⟩
     (fun x a' W => ∃ Bb, w1.heap.size < Bb /\ Bx W Bb #[.int .i64 x.2.page, .string x.2.data] 80 /\ a' = { tmps := #[.agg #[.int .i64 d.size, .slice (some ⟨pb, poff, none⟩) d.pages.length pc, .slice co d.cache.length cc, .int .i64 d.left], .int .i64 k, .pointer (some ⟨w.heap.size, 0, none⟩), .pointer (some ⟨w.heap.size + 1, 0, none⟩), .pointer (some ⟨w.heap.size + 1 + 1, 0, none⟩), .pointer (some ⟨w.heap.size + 1 + 1 + 1, 0, none⟩), undef, .pointer (some ⟨Bb, 0, none⟩), .bool false, .agg #[.int .i64 d.size, .slice (some ⟨pb, poff, none⟩) d.pages.length pc, .slice co d.cache.length cc, .int .i64 d.left], .int .i64 (chk d), .bool false, .bool (decide ((k : Int) < 0)), .int .i64 k, .bool (decide ((k : Int) < 0)), .bool (decide ((k : Int) < 0)), .int .i64 k, .pointer (some ⟨w.heap.size, 1, none⟩), .slice (some ⟨pb, poff, none⟩) d.pages.length pc, .int .i64 d.pages.length, .bool false, .bool (decide ((k : Int) < 0)), .pointer (some ⟨w.heap.size, 2, none⟩), .slice co d.cache.length cc, .func (.func 124) #[] #[.pointer (some ⟨w1.heap.size, 0, none⟩)], .int .i64 x.1, .agg #[.int .i64 x.2.page, .string x.2.data], undef, undef, undef, undef, undef, undef, undef, undef, undef, undef, undef], defers := [] })
     (fun x a' X Y row s hs hg hr => by obtain ⟨Bb, e1, e2, e3⟩ := hs; exact ⟨Bb, e1, zbJ e2 hg (fun r e => (hr r e).2), e3⟩)
     ?assign ?body ?done ?stop
    case assign => rintro l pre x W K ⟨⟨⟨⟨hp, b2⟩, b3, b4⟩, b1⟩, hB, b5⟩ hK;have l5 := b5.lt;gi_wp2;exact hK _ _ ((KeepsOthers.alloc _ _).from _) ((Below.refl _ W).alloc (by omega) _) ⟨⟨⟨⟨hp, b2.alloc _⟩, b3.alloc _, b4.alloc _⟩, b1.alloc _⟩, hB.alloc hB.size _, b5.alloc _⟩ ⟨W.heap.size, l5, Bx.new W _ _, rfl⟩
    case body =>
     rintro l pre x a' W hl ⟨r, hr⟩ ⟨⟨⟨⟨hp, b2⟩, b3, b4⟩, b1⟩, hB, b5⟩ ⟨Bb, hBb, bX, rfl⟩ hlt;have cI := b2.cell 0; have cS := b3.cell 0; have cE := b4.cell 0;have cX := bX.cell 0; have cX' := bX.cell 1;have fS := b3.free 0; have fE := b4.free 0;have lS := b3.lt; have lE := b4.lt;simp at cI cS cE cX cX';cases hx : (x.2.page == (k : Int))
     . gi_wp2;exact ⟨KeepsFrom.refl _ _, Below.refl _ _, ⟨⟨⟨fun p hp' => (zmA.1 hp').elim (hp p) (fun e => by simp at e; subst e; exact hx), b2⟩, b3, b4⟩, b1⟩, hB, b5⟩
     .
      gi_wp2;exact ⟨((KeepsOthers.setCell _ _ _).trans (KeepsOthers.setCell _ _ _)).from _, ⟨⟨rfl, pre, x, rfl, hp, hx, (b3.set 0 (.string x.2.data)).setO (by simp) _⟩, (b4.setO (a := ⟨w.heap.size + 1 + 1, 0, none⟩) (by simp) _).set 0 (.int .i64 0)⟩,
       zaa (b := w.heap.size + 1 + 1 + 1) (zaa (b := w.heap.size + 1 + 1) hB (by omega)) (by omega)⟩
    case done =>
     rintro D ys W hD rfl ⟨⟨⟨⟨hp, b2⟩, b3, b4⟩, b1⟩, hB, b5⟩ hK;have hl := zj3 hp d.pages[k];have cD1 := b1.cell 1; have cI := b2.cell 0; have cS := b3.cell 0; have cE := b4.cell 0;have fS := b3.free 0; have fE := b4.free 0;have lS := b3.lt; have lE := b4.lt;have hcell : W.cell? ⟨pb, poff + k, none⟩ = some (.string d.pages[k]) := by rw [hB.cell (World.block_lt_of_cell? w _ hcell0)]; exact hcell0
     simp at cD1 cI cS cE;gi_wp2;have hK' := ((KeepsOthers.setCell W ⟨w.heap.size + 1 + 1, 0, none⟩ (.string d.pages[k])).trans (KeepsOthers.setCell _ ⟨w.heap.size + 1 + 1 + 1, 0, none⟩ (.int .i64 0))).same D _ hK rfl;have hB' : Below w.heap.size w ((W.setCell ⟨w.heap.size + 1 + 1, 0, none⟩ (.string d.pages[k])).setCell ⟨w.heap.size + 1 + 1 + 1, 0, none⟩ (.int .i64 0)) := zaa (b := w.heap.size + 1 + 1 + 1) (zaa (b := w.heap.size + 1 + 1) hB (by omega)) (by omega);refine ⟨by simp, .inl ⟨_, _, rfl, run_takeDeferred hK', ?_⟩⟩;have c5 := ((zbJ ((b3.set 0 (.string d.pages[k])).setO (a := ⟨w.heap.size + 1 + 1 + 1, 0, none⟩) (by simp) (.int .i64 0)) (grownBy_putObj' _ D (.deferred none)) (fun r e => by cases e; exact ⟨_, hK', rfl⟩))).cell 0;have c6 := ((zbJ ((b4.setO (a := ⟨w.heap.size + 1 + 1, 0, none⟩) (by simp) (.string d.pages[k])).set 0 (.int .i64 0)) (grownBy_putObj' _ D (.deferred none)) (fun r e => by cases e; exact ⟨_, hK', rfl⟩))).cell 0;simp at c5 c6;refine ⟨.tuple #[.string d.pages[k], .int .i64 0], ?_, by rw [zak, hl], hB'.trans (belowK_b (w := w) (Nat.le_refl _) _ D _ _ (by omega) hK' rfl rfl)⟩;simp [results, Tryz.f41, go_sem, c5, c6]
    case stop =>
     rintro D c pre W hD ⟨j, hj, rfl⟩ ⟨⟨⟨rfl, ini, last, e1, e2, e3, b3⟩, b4⟩, hB⟩ hK;gi_wp2;refine ⟨by simp, .inl ⟨_, _, rfl, run_takeDeferred hK, ?_⟩⟩;have c5 := (zbJ b3 (grownBy_putObj' _ D (.deferred none)) (fun r e => by cases e; exact ⟨_, hK, rfl⟩)).cell 0;have c6 := (zbJ b4 (grownBy_putObj' _ D (.deferred none)) (fun r e => by cases e; exact ⟨_, hK, rfl⟩)).cell 0;simp at c5 c6;obtain ⟨j', rfl⟩ : ∃ j', j = j' + 1 := by
      cases j with
      | zero => simp [upto] at e1
      | succ j' => exact ⟨j', rfl⟩
     rw [zeK] at e1;obtain ⟨rfl, e5⟩ := List.append_inj' e1 rfl;obtain rfl : bkF d.cache j' = last := by simpa using e5
     refine ⟨.tuple #[.string (bkF d.cache j').2.data, .int .i64 0], ?_, by rw [zak, zlm (by omega) e2 e3], hB.trans (belowK_b (w := w) (Nat.le_refl _) W D _ _ (by omega) hK rfl rfl)⟩;simp [results, Tryz.f41, go_sem, c5, c6]
   .
    rw [dif_neg hk] at hres;subst hres;gi_wp2;refine ⟨.tuple #[.string ByteArray.empty, .int .i64 2], ?_, rfl, zaa (b := w.heap.size + 1 + 1 + 1) (zaa (b := w.heap.size + 1 + 1) hB1 (by omega)) (by omega)⟩;simp [results, Tryz.f41, go_sem, cS, cE]
    all_goals first | rfl | omega
 .
  rw [if_pos (by simpa using hz)] at hres;subst hres;gi_wp2;refine ⟨.tuple #[.string ByteArray.empty, .int .i64 1], ?_, rfl, zaa (b := w.heap.size + 1 + 1 + 1) (zaa (b := w.heap.size + 1 + 1) hB1 (by omega)) (by omega)⟩;simp [results, Tryz.f41, go_sem, cS, cE]
  all_goals first | rfl | omega
end Go.Proofs.YtlefmmhlpgmbjaaGreat
namespace Go.Proofs.YtlefmmhlpgmbjaaGreat
set_option maxRecDepth 100000
open Go.RowKit
theorem zgI {n : Nat} {a b : ByteArray} (h1 : n <= a.size) (h2 : a.size = b.size) : (tear n a b).size = b.size := by
 unfold tear;rw [ByteArray.size_append, ByteArray.size_extract, ByteArray.size_extract];omega
end Go.Proofs.YtlefmmhlpgmbjaaGreat
namespace Go.Proofs.YtlefmmhlpgmbjaaGreat
set_option maxRecDepth 100000
open Go.RowKit Go.Shelf
theorem zeY {F : Fence} {nF : Nat} {P : Program} {ops : Array Oper} {rest : List Oper} {o : Oper} {a : Act} {Q : Exit -> Act -> World -> Prop} {w : World} (hgd : o.guard = none) (l c : Operand) (t : TypeId) (hop : o.op = Op.makeSlice t l c)
  (e : TypeId) (i : TypeInfo) (z : Value) (bytes : Nat) (ht : P.underlying t = some (.slice e)) (hi : P.info? e = some i) (hz : i.zero = some z) (hsize : i.size = 1) (hby : i.bytes = bytes) (hzc : z.cells = #[z])
  (n : Nat) (hl : a.eval l = .int .i64 n) (hc : a.eval c = .int .i64 n) (hb : bytes * n <= 281474976710656) (h63 : n <= 9223372036854775807)
  (hK : ∀ w', Bx w' w.heap.size (List.replicate n z).toArray e -> w.grownBy w' none -> w'.heap.size = w.heap.size + 1 -> wpListIn F nF P ops Q rest (a.put o.dst (.slice (some ⟨w.heap.size, 0, none⟩) n n)) w') :
  wpListIn F nF P ops Q (o :: rest) a w := by
 refine wpListIn_plain hgd fun K hK' => ?_;have hb' : (i.bytes : Int) * (n : Int) <= 281474976710656 := by
  have h : ((i.bytes * n : Nat) : Int) <= 281474976710656 := by rw [hby]; omega
  rwa [Int.natCast_mul] at h
 have hrun := run_make (P := P) w t e i z ht hi hz .i64 .i64 n n (by omega) (Int.le_refl _) hb' (by omega);rw [hsize, hzc, Nat.mul_one, zc9] at hrun;simp only [Int.toNat_natCast] at hrun;unfold Oper.wpIn;refine ⟨by simp [Oper.about, hop], ?_⟩;rw [Oper.semAt_plain F _ _ (by rw [hop]; intro c hc'; cases hc')];simp [execOp, hop, hl, hc, hrun, Result.andThen];exact hK' _ _ (by simpa using hK _ (Bx.new w _ _) (World.grownBy_alloc w _ none) (World.size_alloc _ _))
def fillP (d : Dsk) (pre : List (Fin d.pages.length)) : List ByteArray := pre.foldl (fun ps x => ps.set x.1 (zak d x.1 x.2)) (List.replicate d.pages.length ByteArray.empty)
theorem zjg (d : Dsk) (pre : List (Fin d.pages.length)) (x : Fin d.pages.length) : fillP d (pre ++ [x]) = (fillP d pre).set x.1 (zak d x.1 x.2) := by simp [fillP]
theorem zeU (d : Dsk) (pre : List (Fin d.pages.length)) : (fillP d pre).length = d.pages.length := by
 unfold fillP
 suffices ∀ (l : List (Fin d.pages.length)) (ps : List ByteArray), (l.foldl (fun ps x => ps.set x.1 (zak d x.1 x.2)) ps).length = ps.length by rw [this]; simp
 intro l
 induction l with
 | nil => intro ps; rfl
 | cons x l ih => intro ps; rw [List.foldl_cons, ih]; simp
theorem zdv {N : Nat} (c : Fin N -> ByteArray) (j : Fin N) : ∀ (l : List (Fin N)) (ps : List ByteArray), ps.length = N -> (l.foldl (fun ps x => ps.set x.1 (c x)) ps)[j.1]? = if j ∈ l then some (c j) else ps[j.1]?
 | [], ps, _ => by simp
 | x :: l, ps, h => by
  rw [List.foldl_cons, zdv c j l _ (by simpa using h)]
  by_cases h1 : j ∈ l
  . simp [h1]
  .
   by_cases h2 : j = x
   . subst h2; simp [h1, h, j.2]
   . have h3 : x.1 ≠ j.1 := fun e => h2 (Fin.ext e.symm);simp [h1, h2, List.getElem?_set_ne h3]
theorem zjx (d : Dsk) : fillP d (List.finRange d.pages.length) = zaC d := by
 apply List.ext_getElem?;intro j
 by_cases hj : j < d.pages.length
 . have := zdv (fun x => zak d x.1 x.2) ⟨j, hj⟩ (List.finRange d.pages.length) (List.replicate d.pages.length ByteArray.empty) (by simp);rw [if_pos (List.mem_finRange _)] at this;unfold fillP zaC;rw [this];simp [hj]
 . rw [List.getElem?_eq_none (by rw [zeU]; omega), List.getElem?_eq_none (by simp [zaC]; omega)]
theorem ze9 {i : Int} {z : Int} {l : List PW} (h : ∀ x ∈ l, (x.data.size : Int) = z) : ∀ s : ByteArray, (s.size : Int) = z -> ((lastW i l s).size : Int) = z := by
 induction l with
 | nil => intro s hs; exact hs
 | cons x l ih =>
  intro s hs;rw [lastW];refine ih (fun y hy => h y (by simp [hy])) _ ?_;split
  . exact h x (by simp)
  . exact hs
theorem zdo {d : Dsk} (hp : ∀ s ∈ d.pages, (s.size : Int) = d.size) (hc : ∀ x ∈ d.cache, (x.data.size : Int) = d.size) : ∀ s ∈ zaC d, (s.size : Int) = d.size := by
 intro s hs;obtain ⟨i, _, rfl⟩ := List.mem_map.1 hs;exact ze9 hc _ (hp _ (List.getElem_mem _))
theorem zbw (d : Dsk) : (zaC d).length = d.pages.length := by simp [zaC]
theorem zl2 {d : Dsk} {o : Option Addr} {c : Nat} {l : Int} (hp : ∀ s ∈ d.pages, (s.size : Int) = d.size) (hc : ∀ x ∈ d.cache, (x.data.size : Int) = d.size) (hn : d.pages.length <= 2000) (hs : d.size <= 512) (hm : d.pages.length <= maxLen) (hl : -9223372036854775808 <= l /\ l <= 9223372036854775807)
  {b : Nat} (ho : o = some ⟨b, 0, none⟩ := by rfl) (hcc : c = d.pages.length := by rfl) : DskOk ⟨d.size, zaC d, [], l⟩ o none c 0 :=
 ⟨.inr ⟨_, ho, by rw [zbw, hcc]; exact Nat.le_refl _, by rw [hcc]; exact hm⟩, .inl ⟨rfl, rfl, rfl⟩, by simp only [zbw]; omega, by simp, fun s h => by have := zdo hp hc s h; omega, by simp, hl⟩
section
attribute [local go_sem] Oper.semAt_some
set_option maxRecDepth 100000 in
set_option maxHeartbeats 4000000 in
theorem zf7 (d : Dsk) (v : Value) (w : World) {S : Nat -> Prop} (hS : InS S w) (hD : DskR S w v d) (hz : (chk d != 0) = false) (g4 : (d.left == 0) = false) :
  Calls Tryz.prog 84 #[v] w (RetDE S w ⟨d.size, zaC d, [], (opD d).left⟩ 0) := by
 obtain ⟨v1, v2, v3, v4⟩ := zaq (by simpa using hz);have hr := zag v1;have hD0 := hD;obtain ⟨po, pc, co, cc, rfl, hp, hc, ok⟩ := hD;have ok1 := ok.pages;have okW := zhI ok;clear ok hp hc;obtain ⟨i0, hi, hz0', hz1, hz2⟩ := info_parts zjS;have hbw : ∀ o o', Below w.heap.size w ((w.alloc o).alloc o') := fun o o' => ((Below.refl _ _).alloc (Nat.le_refl _) _).alloc (by simp) _;have hpw : ∀ (W : World) (v : Value), DskR S W v d -> Calls Tryz.prog 125 #[v] W (RetDB S W (opD d) true) := fun W v h => by have := zcC d v W h; rw [if_neg (by simpa using g4), g4] at this; exact this
 obtain ⟨n, hn⟩ : ∃ n, 9 <= n := ⟨9, Nat.le_refl _⟩;refine (callsIn_wide (n := n)).1 ?_;have hro : Fence.wide.round = none := rfl;have h1 : 1 <= n := by omega
 refine callsIn_of_wp_marks Tryz.func84 rfl trivial ?_ hro;simp only [Tryz.ntmps84, List.size_toArray, zlC, List.length_nil, Nat.reduceAdd, Nat.reduceSub, Array.replicate_succ, Array.replicate_zero, List.push_toArray, List.append_toArray, List.nil_append, List.cons_append];gi_wp2_with (refine ⟨trivial, ?_⟩; gi_at_call 43; refine (callsIn_wide.2 (zaN d _ _ (hD0.below (hbw _ _)))).mono ?_);rintro e w1 ⟨rfl, hb1⟩;have xA := ((Bx.new w _ _).alloc _).belowAll hb1;have xR := (Bx.new (w.alloc _) _ _).belowAll hb1;rw [World.size_alloc] at xR;have cA := xA.cell;have fA := xA.free;have cR := xR.cell;have fR := xR.free;have hB : Below w.heap.size w w1 := (hbw _ _).trans (hb1.mono (by simp; omega));have hlA := xA.lt;have hlR := xR.lt;gi_wp2_with (refine ⟨trivial, ?_⟩; gi_at_call 125; refine (callsIn_wide.2 (hpw _ _ ((hD0.below (hbw _ _)).below hb1))).mono ?_);rintro e w2 ⟨vv2, rfl, hD2, hb2⟩;have xA2 := xA.belowAll hb2;have xR2 := xR.belowAll hb2;have hB2 : Below w.heap.size w w2 := hB.trans (hb2.mono (by omega));clear cA fA cR fR;have hE2 := hD2;obtain ⟨po2, pc2, co2, cc2, rfl, hp2, hc2, ok2⟩ := hD2;have cA := xA2.cell;have fA := xA2.free;have cR := xR2.cell;have fR := xR2.free;have hlA2 := xA2.lt;have hlR2 := xR2.lt;have nA : ¬ Gr S w1 w2 w.heap.size := by rintro (h | h); exact absurd (hS _ h) (by omega); omega
 have nR : ¬ Gr S w1 w2 (w.heap.size + 1) := by rintro (h | h); exact absurd (hS _ h) (by omega); omega
 have hvh := zhI (zaI v2 v3);have hp2000 : d.pages.length <= 2000 := by omega
 clear v2 v3;gi_wp2_with (first
  | (refine zeY rfl (.tmp 22) (.tmp 22) 22 rfl 9 i0 _ 16 Tryz.underlying22 hi hz0' hz1 hz2 rfl d.pages.length rfl rfl (by omega) (by omega) ?_; intro w3 xG hg3 hz3'; have xA3 := (xA2.set4).grown hg3 (by simp); have xR3 := (xR2.setO4 (b' := w.heap.size) (by simp)).grown hg3 (by simp); have hB3 := (zaB (b := w.heap.size) hB2 (Nat.le_refl _)).grown hg3 (by simp; omega) (by simp); have hp3 := (hp2.same ((Same.refl _ _).set4 nA)).same (Same.of_grown hg3 (fun b h => by rcases h with h | h; exact znL (hS _ h) (by simp; omega); simp; omega) (by simp)); clear cA fA cR fR; have cA := xA3.cell; have fA := xA3.free; have cR := xR3.cell; have fR := xR3.free; have hlA3 := xA3.lt; have hlR3 := xR3.lt)
  | (refine ⟨trivial, ?_⟩; gi_at_call 127; refine (zm5 Fence.wide _ trivial hro _ _ _ _ _).mono ?_; rintro e w' ⟨rfl, rfl⟩))
 have hz3 : w3.heap.size = w2.heap.size + 1 := by simpa using hz3'
 obtain ⟨W0, hW0⟩ : ∃ W0, (w3.alloc (.cells #[.slice (some ⟨w2.heap.size, 0, none⟩) d.pages.length d.pages.length] 22)).alloc (.cells #[.int .i64 (opD d).size, .slice po2 (opD d).pages.length pc2, .slice co2 (opD d).cache.length cc2, .int .i64 (opD d).left] 25) = W0 := ⟨_, rfl⟩;have yG : Bx W0 w2.heap.size (List.replicate d.pages.length (Value.string .empty)).toArray 9 := by rw [<- hW0]; simp only [World.size_setCell] at xG; exact (xG.alloc _).alloc _
 have yS : Bx W0 (w2.heap.size + 1) #[.slice (some ⟨w2.heap.size, 0, none⟩) d.pages.length d.pages.length] 22 := by rw [<- hW0]; exact (Bx.newAt _ _ _ _ hz3.symm).alloc _
 have yB : Bx W0 (w2.heap.size + 1 + 1) #[.int .i64 (opD d).size, .slice po2 (opD d).pages.length pc2, .slice co2 (opD d).cache.length cc2, .int .i64 (opD d).left] 25 := by rw [<- hW0]; exact Bx.newAt _ _ _ _ (by simp [hz3])
 have yA := (xA3.alloc (.cells #[.slice (some ⟨w2.heap.size, 0, none⟩) d.pages.length d.pages.length] 22)).alloc (.cells #[.int .i64 (opD d).size, .slice po2 (opD d).pages.length pc2, .slice co2 (opD d).cache.length cc2, .int .i64 (opD d).left] 25);have yR := (xR3.alloc (.cells #[.slice (some ⟨w2.heap.size, 0, none⟩) d.pages.length d.pages.length] 22)).alloc (.cells #[.int .i64 (opD d).size, .slice po2 (opD d).pages.length pc2, .slice co2 (opD d).cache.length cc2, .int .i64 (opD d).left] 25);rw [hW0] at yA yR;have hB0 : Below w.heap.size w W0 := by rw [<- hW0]; exact (hB3.alloc (by omega) _).alloc (by simp; omega) _
 have hSm : Same (Gr S w1 w2) w2 W0 := by
  rw [<- hW0];have hI : InS (Gr S w1 w2) w2 := fun b h => by rcases h with h | h; exact znL (hS _ h) (by omega); omega
  have h3 : Same (Gr S w1 w2) w2 w3 := ((Same.refl _ _).set4 nA).grown hg3 (hI.size (by simp)) (by simp);exact (h3.alloc (hI.size (by omega)) _).alloc (hI.size (by simp; omega)) _
 have hs0 : W0.heap.size = w2.heap.size + 3 := by rw [<- hW0]; simp [hz3]
 have hI2 : InS (Gr S w1 w2) w2 := fun b h => by rcases h with h | h; exact znL (hS _ h) (by omega); omega
 have hp0 : zaS (Gr S w1 w2) W0 po2 (opD d).pages := hp2.same hSm;have hc0 : PWsAt (Gr S w1 w2) W0 co2 (opD d).cache := hc2.same hSm;rw [hW0];have hs0h := zhI hs0;clear hW0 xA xR xA2 xR2 xA3 xR3 xG cA fA cR fR hB3 hp3 hg3;refine zgi hro h1 (gf := 176) (lb := #[.pointer (some ⟨w2.heap.size + 1 + 1, 0, none⟩)]) rfl trivial (enters_of Tryz.func176 (by kernel_rfl) rfl)
  (encs := fun x : Fin d.pages.length => #[Value.int .i64 (x.1 : Int), .string (zak d x.1 x.2)]) (T := fun b => Gr S w1 w2 b \/ W0.heap.size + 2 <= b) (S := fun ys => ys = List.finRange d.pages.length) (N := d.pages.length)
  (fun W1 hz1 hb1 => zju Fence.wide (n - 1) trivial hro (by omega) (w2.heap.size + 1 + 1) (opD d) po2 co2 pc2 cc2 (S := Gr S w1 w2) _ W1 ok2 (fun x hx => ⟨(hvh.out.2 x hx).1, (hvh.out.2 x hx).2.1⟩) (fun b => .inl) (fun b h => .inr (by omega)) (hp0.below hb1) (hc0.below hb1) (yB.belowAll hb1))
  (by rintro (h | h); exact absurd (hI2 _ h) (by omega); omega) (fun _ => rfl)
  (fun pre W => Bx W w2.heap.size ((fillP d pre).map Value.string).toArray 9 /\ Bx W (w2.heap.size + 1) #[.slice (some ⟨w2.heap.size, 0, none⟩) d.pages.length d.pages.length] 22 /\ Bx W w.heap.size #[.int .i64 (opD d).size, .slice po2 (opD d).pages.length pc2, .slice co2 (opD d).cache.length cc2, .int .i64 (opD d).left] 25 /\ Bx W (w.heap.size + 1) #[.int .i64 0, .slice none 0 0, .slice none 0 0, .int .i64 0] 25 /\ Below w.heap.size w W)
  (fun pre W W' row h hg hr => ⟨h.1.grown hg (fun e => by have := hr _ e.symm; omega), h.2.1.grown hg (fun e => by have := hr _ e.symm; omega), h.2.2.1.grown hg (fun e => by have := hr _ e.symm; omega), h.2.2.2.1.grown hg (fun e => by have := hr _ e.symm; omega), h.2.2.2.2.grown hg h.2.2.2.2.size (fun k e => by have := hr _ e; omega)⟩)
  ⟨by simpa [fillP] using yG, yS, yA, yR, hB0⟩
  (fun x => { tmps := #[.agg #[.int .i64 d.size, .slice po d.pages.length pc, .slice co d.cache.length cc, .int .i64 d.left], .pointer (some ⟨w.heap.size, 0, none⟩), .pointer (some ⟨w.heap.size + 1, 0, none⟩), .int .i64 0, .bool true, .pointer (some ⟨w2.heap.size + 1, 0, none⟩), .int .i64 (x.1 : Int), .string (zak d x.1 x.2), .agg #[.int .i64 d.size, .slice po d.pages.length pc, .slice co d.cache.length cc, .int .i64 d.left], .int .i64 (chk d), .bool false, undef, .tuple #[.agg #[.int .i64 (opD d).size, .slice po2 (opD d).pages.length pc2, .slice co2 (opD d).cache.length cc2, .int .i64 (opD d).left], .bool true], .agg #[.int .i64 d.size, .slice po d.pages.length pc, .slice co d.cache.length cc, .int .i64 d.left], .tuple #[.agg #[.int .i64 (opD d).size, .slice po2 (opD d).pages.length pc2, .slice co2 (opD d).cache.length cc2, .int .i64 (opD d).left], .bool true], .agg #[.int .i64 (opD d).size, .slice po2 (opD d).pages.length pc2, .slice co2 (opD d).cache.length cc2, .int .i64 (opD d).left], .bool true, .bool true, .bool false, undef, .pointer (some ⟨w.heap.size, 1, none⟩), .slice po2 (opD d).pages.length pc2, .int .i64 (opD d).pages.length, .slice (some ⟨w2.heap.size, 0, none⟩) d.pages.length d.pages.length, .agg #[.int .i64 (opD d).size, .slice po2 (opD d).pages.length pc2, .slice co2 (opD d).cache.length cc2, .int .i64 (opD d).left], .func (.func 176) #[] #[.pointer (some ⟨w2.heap.size + 1 + 1, 0, none⟩)], .int .i64 (x.1 : Int), .string (zak d x.1 x.2), undef, undef, undef, undef, undef, undef, undef, undef], defers := [] }) ?assign ?body ?done
 case assign => intro l x W K hK;gi_wp2;exact hK
 case body =>
  rintro l pre x W ⟨bG, bS, bA, bR, hB⟩ hlt;have cS := bS.cell 0;simp at cS;have hx := x.2;have gfree := bG.free x.1;have gcell : W.cell? ⟨w2.heap.size, x.1, none⟩ = some (.string ((fillP d pre)[x.1]'(by rw [zeU]; exact x.2))) := by rw [bG.cell]; simp [zeU]
  have hlG := bG.lt;gi_wp2;have hne : ∀ b, (Gr S w1 w2 b \/ W0.heap.size + 2 <= b) -> b ≠ w2.heap.size := by
   rintro b (h | h) e
   . have := hI2 _ h; omega
   . have := hs0h.out; omega
  refine ⟨Below.heap_setCell W _ _ _ (by simp; have := hs0h.out; omega), Below.heap_setCell W _ _ _ (by simp; have := hs0h.out; omega), KeepT.set W _ (fun h => hne _ h rfl), ?_, bS.setO (by simp) _, bA.setO (by simp; omega) _, bR.setO (by simp; omega) _, zaa (b := w2.heap.size) hB (by omega)⟩;have := bG.set x.1 (Value.string (zak d x.1 x.2));simpa [zjg, List.map_set] using this
 case done =>
  rintro xs W rfl ⟨bG, bS, bA, bR, hB⟩ hK;rw [zjx] at bG;have cS := bS.cell 0;have cA := bA.cell;have fA := bA.free;have cR := bR.cell;have fR := bR.free;have hlA := bA.lt;have hlR := bR.lt;simp at cS;have hOk : DskOk ⟨d.size, zaC d, [], (opD d).left⟩ (some ⟨w2.heap.size, 0, none⟩) none d.pages.length 0 := zl2 hvh.out.1 (fun x hx => (hvh.out.2 x hx).2.2) hp2000 hr.2.2.2 (by simp [maxLen]; omega) ok2.left;gi_wp2;have h0 : w2.heap.size ≠ w.heap.size := by omega
  have h01 : w2.heap.size ≠ w.heap.size + 1 := by omega
  have zG := ((bG.setO (a := ⟨w.heap.size, 1, none⟩) h0 (.slice (some ⟨w2.heap.size, 0, none⟩) d.pages.length d.pages.length)).setO (a := ⟨w.heap.size, 2, none⟩) h0 (.slice none 0 0)).setO4 (v0 := .int .i64 (opD d).size) (v1 := .slice (some ⟨w2.heap.size, 0, none⟩) d.pages.length d.pages.length) (v2 := .slice none 0 0) (v3 := .int .i64 (opD d).left) h01;have zR := (((bR.setO (a := ⟨w.heap.size, 1, none⟩) (by simp) (.slice (some ⟨w2.heap.size, 0, none⟩) d.pages.length d.pages.length)).setO (a := ⟨w.heap.size, 2, none⟩) (by simp) (.slice none 0 0))).set4 (v0 := .int .i64 (opD d).size) (v1 := .slice (some ⟨w2.heap.size, 0, none⟩) d.pages.length d.pages.length) (v2 := .slice none 0 0) (v3 := .int .i64 (opD d).left);have zB := zaB (b := w.heap.size + 1) (v0 := .int .i64 (opD d).size) (v1 := .slice (some ⟨w2.heap.size, 0, none⟩) d.pages.length d.pages.length) (v2 := .slice none 0 0) (v3 := .int .i64 (opD d).left) (zaa (b := w.heap.size) (k := 2) (v := .slice none 0 0) (zaa (b := w.heap.size) (k := 1) (v := .slice (some ⟨w2.heap.size, 0, none⟩) d.pages.length d.pages.length) hB (by omega)) (by omega)) (by omega);have zK := (((((((KeepsOthers.setCell W ⟨w.heap.size, 1, none⟩ (.slice (some ⟨w2.heap.size, 0, none⟩) d.pages.length d.pages.length)).trans (KeepsOthers.setCell _ ⟨w.heap.size, 2, none⟩ (.slice none 0 0))).trans (KeepsOthers.setCell _ ⟨w.heap.size + 1, 0, none⟩ (.int .i64 (opD d).size))).trans (KeepsOthers.setCell _ ⟨w.heap.size + 1, 1, none⟩ (.slice (some ⟨w2.heap.size, 0, none⟩) d.pages.length d.pages.length))).trans (KeepsOthers.setCell _ ⟨w.heap.size + 1, 2, none⟩ (.slice none 0 0))).trans (KeepsOthers.setCell _ ⟨w.heap.size + 1, 3, none⟩ (.int .i64 (opD d).left)))).same _ _ hK rfl;have hzW : W0.heap.size < W.heap.size := (Array.getElem?_eq_some_iff.1 hK).1
  revert zG zR zB zK
  generalize hWf : ((((((W.setCell _ _).setCell _ _).setCell _ _).setCell _ _).setCell _ _).setCell _ _) = Wf;intro zG zR zB zK;have hzf : W0.heap.size < Wf.heap.size := (Array.getElem?_eq_some_iff.1 zK).1;refine ⟨by simp, .inl ⟨_, _, rfl, run_takeDeferred zK, ?_⟩⟩;have zR' := zbJ zR (grownBy_putObj' _ W0.heap.size (.deferred none)) (fun r e => by cases e; exact ⟨_, zK, rfl⟩);have zG' := zbJ zG (grownBy_putObj' _ W0.heap.size (.deferred none)) (fun r e => by cases e; exact ⟨_, zK, rfl⟩);have cZ := zR'.cell;refine ⟨.tuple #[.agg #[.int .i64 (opD d).size, .slice (some ⟨w2.heap.size, 0, none⟩) d.pages.length d.pages.length, .slice none 0 0, .int .i64 (opD d).left], .int .i64 0], ?_, ?_⟩
  . simp [results, Tryz.f84, go_sem, cZ]
  . refine ⟨_, rfl, ⟨some ⟨w2.heap.size, 0, none⟩, d.pages.length, none, 0, by simp [zaC, opD], ?_, by intro i h; simp at h, hOk⟩, zB.trans (belowK_b (w := w) (Nat.le_refl _) Wf W0.heap.size _ _ (by omega) zK rfl rfl)⟩;refine zaS.mono (S := (· = w2.heap.size)) (.of_row (by simpa using RowAt.bx zG')) (fun b h => Gr.new (by omega) (by simp; omega))
end
end Go.Proofs.YtlefmmhlpgmbjaaGreat
namespace Go.Proofs.YtlefmmhlpgmbjaaGreat
set_option maxRecDepth 100000
open Go.RowKit
set_option maxHeartbeats 1000000 in
theorem zjp (d : Dsk) (v : Value) (w : World) {S : Nat -> Prop} (hS : InS S w) (hD : DskR S w v d) :
  Calls Tryz.prog 84 #[v] w (RetDE S w (zbi d).1 (zbi d).2) := by
 have hbw : ∀ o o', Below w.heap.size w ((w.alloc o).alloc o') := fun o o' => ((Below.refl _ _).alloc (Nat.le_refl _) _).alloc (by simp) _;unfold zbi;cases hz : (chk d != 0)
 .
  rw [if_neg (by simpa using hz)];cases g4 : (d.left == 0)
  . rw [if_neg (by simpa using g4)];exact zf7 d v w hS hD hz g4
  .
   rw [if_pos (by simpa using g4)];have hD0 := hD;obtain ⟨po, pc, co, cc, rfl, hp, hc, ok⟩ := hD;clear hp hc ok;have hpw : ∀ (W : World) (v : Value), DskR S W v d -> Calls Tryz.prog 125 #[v] W (RetDB S W d false) := fun W v h => by have := zcC d v W h; rw [if_pos (by simpa using g4), g4] at this; exact this
   go_enter Tryz.func84, Tryz.ntmps84;go_wp2_with fail;refine (zaN d _ _ (hD0.below (hbw _ _))).mono ?_;rintro e w1 ⟨rfl, hb1⟩;have xA := ((Bx.new w _ _).alloc _).belowAll hb1;have xR := (Bx.new (w.alloc _) _ _).belowAll hb1;rw [World.size_alloc] at xR;have cA := xA.cell;have fA := xA.free;have cR := xR.cell;have fR := xR.free;have hB : Below w.heap.size w w1 := (hbw _ _).trans (hb1.mono (by simp; omega));have hlA := xA.lt;have hlR := xR.lt;go_wp2_with fail;refine (hpw _ _ ((hD0.below (hbw _ _)).below hb1)).mono ?_;rintro e w2 ⟨v2, rfl, hD2, hb2⟩;have xA2 := xA.belowAll hb2;have xR2 := xR.belowAll hb2;have hB2 : Below w.heap.size w w2 := hB.trans (hb2.mono (by omega));clear cA fA cR fR;have hE2 := hD2;obtain ⟨po2, pc2, co2, cc2, rfl, hp2, hc2, ok2⟩ := hD2;have cA := xA2.cell;have fA := xA2.free;have cR := xR2.cell;have fR := xR2.free;have hlA2 := xA2.lt;have hlR2 := xR2.lt;have nA : ¬ Gr S w1 w2 w.heap.size := by rintro (h | h); exact absurd (hS _ h) (by omega); omega
   have nR : ¬ Gr S w1 w2 (w.heap.size + 1) := by rintro (h | h); exact absurd (hS _ h) (by omega); omega
   go_wp2;refine bodyPost_ret (v := .tuple #[.agg #[.int .i64 d.size, .slice po2 d.pages.length pc2, .slice co2 d.cache.length cc2, .int .i64 d.left], .int .i64 18]) (by simp [results, Tryz.results84, go_sem, cR]) rfl ?_;refine ⟨_, rfl, (hE2.same ?_).mono ?_, ?_⟩
   . exact ((Same.refl _ _).set4 nA).set4 nR
   .
    rintro b (h | h)
    . exact .inl h
    . exact .inr (by simp; omega)
   . exact zaB (b := w.heap.size + 1) (zaB (b := w.heap.size) hB2 (Nat.le_refl _)) (by omega)
 . rw [if_pos (by simpa using hz)];have hD0 := hD;obtain ⟨po, pc, co, cc, rfl, hp, hc, ok⟩ := hD;go_enter Tryz.func84, Tryz.ntmps84;go_wp2_with fail;refine (zaN d _ _ (hD0.below (hbw _ _))).mono ?_;rintro e w1 ⟨rfl, hb1⟩;have xR := (Bx.new (w.alloc _) _ _).belowAll hb1;rw [World.size_alloc] at xR;have cR := xR.cell;have fR := xR.free;have hB : Below w.heap.size w w1 := (hbw _ _).trans (hb1.mono (by simp; omega));go_wp2;refine bodyPost_ret (v := .tuple #[.agg #[.int .i64 0, .slice none 0 0, .slice none 0 0, .int .i64 0], .int .i64 1]) (by simp [results, Tryz.results84, go_sem, cR]) rfl ?_;exact ⟨_, rfl, zba _, zaB (b := w.heap.size + 1) hB (by omega)⟩
structure Lat (W : World) where
 w : World
 h : Below W.heap.size W w
instance (W : World) : Nonempty (Lat W) := ⟨⟨W, Below.refl _ _⟩⟩
theorem zay {P : Program} {id : Nat} {Q : Exit -> Act -> World -> Prop} {a : Act} {w : World} {l : List Oper} (hm : P.follows .mixedOrders = true) (hB : Region.lexB .any l.toArray = true)
  (h : wpQuiet P l.toArray (fun w' => ∃ x : Lat w, w' = x.w) (fun a' => ∀ w', (∃ x : Lat w, w' = x.w) -> Q .normal a' w') l a) : (Code.region id l.toArray true).wp P Q a w :=
 wp_region_quiet (C := fun w' => ∃ x : Lat w, w' = x.w) hm hB ⟨⟨_, (Below.refl _ _).drew⟩, rfl⟩ (by simpa using h)
theorem Calls.lat {P : Program} {f : FuncId} {args : Array Value} {W : World} {x : Lat W} {v : Value}
  (h : Calls P f args x.w fun e w' => e = .returned v /\ Below x.w.heap.size x.w w') : Calls P f args x.w fun e w' => e = .returned v /\ ∃ y : Lat W, w' = y.w :=
 h.mono fun _ _ ⟨he, hb⟩ => ⟨he, ⟨_, x.h.trans (hb.mono x.h.size)⟩, rfl⟩
theorem Lat.cells (W : World) : ∀ (x : Lat W) (b o : Nat), b < W.heap.size -> x.w.cell? ⟨b, o, none⟩ = W.cell? ⟨b, o, none⟩ := fun x _ _ h => x.h.cell (p := ⟨_, _, none⟩) h
theorem Below.one (w : World) (o : Obj) : Below w.heap.size w (w.alloc o) := (Below.refl _ _).alloc (Nat.le_refl _) _
theorem Below.then {w w1 w2 : World} {B : Nat} (h : Below B w w1) (k : Below w1.heap.size w1 w2) (hB : B <= w1.heap.size) : Below B w w2 := h.trans (k.mono hB)
theorem zmV {size : Int} {l : List ByteArray} (h : ∀ s ∈ l, (s.size : Int) = size) : chkP size l = true := by
 induction l with
 | nil => rfl
 | cons x l ih => simp [chkP, h x (by simp), ih (fun s hs => h s (by simp [hs]))]
theorem zmO {n : Nat} {size : Int} {l : List PW} (h : ∀ x ∈ l, 0 <= x.page /\ x.page < n /\ (x.data.size : Int) = size) : chkC n size l = 0 := by
 induction l with
 | nil => rfl
 | cons x l ih => obtain ⟨a, b, c⟩ := h x (by simp);rw [chkC, if_neg (by omega), if_neg (by simp [c])];exact ih (fun s hs => h s (by simp [hs]))
theorem ziN {d : Dsk} (h1 : zaU d.pages.length d.size = true) (h2 : ∀ s ∈ d.pages, (s.size : Int) = d.size) (h3 : ∀ x ∈ d.cache, 0 <= x.page /\ x.page < d.pages.length /\ (x.data.size : Int) = d.size) (h4 : -1 <= d.left) : chk d = 0 := by
 unfold chk;rw [if_neg (by simp [h1]), if_neg (by simp [zmV h2]), if_neg (by simp [zmO h3]), if_neg (by omega)]
theorem zbk {picks : List Int} {size : Int} : ∀ (l : List PW) (k : Nat) (ps : List ByteArray), (zbj picks size k l ps).length = ps.length
 | [], _, _ => rfl
 | x :: r, k, ps => by rw [zbj, zbk r]; simp
theorem ze8 {α : Type} {P : α -> Prop} {l : List α} {i : Nat} {x : α} (h : ∀ y ∈ l, P y) (hx : P x) : ∀ y ∈ l.set i x, P y := by
 intro y hy;rcases List.mem_or_eq_of_mem_set hy with h' | rfl
 . exact h y h'
 . exact hx
theorem zeA {z : Int} {ps : List ByteArray} {i : Nat} (h : ∀ s ∈ ps, (s.size : Int) = z) (hi : i < ps.length) : ((ps.getD i ByteArray.empty).size : Int) = z := by
 simp only [List.getD, List.getElem?_eq_getElem hi, Option.getD_some];exact h _ (List.getElem_mem _)
theorem zei {picks : List Int} {k : Nat} {z : Int} {s : ByteArray} (hz : 0 <= z) (h : (s.size : Int) = z) : (zeL picks k z).toNat <= s.size := by
 have := (zjL picks k z hz).2;omega
theorem zce {picks : List Int} {z : Int} (hz : 0 <= z) : ∀ (l : List PW) (k : Nat) (ps : List ByteArray), (∀ s ∈ ps, (s.size : Int) = z) -> (∀ x ∈ l, 0 <= x.page /\ x.page < ps.length /\ (x.data.size : Int) = z) -> ∀ s ∈ zbj picks z k l ps, (s.size : Int) = z
 | [], _, _, hp, _ => hp
 | x :: r, k, ps, hp, hl => by obtain ⟨h1, h2, h3⟩ := hl x (by simp);rw [zbj];refine zce hz r (k + 1) _ (ze8 hp ?_) (fun y hy => by have := hl y (by simp [hy]); simpa using this);have hg := zeA (i := x.page.toNat) hp (by omega);rw [zgI (zei hz h3) (by omega)];exact hg
theorem zjZ {d : Dsk} (h : chk d = 0) (picks : List Int) : chk (zaM d picks) = 0 := by
 obtain ⟨h1, h2, h3, h4⟩ := zaq h;have hr := zag h1;unfold zaM;rw [if_neg (by simp [h])];refine ziN ?_ ?_ (by simp) (by simp)
 . simpa [zbk] using h1
 . exact zce (by omega) d.cache 0 d.pages h2 h3
theorem zeB {d : Dsk} (h : chk d = 0) (picks : List Int) : (zaM d picks).pages.length = d.pages.length := by
 unfold zaM;rw [if_neg (by simp [h])];exact zbk _ _ _
theorem zi8 {d : Dsk} (h : chk d = 0) (picks : List Int) : (zaM d picks).size = d.size := by
 unfold zaM;rw [if_neg (by simp [h])]
theorem zkB {d : Dsk} (h : chk d = 0) (l : Int) (hl : -1 <= l) : chk ⟨d.size, zaC d, [], l⟩ = 0 := by
 obtain ⟨h1, h2, h3, h4⟩ := zaq h;refine ziN ?_ ?_ (by simp) hl
 . simpa [zbw] using h1
 . exact zdo h2 (fun x hx => (h3 x hx).2.2)
theorem zia {d : Dsk} (h : -1 <= d.left) : -1 <= (opD d).left := by unfold opD; simp only; split <;> omega
theorem zkp {d : Dsk} (h : chk d = 0) {i : Int} {data : ByteArray} (h1 : 0 <= i) (h2 : i < d.pages.length) (h3 : (data.size : Int) = d.size) : chk { opD d with cache := d.cache ++ [⟨i, data⟩] } = 0 := by
 obtain ⟨g1, g2, g3, g4⟩ := zaq h;refine ziN g1 g2 ?_ (zia g4);intro x hx;rcases zmA.1 hx with hx | hx
 . exact g3 x hx
 . obtain rfl := zmS.1 hx;exact ⟨h1, h2, h3⟩
theorem zfT {d : Dsk} (h : chk d = 0) {k : Nat} (hk : k < d.pages.length) : readD d k = (zak d k hk, 0) := by
 unfold readD;rw [if_neg (by simp [h]), if_neg (by omega)];simp [hk]
theorem zh1 (d : Dsk) : ((zbi d).2 = 1 /\ chk d ≠ 0 /\ (zbi d).1 = zeroD) \/ ((zbi d).2 = 18 /\ chk d = 0 /\ d.left = 0 /\ (zbi d).1 = d) \/ ((zbi d).2 = 0 /\ chk d = 0 /\ d.left ≠ 0 /\ (zbi d).1 = ⟨d.size, zaC d, [], (opD d).left⟩) := by
 unfold zbi
 by_cases h : chk d ≠ 0
 . simp [h]
 . by_cases h' : d.left = 0 <;> simp [h, h'] <;> simpa using h
theorem zh6 (d : Dsk) (i : Int) (data : ByteArray) : ((zbc d i data).2 ≠ 0 /\ (zbc d i data).2 ≠ 18 /\ (zbc d i data).1 = zeroD) \/
  (chk d = 0 /\ 0 <= i /\ i < d.pages.length /\ (data.size : Int) = d.size /\ (((zbc d i data).2 = 18 /\ d.left = 0 /\ (zbc d i data).1 = d) \/ ((zbc d i data).2 = 0 /\ d.left ≠ 0 /\ (zbc d i data).1 = { opD d with cache := d.cache ++ [⟨i, data⟩] }))) := by
 unfold zbc
 by_cases h : chk d ≠ 0
 . simp [h]
 .
  by_cases h1 : i < 0 \/ (d.pages.length : Int) <= i
  . simp [h, h1]
  .
   by_cases h2 : (data.size : Int) ≠ d.size
   . rw [if_neg h, if_neg h1, if_pos h2]; simp
   .
    right;refine ⟨by simpa using h, by omega, by omega, by simpa using h2, ?_⟩;rw [if_neg h, if_neg h1, if_neg h2]
    by_cases h3 : d.left = 0 <;> simp [h3]
theorem zfU {d : Dsk} {i : Int} {data : ByteArray} {k : Nat} (hk : k < d.pages.length) (e : Dsk) (he : e = { opD d with cache := d.cache ++ [⟨i, data⟩] }) (hk' : k < e.pages.length) :
  zak e k hk' = if i = k then data else zak d k hk := by
 subst he;unfold zak;simp only [opD];rw [zhs];rfl
theorem zfQ {d : Dsk} {l : Int} {k : Nat} (hk : k < d.pages.length) (e : Dsk) (he : e = ⟨d.size, zaC d, [], l⟩) (hk' : k < e.pages.length) : zak e k hk' = zak d k hk := by
 subst he;simp [zak, zaC, lastW]
theorem zjm {picks : List Int} {z : Int} {ps : List ByteArray} : zbj picks z 0 [] ps = ps := rfl
theorem zfL {d : Dsk} (h : chk d = 0) (picks : List Int) {k : Nat} (hk' : k < (zaM d picks).pages.length) :
  zak (zaM d picks) k hk' = (zbj picks d.size 0 d.cache d.pages)[k]'(by rw [zbk]; rwa [zeB h] at hk') := by
 have e : zaM d picks = ⟨d.size, zbj picks d.size 0 d.cache d.pages, [], -1⟩ := by unfold zaM; rw [if_neg (by simp [h])]
 have : ∀ (e' : Dsk) (hk'' : k < e'.pages.length), e' = ⟨d.size, zbj picks d.size 0 d.cache d.pages, [], -1⟩ -> zak e' k hk'' = (zbj picks d.size 0 d.cache d.pages)[k]'(by rw [zbk]; rwa [zeB h] at hk') := by rintro e' hk'' rfl;simp [zak, lastW]
 exact this _ hk' e
def zch (s : ByteArray) (i : Nat) : UInt8 := s.data[i]?.getD 0
theorem zhT {n : Nat} {a b : ByteArray} (h : n <= a.size) (i : Nat) : zch (tear n a b) i = zch (if i < n then a else b) i \/ b.size < n := by
 by_cases hb : b.size < n
 . exact .inr hb
 .
  left;unfold zch tear;rw [ByteArray.data_append, ByteArray.data_extract, ByteArray.data_extract];rw [Array.getElem?_append];have e1 : (a.data.extract 0 n).size = n := by simp; omega
  rw [e1]
  by_cases hi : i < n
  . rw [if_pos hi, if_pos hi, Array.getElem?_extract];simp;rw [if_pos (by omega)]
  .
   rw [if_neg hi, if_neg hi, Array.getElem?_extract];simp;have hz : b.data.size = b.size := rfl
   by_cases hib : i < b.size
   . rw [if_pos (by omega)];rw [show n + (i - n) = i from by omega]
   . rw [if_neg (by omega), Array.getElem?_eq_none (by omega)]
theorem zeH {picks : List Int} {z : Int} (hz : 0 <= z) (j i : Nat) : ∀ (l : List PW) (k : Nat) (ps : List ByteArray), (∀ s ∈ ps, (s.size : Int) = z) -> (∀ x ∈ l, 0 <= x.page /\ x.page < ps.length /\ (x.data.size : Int) = z) -> (hj : j < ps.length) ->
  zch ((zbj picks z k l ps).getD j ByteArray.empty) i = zch ps[j] i \/ ∃ x ∈ l, x.page = j /\ zch ((zbj picks z k l ps).getD j ByteArray.empty) i = zch x.data i
 | [], _, ps, _, _, hj => by left; simp [zbj, List.getD, hj]
 | x :: r, k, ps, hp, hl, hj => by
  obtain ⟨h1, h2, h3⟩ := hl x (by simp);have hg := zeA (i := x.page.toNat) hp (by omega);rw [zbj];rcases zeH (picks := picks) hz j i r (k + 1) (ps.set x.page.toNat (tear (zeL picks k z).toNat x.data (ps.getD x.page.toNat ByteArray.empty))) (ze8 hp (by rw [zgI (zei hz h3) (by omega)]; exact hg)) (fun y hy => by have := hl y (by simp [hy]); simpa using this) (by simpa using hj) with h | ⟨y, hy, h⟩
  .
   rw [h, List.getElem_set]
   by_cases hx : x.page.toNat = j
   .
    rw [if_pos hx];have hbz : (ps.getD x.page.toNat ByteArray.empty).size = x.data.size := by omega
    rcases zhT (b := ps.getD x.page.toNat ByteArray.empty) (zei (picks := picks) (k := k) hz h3) i with h' | h'
    .
     rw [h'];split
     . exact .inr ⟨x, by simp, by omega, rfl⟩
     . left;rw [hx];simp [List.getD, hj]
    . exact absurd (zei (picks := picks) (k := k) hz h3) (by omega)
   . rw [if_neg hx]; exact .inl rfl
  . exact .inr ⟨y, by simp [hy], h⟩
theorem btr {w w1 w2 : World} (h : Below w.heap.size w w1) (k : Below w1.heap.size w1 w2) : Below w.heap.size w w2 := Below.then h k h.size
def numC (n k : Nat) : List UInt8 := List.replicate (8 - k) 0 ++ (num8 n).drop (8 - k)
theorem zlJ (n k : Nat) (hk : k < 8) : (zam (numC n k)).toArray[7 - k]? = some (.int .u8 0) := by
 have h : (numC n k)[7 - k]? = some 0 := by unfold numC;rw [List.getElem?_append_left (by rw [List.length_replicate]; omega), List.getElem?_replicate, if_pos (by omega)]
 simp [zam, h]
theorem zmf (n k : Nat) (hk : k < 8) : (zam (numC n k)).toArray.setIfInBounds (7 - k) (.int .u8 ((n : Int) / 2 ^ (8 * k) % 256)) = (zam (numC n (k + 1))).toArray := by
 have e : ((n : Int) / 2 ^ (8 * k) % 256) = ((n / 2 ^ (8 * k) % 256 : Nat) : Int) := by rw [Int.natCast_emod, Int.natCast_ediv, Int.natCast_pow]; rfl
 rw [e];rcases k with _ | _ | _ | _ | _ | _ | _ | _ | k
 case succ => omega
 all_goals simp [zam, numC, num8]
theorem zlY (n : Nat) : numC n 8 = num8 n := by simp [numC]
theorem or8 (m c : Nat) (hm : m < 72057594037927936) (hc : c < 256) : bits .or .i64 (wrap64 ((m : Int) * 256)) (wrap64 (c : Int)) = wrap64 ((m : Int) * 256 + c) := by
 have h1 : (BitVec.ofInt 64 (wrap64 ((m : Int) * 256))).toNat = m * 256 := by rw [BitVec.toNat_ofInt]; unfold wrap64; omega
 have h2 : (BitVec.ofInt 64 (wrap64 (c : Int))).toNat = c := by rw [BitVec.toNat_ofInt]; unfold wrap64; omega
 have h3 : m * 256 ||| c = m * 256 + c := by have := Nat.shiftLeft_add_eq_or_of_lt (b := c) (i := 8) (by omega) m;rw [Nat.shiftLeft_eq] at this;simpa using this.symm
 show IntKind.i64.wrap ((BitVec.ofInt 64 (wrap64 ((m : Int) * 256)) ||| BitVec.ofInt 64 (wrap64 (c : Int))).toNat : Int) = _;rw [BitVec.toNat_or, h1, h2, h3];simp [IntKind.wrap, IntKind.bits, IntKind.signed, wrap64];split <;> omega
theorem zmi (x : Int) : -9223372036854775808 <= wrap64 x /\ wrap64 x <= 9223372036854775807 := by unfold wrap64; omega
theorem or8s (m : Nat) (c : UInt8) (hm : m <= 281474976710656) : bits .or .i64 ((m : Int) * 256) (wrap64 (c.toNat : Int)) = ((m * 256 + c.toNat : Nat) : Int) := by
 have hc := c.toNat_lt;have := or8 m c.toNat (by omega) (by omega);rw [IntWalk.wrap64_in ((m : Int) * 256) (by omega), IntWalk.wrap64_in ((m : Int) * 256 + c.toNat) (by omega)] at this;rw [this];simp
end Go.Proofs.YtlefmmhlpgmbjaaGreat
