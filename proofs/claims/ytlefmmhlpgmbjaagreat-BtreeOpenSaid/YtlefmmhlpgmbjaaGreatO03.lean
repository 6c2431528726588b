/- disk.Read (layer 40) for every disk and index: the pair 'readD' of the disk. Contracts of Crash of layer 40, of the program's and the reference's. disk.Flush (layer 40) for every disk: the pair 'flushD' of the disk. Contract of the reference's Write of layer 40. -/
import Derived.Test.YtlefmmhlpgmbjaaGreatO02
import Derived.Test.YtlefmmhlpgmbjaaGreatO01
import Derived.StillTailTactics
namespace Go.Proofs.YtlefmmhlpgmbjaaGreat
set_option maxRecDepth 100000
open Go.RowKit Go.Shelf
attribute [local go_sem] Oper.semAt_some
theorem zks {l : List PW} {k : Nat} (hk : k <= l.length) {x : PW} (hx : x ∈ l.drop (l.length - k)) : ∃ p ∈ upto (bkF l) k, p.2 = x := by
 obtain ⟨m, hm, rfl⟩ := List.mem_iff_getElem.1 hx;have hm' : m < k := by simp at hm; omega
 refine ⟨bkF l (k - 1 - m), List.mem_map.2 ⟨k - 1 - m, List.mem_range.2 (by omega), rfl⟩, ?_⟩;have e : l.length - 1 - (k - 1 - m) = l.length - k + m := by omega
 simp [bkF, e];rw [List.getElem?_eq_getElem (by omega)]; rfl
theorem zfs {i : Int} {l : List PW} (h : ∀ x ∈ l, (x.page == i) = false) (s : ByteArray) : lastW i l s = s := by
 induction l generalizing s with
 | nil => rfl
 | cons x l ih => rw [lastW, if_neg (by simpa using h x (by simp)), ih (fun y hy => h y (by simp [hy]))]
theorem zg4 {i : Int} (a b : List PW) (s : ByteArray) : lastW i (a ++ b) s = lastW i b (lastW i a s) := by
 induction a generalizing s with
 | nil => rfl
 | cons x a ih => rw [List.cons_append, lastW, lastW, ih]
theorem zkr {i : Int} {l : List PW} (h : ∀ p ∈ upto (bkF l) l.length, (p.2.page == i) = false) (s : ByteArray) : lastW i l s = s :=
 zfs (fun x hx => by obtain ⟨p, hp, rfl⟩ := zks (Nat.le_refl l.length) (x := x) (by simpa using hx); exact h p hp) s
theorem zlR {i : Int} {l : List PW} {k : Nat} (hk : k < l.length) (h : ∀ p ∈ upto (bkF l) k, (p.2.page == i) = false) (hx : ((bkF l k).2.page == i) = true) (s : ByteArray) : lastW i l s = (bkF l k).2.data := by
 have e : l = l.take (l.length - 1 - k) ++ (l[l.length - 1 - k] :: l.drop (l.length - k)) := by rw [show l.length - k = l.length - 1 - k + 1 by omega, <- List.drop_eq_getElem_cons, List.take_append_drop]
 have e2 : (bkF l k).2 = l[l.length - 1 - k] := by simp [bkF, List.getElem?_eq_getElem (show l.length - 1 - k < l.length by omega)]
 rw [e2] at hx |-;rw [show lastW i l s = lastW i (l.take (l.length - 1 - k) ++ (l[l.length - 1 - k] :: l.drop (l.length - k))) s by rw [<- e], zg4, lastW, if_pos (by simpa using hx)];exact zfs (fun x hx => by obtain ⟨p, hp, rfl⟩ := zks (Nat.le_of_lt hk) hx; exact h p hp) _
set_option maxRecDepth 100000 in
set_option maxHeartbeats 2000000 in
theorem zkx (d : Dsk) (v : Value) (i : Int) (w : World) {S : Nat -> Prop} (hS : InS S w) (hD : DskR S w v d) :
  Calls Tryz.prog 41 #[v, .int .i64 i] w fun e w' => e = .returned (.tuple #[.string (readD d i).1, .int .i64 (readD d i).2]) /\ Below w.heap.size w w' := by
 have hD0 := hD;obtain ⟨po, pc, co, cc, rfl, hp, hc, ok⟩ := hD;have ok1 := ok.pages;have ok2 := ok.cache;have hcb : ∀ k (h : k < d.pages.length), ∃ b off, po = some ⟨b, off, none⟩ /\ w.cell? ⟨b, off + k, none⟩ = some (.string d.pages[k]) := fun k h => by obtain ⟨b, off, e, h1, _⟩ := hp k h; exact ⟨b, off, e, h1⟩
 obtain ⟨n, hn⟩ : ∃ n, 9 <= n := ⟨9, Nat.le_refl _⟩;refine (callsIn_wide (n := n)).1 ?_;have hro : Fence.wide.round = none := rfl;have h1 : 1 <= n := by omega
 refine callsIn_of_wp_marks Tryz.func41 rfl trivial ?_ hro;simp only [Tryz.ntmps41, List.size_toArray, zlC, List.length_nil, Nat.reduceAdd, Nat.reduceSub, Array.replicate_succ, Array.replicate_zero, List.push_toArray, List.append_toArray, List.nil_append, List.cons_append];generalize hres : readD d i = res;unfold readD at hres;have hbw : ∀ o1 o2 o3 o4, Below w.heap.size w ((((w.alloc o1).alloc o2).alloc o3).alloc o4) := fun o1 o2 o3 o4 =>
  ((((Below.refl _ _).alloc (Nat.le_refl _) _).alloc (by simp) _).alloc (by simp; omega) _).alloc (by simp; omega) _
 gi_wp2_with (refine ⟨trivial, ?_⟩; gi_at_call 43; refine (callsIn_wide.2 (zaV d _ _ (hD0.below (hbw _ _ _ _)))).mono ?_);rintro e w1 ⟨rfl, hb⟩;have xD := ((((Bx.new w #[.int .i64 d.size, .slice po d.pages.length pc, .slice co d.cache.length cc, .int .i64 d.left] 25).alloc (.cells #[.int .i64 i] 3)).alloc (.cells #[.string ⟨#[]⟩] 9)).alloc (.cells #[.int .i64 0] 28)).belowAll hb;have xI := (((Bx.newAt (w.alloc (.cells #[.int .i64 d.size, .slice po d.pages.length pc, .slice co d.cache.length cc, .int .i64 d.left] 25)) #[.int .i64 i] 3 (w.heap.size + 1) (by simp)).alloc (.cells #[.string ⟨#[]⟩] 9)).alloc (.cells #[.int .i64 0] 28)).belowAll hb;have xS := ((Bx.newAt ((w.alloc (.cells #[.int .i64 d.size, .slice po d.pages.length pc, .slice co d.cache.length cc, .int .i64 d.left] 25)).alloc (.cells #[.int .i64 i] 3)) #[.string ⟨#[]⟩] 9 (w.heap.size + 1 + 1) (by simp)).alloc (.cells #[.int .i64 0] 28)).belowAll hb;have xE := (Bx.newAt (((w.alloc (.cells #[.int .i64 d.size, .slice po d.pages.length pc, .slice co d.cache.length cc, .int .i64 d.left] 25)).alloc (.cells #[.int .i64 i] 3)).alloc (.cells #[.string ⟨#[]⟩] 9)) #[.int .i64 0] 28 (w.heap.size + 1 + 1 + 1) (by simp)).belowAll hb;have hB1 : Below w.heap.size w w1 := (hbw _ _ _ _).trans (hb.mono (by simp; omega));have hsz : w.heap.size + 4 <= w1.heap.size := by have := hb.size; simp at this; omega
 clear hb;have cD0 := xD.cell 0; have cD1 := xD.cell 1; have cD2 := xD.cell 2; have cD3 := xD.cell 3;have cI := xI.cell 0; have cS := xS.cell 0; have cE := xE.cell 0;have fS := xS.free 0; have fE := xE.free 0;have lS := xS.lt; have lE := xE.lt; have lD := xD.lt; have lI := xI.lt;simp at cD0 cD1 cD2 cD3 cI cS cE;cases hz : (chk d != 0)
 .
  rw [if_neg (by simpa using hz)] at hres
  by_cases hneg : i < 0
  .
   rw [if_pos hneg] at hres;subst hres;gi_wp2;refine ⟨.tuple #[.string ByteArray.empty, .int .i64 2], ?_, rfl, zaa (b := w.heap.size + 1 + 1 + 1) (zaa (b := w.heap.size + 1 + 1) hB1 (by omega)) (by omega)⟩;simp [results, Tryz.f41, go_sem, cS, cE]
   all_goals first | rfl | omega
  .
   rw [if_neg hneg] at hres;obtain ⟨k, rfl⟩ := Int.eq_ofNat_of_zero_le (Int.not_lt.1 hneg);rw [Int.toNat_natCast] at hres
   by_cases hk : k < d.pages.length
   .
    rw [dif_pos hk] at hres;subst hres;obtain ⟨pb, poff, rfl, hcell0⟩ := hcb k hk;gi_wp2_with (refine ⟨trivial, ?_⟩; gi_at_call 82; refine (zmG Fence.wide _ trivial hro _ _ _ _).mono ?_; rintro e w' ⟨rfl, rfl⟩);obtain ⟨W0, hW0⟩ : ∃ W0, w1.alloc (.cells #[.slice co d.cache.length cc] 23) = W0 := ⟨_, rfl⟩;have yB : Bx W0 w1.heap.size #[.slice co d.cache.length cc] 23 := by rw [<- hW0]; exact Bx.new _ _ _
    have yD := xD.alloc (.cells #[.slice co d.cache.length cc] 23); rw [hW0] at yD;have yI := xI.alloc (.cells #[.slice co d.cache.length cc] 23); rw [hW0] at yI;have yS := xS.alloc (.cells #[.slice co d.cache.length cc] 23); rw [hW0] at yS;have yE := xE.alloc (.cells #[.slice co d.cache.length cc] 23); rw [hW0] at yE;have hB0 : Below w.heap.size w W0 := by rw [<- hW0]; exact hB1.alloc (by omega) _
    have hc0 : PWsAt S W0 co d.cache := hc.below hB0;have hbS : ∀ b, S b -> b < w1.heap.size + 1 := fun b h => by have := hS b h; omega
    have hs0 : W0.heap.size = w1.heap.size + 1 := by rw [<- hW0]; simp
    rw [hW0];clear hW0 xD xI xS xE cD0 cD1 cD2 cD3 cI cS cE fS fE lS lE lD lI;refine wpIn_rangeFunc_ownH hro h1 (gf := 124) (lb := #[.pointer (some ⟨w1.heap.size, 0, none⟩)]) rfl trivial (enters_of Tryz.func124 (by kernel_rfl) rfl)
     (zi1 Fence.wide (n - 1) trivial hro (by omega) w1.heap.size (w1.heap.size + 1) cc co d.cache ok2 hbS W0 (by omega) (by omega) (yB.cell 0) hc0) belowK_t (belowK_b (by omega)) (Below.refl _ _) (fun _ => rfl)
     (fun pre W => ((((∀ p ∈ pre, (p.2.page == (k : Int)) = false) /\ Bx W (w.heap.size + 1) #[.int .i64 k] 3) /\ Bx W (w.heap.size + 1 + 1) #[.string ⟨#[]⟩] 9 /\ Bx W (w.heap.size + 1 + 1 + 1) #[.int .i64 0] 28) /\ Bx W w.heap.size #[.int .i64 d.size, .slice (some ⟨pb, poff, none⟩) d.pages.length pc, .slice co d.cache.length cc, .int .i64 d.left] 25) /\ Below w.heap.size w W /\ Bx W w1.heap.size #[.slice co d.cache.length cc] 23)
     (fun c pre W => ((c = .ret /\ ∃ ini last, pre = ini ++ [last] /\ (∀ p ∈ ini, (p.2.page == (k : Int)) = false) /\ (last.2.page == (k : Int)) = true /\ Bx W (w.heap.size + 1 + 1) #[.string last.2.data] 9) /\ Bx W (w.heap.size + 1 + 1 + 1) #[.int .i64 0] 28) /\ Below w.heap.size w W)
     (OwnFrom.and (Own.from (fun s A B row hs hg hr => ⟨⟨⟨hs.1.1.1, zbL hs.1.1.2 hg hr⟩, zbL hs.1.2.1 hg hr, zbL hs.1.2.2 hg hr⟩, zbL hs.2 hg hr⟩) _) (OwnFrom.and (ownFrom_below (Nat.le_refl _) (by omega)) (Own.from (fun s A B row hs hg hr => zbL hs hg hr) _)))
     (fun c => OwnFrom.and (Own.from (fun s A B row hs hg hr => by obtain ⟨⟨hc, ini, last, e1, e2, e3, e4⟩, e5⟩ := hs; exact ⟨⟨hc, ini, last, e1, e2, e3, zbL e4 hg hr⟩, zbL e5 hg hr⟩) _) (ownFrom_below (Nat.le_refl _) (by omega)))
     ⟨⟨⟨⟨by simp, yI⟩, yS, yE⟩, yD⟩, hB0, yB⟩
     (fun x a' W => ∃ Bb, w1.heap.size < Bb /\ Bx W Bb #[.int .i64 x.2.page, .string x.2.data] 80 /\ a' = { tmps := #[.agg #[.int .i64 d.size, .slice (some ⟨pb, poff, none⟩) d.pages.length pc, .slice co d.cache.length cc, .int .i64 d.left], .int .i64 k, .pointer (some ⟨w.heap.size, 0, none⟩), .pointer (some ⟨w.heap.size + 1, 0, none⟩), .pointer (some ⟨w.heap.size + 1 + 1, 0, none⟩), .pointer (some ⟨w.heap.size + 1 + 1 + 1, 0, none⟩), undef, .pointer (some ⟨Bb, 0, none⟩), .bool false, .agg #[.int .i64 d.size, .slice (some ⟨pb, poff, none⟩) d.pages.length pc, .slice co d.cache.length cc, .int .i64 d.left], .int .i64 (chk d), .bool false, .bool (decide ((k : Int) < 0)), .int .i64 k, .bool (decide ((k : Int) < 0)), .bool (decide ((k : Int) < 0)), .int .i64 k, .pointer (some ⟨w.heap.size, 1, none⟩), .slice (some ⟨pb, poff, none⟩) d.pages.length pc, .int .i64 d.pages.length, .bool false, .bool (decide ((k : Int) < 0)), .pointer (some ⟨w.heap.size, 2, none⟩), .slice co d.cache.length cc, .func (.func 124) #[] #[.pointer (some ⟨w1.heap.size, 0, none⟩)], .int .i64 x.1, .agg #[.int .i64 x.2.page, .string x.2.data], undef, undef, undef, undef, undef, undef, undef, undef, undef, undef, undef], defers := [] })
     (fun x a' X Y row s hs hg hr => by obtain ⟨Bb, e1, e2, e3⟩ := hs; exact ⟨Bb, e1, zbL e2 hg (fun r e => (hr r e).2), e3⟩)
     ?assign ?body ?done ?stop
    case assign => rintro l pre x W K ⟨⟨⟨⟨hp, b2⟩, b3, b4⟩, b1⟩, hB, b5⟩ hK;have l5 := b5.lt;gi_wp2;exact hK _ _ ((KeepsOthers.alloc _ _).from _) ((Below.refl _ W).alloc (by omega) _) ⟨⟨⟨⟨hp, b2.alloc _⟩, b3.alloc _, b4.alloc _⟩, b1.alloc _⟩, hB.alloc hB.size _, b5.alloc _⟩ ⟨W.heap.size, l5, Bx.new W _ _, rfl⟩
    case body =>
     rintro l pre x a' W hl ⟨r, hr⟩ ⟨⟨⟨⟨hp, b2⟩, b3, b4⟩, b1⟩, hB, b5⟩ ⟨Bb, hBb, bX, rfl⟩ hlt;have cI := b2.cell 0; have cS := b3.cell 0; have cE := b4.cell 0;have cX := bX.cell 0; have cX' := bX.cell 1;have fS := b3.free 0; have fE := b4.free 0;have lS := b3.lt; have lE := b4.lt;simp at cI cS cE cX cX';cases hx : (x.2.page == (k : Int))
     . gi_wp2;exact ⟨KeepsFrom.refl _ _, Below.refl _ _, ⟨⟨⟨fun p hp' => (zmA.1 hp').elim (hp p) (fun e => by simp at e; subst e; exact hx), b2⟩, b3, b4⟩, b1⟩, hB, b5⟩
     .
      gi_wp2;exact ⟨((KeepsOthers.setCell _ _ _).trans (KeepsOthers.setCell _ _ _)).from _, ⟨⟨rfl, pre, x, rfl, hp, hx, (b3.set 0 (.string x.2.data)).setO (by simp) _⟩, (b4.setO (a := ⟨w.heap.size + 1 + 1, 0, none⟩) (by simp) _).set 0 (.int .i64 0)⟩,
       zaa (b := w.heap.size + 1 + 1 + 1) (zaa (b := w.heap.size + 1 + 1) hB (by omega)) (by omega)⟩
    case done =>
     rintro D ys W hD rfl ⟨⟨⟨⟨hp, b2⟩, b3, b4⟩, b1⟩, hB, b5⟩ hK;have hl := zkr hp d.pages[k];have cD1 := b1.cell 1; have cI := b2.cell 0; have cS := b3.cell 0; have cE := b4.cell 0;have fS := b3.free 0; have fE := b4.free 0;have lS := b3.lt; have lE := b4.lt;have hcell : W.cell? ⟨pb, poff + k, none⟩ = some (.string d.pages[k]) := by rw [hB.cell (World.block_lt_of_cell? w _ hcell0)]; exact hcell0
     simp at cD1 cI cS cE;gi_wp2;have hK' := ((KeepsOthers.setCell W ⟨w.heap.size + 1 + 1, 0, none⟩ (.string d.pages[k])).trans (KeepsOthers.setCell _ ⟨w.heap.size + 1 + 1 + 1, 0, none⟩ (.int .i64 0))).same D _ hK rfl;have hB' : Below w.heap.size w ((W.setCell ⟨w.heap.size + 1 + 1, 0, none⟩ (.string d.pages[k])).setCell ⟨w.heap.size + 1 + 1 + 1, 0, none⟩ (.int .i64 0)) := zaa (b := w.heap.size + 1 + 1 + 1) (zaa (b := w.heap.size + 1 + 1) hB (by omega)) (by omega);refine ⟨by simp, .inl ⟨_, _, rfl, run_takeDeferred hK', ?_⟩⟩;have c5 := ((zbL ((b3.set 0 (.string d.pages[k])).setO (a := ⟨w.heap.size + 1 + 1 + 1, 0, none⟩) (by simp) (.int .i64 0)) (grownBy_putObj' _ D (.deferred none)) (fun r e => by cases e; exact ⟨_, hK', rfl⟩))).cell 0;have c6 := ((zbL ((b4.setO (a := ⟨w.heap.size + 1 + 1, 0, none⟩) (by simp) (.string d.pages[k])).set 0 (.int .i64 0)) (grownBy_putObj' _ D (.deferred none)) (fun r e => by cases e; exact ⟨_, hK', rfl⟩))).cell 0;simp at c5 c6;refine ⟨.tuple #[.string d.pages[k], .int .i64 0], ?_, by rw [zak, hl], hB'.trans (belowK_b (w := w) (Nat.le_refl _) _ D _ _ (by omega) hK' rfl rfl)⟩;simp [results, Tryz.f41, go_sem, c5, c6]
    case stop =>
     rintro D c pre W hD ⟨j, hj, rfl⟩ ⟨⟨⟨rfl, ini, last, e1, e2, e3, b3⟩, b4⟩, hB⟩ hK;gi_wp2;refine ⟨by simp, .inl ⟨_, _, rfl, run_takeDeferred hK, ?_⟩⟩;have c5 := (zbL b3 (grownBy_putObj' _ D (.deferred none)) (fun r e => by cases e; exact ⟨_, hK, rfl⟩)).cell 0;have c6 := (zbL b4 (grownBy_putObj' _ D (.deferred none)) (fun r e => by cases e; exact ⟨_, hK, rfl⟩)).cell 0;simp at c5 c6;obtain ⟨j', rfl⟩ : ∃ j', j = j' + 1 := by
      cases j with
      | zero => simp [upto] at e1
      | succ j' => exact ⟨j', rfl⟩
     rw [zeK] at e1;obtain ⟨rfl, e5⟩ := List.append_inj' e1 rfl;obtain rfl : bkF d.cache j' = last := by simpa using e5
     refine ⟨.tuple #[.string (bkF d.cache j').2.data, .int .i64 0], ?_, by rw [zak, zlR (by omega) e2 e3], hB.trans (belowK_b (w := w) (Nat.le_refl _) W D _ _ (by omega) hK rfl rfl)⟩;simp [results, Tryz.f41, go_sem, c5, c6]
   .
    rw [dif_neg hk] at hres;subst hres;gi_wp2;refine ⟨.tuple #[.string ByteArray.empty, .int .i64 2], ?_, rfl, zaa (b := w.heap.size + 1 + 1 + 1) (zaa (b := w.heap.size + 1 + 1) hB1 (by omega)) (by omega)⟩;simp [results, Tryz.f41, go_sem, cS, cE]
    all_goals first | rfl | omega
 .
  rw [if_pos (by simpa using hz)] at hres;subst hres;gi_wp2;refine ⟨.tuple #[.string ByteArray.empty, .int .i64 1], ?_, rfl, zaa (b := w.heap.size + 1 + 1 + 1) (zaa (b := w.heap.size + 1 + 1) hB1 (by omega)) (by omega)⟩;simp [results, Tryz.f41, go_sem, cS, cE]
  all_goals first | rfl | omega
end Go.Proofs.YtlefmmhlpgmbjaaGreat
namespace Go.Proofs.YtlefmmhlpgmbjaaGreat
set_option maxRecDepth 100000
open Go.RowKit
theorem zgS {n : Nat} {a b : ByteArray} (h1 : n <= a.size) (h2 : a.size = b.size) : (tear n a b).size = b.size := by
 unfold tear;rw [ByteArray.size_append, ByteArray.size_extract, ByteArray.size_extract];omega
end Go.Proofs.YtlefmmhlpgmbjaaGreat
namespace Go.Proofs.YtlefmmhlpgmbjaaGreat
set_option maxRecDepth 100000
open Go.RowKit Go.Shelf
theorem ze4 {F : Fence} {nF : Nat} {P : Program} {ops : Array Oper} {rest : List Oper} {o : Oper} {a : Act} {Q : Exit -> Act -> World -> Prop} {w : World} (hgd : o.guard = none) (l c : Operand) (t : TypeId) (hop : o.op = Op.makeSlice t l c)
  (e : TypeId) (i : TypeInfo) (z : Value) (bytes : Nat) (ht : P.underlying t = some (.slice e)) (hi : P.info? e = some i) (hz : i.zero = some z) (hsize : i.size = 1) (hby : i.bytes = bytes) (hzc : z.cells = #[z])
  (n : Nat) (hl : a.eval l = .int .i64 n) (hc : a.eval c = .int .i64 n) (hb : bytes * n <= 281474976710656) (h63 : n <= 9223372036854775807)
  (hK : ∀ w', Bx w' w.heap.size (List.replicate n z).toArray e -> w.grownBy w' none -> w'.heap.size = w.heap.size + 1 -> wpListIn F nF P ops Q rest (a.put o.dst (.slice (some ⟨w.heap.size, 0, none⟩) n n)) w') :
  wpListIn F nF P ops Q (o :: rest) a w := by
 refine wpListIn_plain hgd fun K hK' => ?_;have hb' : (i.bytes : Int) * (n : Int) <= 281474976710656 := by
  have h : ((i.bytes * n : Nat) : Int) <= 281474976710656 := by rw [hby]; omega
  rwa [Int.natCast_mul] at h
 have hrun := run_make (P := P) w t e i z ht hi hz .i64 .i64 n n (by omega) (Int.le_refl _) hb' (by omega);rw [hsize, hzc, Nat.mul_one, zdf] at hrun;simp only [Int.toNat_natCast] at hrun;unfold Oper.wpIn;refine ⟨by simp [Oper.about, hop], ?_⟩;rw [Oper.semAt_plain F _ _ (by rw [hop]; intro c hc'; cases hc')];simp [execOp, hop, hl, hc, hrun, Result.andThen];exact hK' _ _ (by simpa using hK _ (Bx.new w _ _) (World.grownBy_alloc w _ none) (World.size_alloc _ _))
def fillP (d : Dsk) (pre : List (Fin d.pages.length)) : List ByteArray := pre.foldl (fun ps x => ps.set x.1 (zak d x.1 x.2)) (List.replicate d.pages.length ByteArray.empty)
theorem zjt (d : Dsk) (pre : List (Fin d.pages.length)) (x : Fin d.pages.length) : fillP d (pre ++ [x]) = (fillP d pre).set x.1 (zak d x.1 x.2) := by simp [fillP]
theorem zeg (d : Dsk) (pre : List (Fin d.pages.length)) : (fillP d pre).length = d.pages.length := by
 unfold fillP
 suffices ∀ (l : List (Fin d.pages.length)) (ps : List ByteArray), (l.foldl (fun ps x => ps.set x.1 (zak d x.1 x.2)) ps).length = ps.length by rw [this]; simp
 intro l
 induction l with
 | nil => intro ps; rfl
 | cons x l ih => intro ps; rw [List.foldl_cons, ih]; simp
theorem zc3 {N : Nat} (c : Fin N -> ByteArray) (j : Fin N) : ∀ (l : List (Fin N)) (ps : List ByteArray), ps.length = N -> (l.foldl (fun ps x => ps.set x.1 (c x)) ps)[j.1]? = if j ∈ l then some (c j) else ps[j.1]?
 | [], ps, _ => by simp
 | x :: l, ps, h => by
  rw [List.foldl_cons, zc3 c j l _ (by simpa using h)]
  by_cases h1 : j ∈ l
  . simp [h1]
  .
   by_cases h2 : j = x
   . subst h2; simp [h1, h, j.2]
   . have h3 : x.1 ≠ j.1 := fun e => h2 (Fin.ext e.symm);simp [h1, h2, List.getElem?_set_ne h3]
theorem zj2 (d : Dsk) : fillP d (List.finRange d.pages.length) = zan d := by
 apply List.ext_getElem?;intro j
 by_cases hj : j < d.pages.length
 . have := zc3 (fun x => zak d x.1 x.2) ⟨j, hj⟩ (List.finRange d.pages.length) (List.replicate d.pages.length ByteArray.empty) (by simp);rw [if_pos (List.mem_finRange _)] at this;unfold fillP zan;rw [this];simp [hj]
 . rw [List.getElem?_eq_none (by rw [zeg]; omega), List.getElem?_eq_none (by simp [zan]; omega)]
theorem zft {i : Int} {z : Int} {l : List PW} (h : ∀ x ∈ l, (x.data.size : Int) = z) : ∀ s : ByteArray, (s.size : Int) = z -> ((lastW i l s).size : Int) = z := by
 induction l with
 | nil => intro s hs; exact hs
 | cons x l ih =>
  intro s hs;rw [lastW];refine ih (fun y hy => h y (by simp [hy])) _ ?_;split
  . exact h x (by simp)
  . exact hs
theorem zb7 {d : Dsk} (hp : ∀ s ∈ d.pages, (s.size : Int) = d.size) (hc : ∀ x ∈ d.cache, (x.data.size : Int) = d.size) : ∀ s ∈ zan d, (s.size : Int) = d.size := by
 intro s hs;obtain ⟨i, _, rfl⟩ := List.mem_map.1 hs;exact zft hc _ (hp _ (List.getElem_mem _))
theorem zaM (d : Dsk) : (zan d).length = d.pages.length := by simp [zan]
theorem zl7 {d : Dsk} {o : Option Addr} {c : Nat} {l : Int} (hp : ∀ s ∈ d.pages, (s.size : Int) = d.size) (hc : ∀ x ∈ d.cache, (x.data.size : Int) = d.size) (hn : d.pages.length <= 2000) (hs : d.size <= 512) (hm : d.pages.length <= maxLen) (hl : -9223372036854775808 <= l /\ l <= 9223372036854775807)
  {b : Nat} (ho : o = some ⟨b, 0, none⟩ := by rfl) (hcc : c = d.pages.length := by rfl) : DskOk ⟨d.size, zan d, [], l⟩ o none c 0 :=
 ⟨.inr ⟨_, ho, by rw [zaM, hcc]; exact Nat.le_refl _, by rw [hcc]; exact hm⟩, .inl ⟨rfl, rfl, rfl⟩, by simp only [zaM]; omega, by simp, fun s h => by have := zb7 hp hc s h; omega, by simp, hl⟩
section
attribute [local go_sem] Oper.semAt_some
set_option maxRecDepth 100000 in
set_option maxHeartbeats 4000000 in
theorem zfX (d : Dsk) (v : Value) (w : World) {S : Nat -> Prop} (hS : InS S w) (hD : DskR S w v d) (hz : (chk d != 0) = false) (g4 : (d.left == 0) = false) :
  Calls Tryz.prog 84 #[v] w (RetDE S w ⟨d.size, zan d, [], (opD d).left⟩ 0) := by
 obtain ⟨v1, v2, v3, v4⟩ := zas (by simpa using hz);have hr := zaf v1;have hD0 := hD;obtain ⟨po, pc, co, cc, rfl, hp, hc, ok⟩ := hD;have ok1 := ok.pages;have okW := zhI ok;clear ok hp hc;obtain ⟨i0, hi, hz0', hz1, hz2⟩ := info_parts zhF;have hbw : ∀ o o', Below w.heap.size w ((w.alloc o).alloc o') := fun o o' => ((Below.refl _ _).alloc (Nat.le_refl _) _).alloc (by simp) _;have hpw : ∀ (W : World) (v : Value), DskR S W v d -> Calls Tryz.prog 125 #[v] W (RetDB S W (opD d) true) := fun W v h => by have := zcy d v W h; rw [if_neg (by simpa using g4), g4] at this; exact this
 obtain ⟨n, hn⟩ : ∃ n, 9 <= n := ⟨9, Nat.le_refl _⟩;refine (callsIn_wide (n := n)).1 ?_;have hro : Fence.wide.round = none := rfl;have h1 : 1 <= n := by omega
 refine callsIn_of_wp_marks Tryz.func84 rfl trivial ?_ hro;simp only [Tryz.ntmps84, List.size_toArray, zlC, List.length_nil, Nat.reduceAdd, Nat.reduceSub, Array.replicate_succ, Array.replicate_zero, List.push_toArray, List.append_toArray, List.nil_append, List.cons_append];gi_wp2_with (refine ⟨trivial, ?_⟩; gi_at_call 43; refine (callsIn_wide.2 (zaV d _ _ (hD0.below (hbw _ _)))).mono ?_);rintro e w1 ⟨rfl, hb1⟩;have xA := ((Bx.new w _ _).alloc _).belowAll hb1;have xR := (Bx.new (w.alloc _) _ _).belowAll hb1;rw [World.size_alloc] at xR;have cA := xA.cell;have fA := xA.free;have cR := xR.cell;have fR := xR.free;have hB : Below w.heap.size w w1 := (hbw _ _).trans (hb1.mono (by simp; omega));have hlA := xA.lt;have hlR := xR.lt;gi_wp2_with (refine ⟨trivial, ?_⟩; gi_at_call 125; refine (callsIn_wide.2 (hpw _ _ ((hD0.below (hbw _ _)).below hb1))).mono ?_);rintro e w2 ⟨vv2, rfl, hD2, hb2⟩;have xA2 := xA.belowAll hb2;have xR2 := xR.belowAll hb2;have hB2 : Below w.heap.size w w2 := hB.trans (hb2.mono (by omega));clear cA fA cR fR;have hE2 := hD2;obtain ⟨po2, pc2, co2, cc2, rfl, hp2, hc2, ok2⟩ := hD2;have cA := xA2.cell;have fA := xA2.free;have cR := xR2.cell;have fR := xR2.free;have hlA2 := xA2.lt;have hlR2 := xR2.lt;have nA : ¬ Gr S w1 w2 w.heap.size := by rintro (h | h); exact absurd (hS _ h) (by omega); omega
 have nR : ¬ Gr S w1 w2 (w.heap.size + 1) := by rintro (h | h); exact absurd (hS _ h) (by omega); omega
 have hvh := zhI (zaI v2 v3);have hp2000 : d.pages.length <= 2000 := by omega
 clear v2 v3;gi_wp2_with (first
  | (refine ze4 rfl (.tmp 22) (.tmp 22) 22 rfl 9 i0 _ 16 Tryz.underlying22 hi hz0' hz1 hz2 rfl d.pages.length rfl rfl (by omega) (by omega) ?_; intro w3 xG hg3 hz3'; have xA3 := (xA2.set4).grown hg3 (by simp); have xR3 := (xR2.setO4 (b' := w.heap.size) (by simp)).grown hg3 (by simp); have hB3 := (zai (b := w.heap.size) hB2 (Nat.le_refl _)).grown hg3 (by simp; omega) (by simp); have hp3 := (hp2.same ((Same.refl _ _).set4 nA)).same (Same.of_grown hg3 (fun b h => by rcases h with h | h; exact znL (hS _ h) (by simp; omega); simp; omega) (by simp)); clear cA fA cR fR; have cA := xA3.cell; have fA := xA3.free; have cR := xR3.cell; have fR := xR3.free; have hlA3 := xA3.lt; have hlR3 := xR3.lt)
  | (refine ⟨trivial, ?_⟩; gi_at_call 127; refine (zmW Fence.wide _ trivial hro _ _ _ _ _).mono ?_; rintro e w' ⟨rfl, rfl⟩))
 have hz3 : w3.heap.size = w2.heap.size + 1 := by simpa using hz3'
 obtain ⟨W0, hW0⟩ : ∃ W0, (w3.alloc (.cells #[.slice (some ⟨w2.heap.size, 0, none⟩) d.pages.length d.pages.length] 22)).alloc (.cells #[.int .i64 (opD d).size, .slice po2 (opD d).pages.length pc2, .slice co2 (opD d).cache.length cc2, .int .i64 (opD d).left] 25) = W0 := ⟨_, rfl⟩;have yG : Bx W0 w2.heap.size (List.replicate d.pages.length (Value.string .empty)).toArray 9 := by rw [<- hW0]; simp only [World.size_setCell] at xG; exact (xG.alloc _).alloc _
 have yS : Bx W0 (w2.heap.size + 1) #[.slice (some ⟨w2.heap.size, 0, none⟩) d.pages.length d.pages.length] 22 := by rw [<- hW0]; exact (Bx.newAt _ _ _ _ hz3.symm).alloc _
 have yB : Bx W0 (w2.heap.size + 1 + 1) #[.int .i64 (opD d).size, .slice po2 (opD d).pages.length pc2, .slice co2 (opD d).cache.length cc2, .int .i64 (opD d).left] 25 := by rw [<- hW0]; exact Bx.newAt _ _ _ _ (by simp [hz3])
 have yA := (xA3.alloc (.cells #[.slice (some ⟨w2.heap.size, 0, none⟩) d.pages.length d.pages.length] 22)).alloc (.cells #[.int .i64 (opD d).size, .slice po2 (opD d).pages.length pc2, .slice co2 (opD d).cache.length cc2, .int .i64 (opD d).left] 25);have yR := (xR3.alloc (.cells #[.slice (some ⟨w2.heap.size, 0, none⟩) d.pages.length d.pages.length] 22)).alloc (.cells #[.int .i64 (opD d).size, .slice po2 (opD d).pages.length pc2, .slice co2 (opD d).cache.length cc2, .int .i64 (opD d).left] 25);rw [hW0] at yA yR;have hB0 : Below w.heap.size w W0 := by rw [<- hW0]; exact (hB3.alloc (by omega) _).alloc (by simp; omega) _
 have hSm : Same (Gr S w1 w2) w2 W0 := by
  rw [<- hW0];have hI : InS (Gr S w1 w2) w2 := fun b h => by rcases h with h | h; exact znL (hS _ h) (by omega); omega
  have h3 : Same (Gr S w1 w2) w2 w3 := ((Same.refl _ _).set4 nA).grown hg3 (hI.size (by simp)) (by simp);exact (h3.alloc (hI.size (by omega)) _).alloc (hI.size (by simp; omega)) _
 have hs0 : W0.heap.size = w2.heap.size + 3 := by rw [<- hW0]; simp [hz3]
 have hI2 : InS (Gr S w1 w2) w2 := fun b h => by rcases h with h | h; exact znL (hS _ h) (by omega); omega
 have hp0 : zaP (Gr S w1 w2) W0 po2 (opD d).pages := hp2.same hSm;have hc0 : PWsAt (Gr S w1 w2) W0 co2 (opD d).cache := hc2.same hSm;rw [hW0];have hs0h := zhI hs0;clear hW0 xA xR xA2 xR2 xA3 xR3 xG cA fA cR fR hB3 hp3 hg3;refine zgc hro h1 (gf := 176) (lb := #[.pointer (some ⟨w2.heap.size + 1 + 1, 0, none⟩)]) rfl trivial (enters_of Tryz.func176 (by kernel_rfl) rfl)
  (encs := fun x : Fin d.pages.length => #[Value.int .i64 (x.1 : Int), .string (zak d x.1 x.2)]) (T := fun b => Gr S w1 w2 b \/ W0.heap.size + 2 <= b) (S := fun ys => ys = List.finRange d.pages.length) (N := d.pages.length)
  (fun W1 hz1 hb1 => zkJ Fence.wide (n - 1) trivial hro (by omega) (w2.heap.size + 1 + 1) (opD d) po2 co2 pc2 cc2 (S := Gr S w1 w2) _ W1 ok2 (fun x hx => ⟨(hvh.out.2 x hx).1, (hvh.out.2 x hx).2.1⟩) (fun b => .inl) (fun b h => .inr (by omega)) (hp0.below hb1) (hc0.below hb1) (yB.belowAll hb1))
  (by rintro (h | h); exact absurd (hI2 _ h) (by omega); omega) (fun _ => rfl)
  (fun pre W => Bx W w2.heap.size ((fillP d pre).map Value.string).toArray 9 /\ Bx W (w2.heap.size + 1) #[.slice (some ⟨w2.heap.size, 0, none⟩) d.pages.length d.pages.length] 22 /\ Bx W w.heap.size #[.int .i64 (opD d).size, .slice po2 (opD d).pages.length pc2, .slice co2 (opD d).cache.length cc2, .int .i64 (opD d).left] 25 /\ Bx W (w.heap.size + 1) #[.int .i64 0, .slice none 0 0, .slice none 0 0, .int .i64 0] 25 /\ Below w.heap.size w W)
  (fun pre W W' row h hg hr => ⟨h.1.grown hg (fun e => by have := hr _ e.symm; omega), h.2.1.grown hg (fun e => by have := hr _ e.symm; omega), h.2.2.1.grown hg (fun e => by have := hr _ e.symm; omega), h.2.2.2.1.grown hg (fun e => by have := hr _ e.symm; omega), h.2.2.2.2.grown hg h.2.2.2.2.size (fun k e => by have := hr _ e; omega)⟩)
  ⟨by simpa [fillP] using yG, yS, yA, yR, hB0⟩
  (fun x => { tmps := #[.agg #[.int .i64 d.size, .slice po d.pages.length pc, .slice co d.cache.length cc, .int .i64 d.left], .pointer (some ⟨w.heap.size, 0, none⟩), .pointer (some ⟨w.heap.size + 1, 0, none⟩), .int .i64 0, .bool true, .pointer (some ⟨w2.heap.size + 1, 0, none⟩), .int .i64 (x.1 : Int), .string (zak d x.1 x.2), .agg #[.int .i64 d.size, .slice po d.pages.length pc, .slice co d.cache.length cc, .int .i64 d.left], .int .i64 (chk d), .bool false, undef, .tuple #[.agg #[.int .i64 (opD d).size, .slice po2 (opD d).pages.length pc2, .slice co2 (opD d).cache.length cc2, .int .i64 (opD d).left], .bool true], .agg #[.int .i64 d.size, .slice po d.pages.length pc, .slice co d.cache.length cc, .int .i64 d.left], .tuple #[.agg #[.int .i64 (opD d).size, .slice po2 (opD d).pages.length pc2, .slice co2 (opD d).cache.length cc2, .int .i64 (opD d).left], .bool true], .agg #[.int .i64 (opD d).size, .slice po2 (opD d).pages.length pc2, .slice co2 (opD d).cache.length cc2, .int .i64 (opD d).left], .bool true, .bool true, .bool false, undef, .pointer (some ⟨w.heap.size, 1, none⟩), .slice po2 (opD d).pages.length pc2, .int .i64 (opD d).pages.length, .slice (some ⟨w2.heap.size, 0, none⟩) d.pages.length d.pages.length, .agg #[.int .i64 (opD d).size, .slice po2 (opD d).pages.length pc2, .slice co2 (opD d).cache.length cc2, .int .i64 (opD d).left], .func (.func 176) #[] #[.pointer (some ⟨w2.heap.size + 1 + 1, 0, none⟩)], .int .i64 (x.1 : Int), .string (zak d x.1 x.2), undef, undef, undef, undef, undef, undef, undef, undef], defers := [] }) ?assign ?body ?done
 case assign => intro l x W K hK;gi_wp2;exact hK
 case body =>
  rintro l pre x W ⟨bG, bS, bA, bR, hB⟩ hlt;have cS := bS.cell 0;simp at cS;have hx := x.2;have gfree := bG.free x.1;have gcell : W.cell? ⟨w2.heap.size, x.1, none⟩ = some (.string ((fillP d pre)[x.1]'(by rw [zeg]; exact x.2))) := by rw [bG.cell]; simp [zeg]
  have hlG := bG.lt;gi_wp2;have hne : ∀ b, (Gr S w1 w2 b \/ W0.heap.size + 2 <= b) -> b ≠ w2.heap.size := by
   rintro b (h | h) e
   . have := hI2 _ h; omega
   . have := hs0h.out; omega
  refine ⟨Below.heap_setCell W _ _ _ (by simp; have := hs0h.out; omega), Below.heap_setCell W _ _ _ (by simp; have := hs0h.out; omega), KeepT.set W _ (fun h => hne _ h rfl), ?_, bS.setO (by simp) _, bA.setO (by simp; omega) _, bR.setO (by simp; omega) _, zaa (b := w2.heap.size) hB (by omega)⟩;have := bG.set x.1 (Value.string (zak d x.1 x.2));simpa [zjt, List.map_set] using this
 case done =>
  rintro xs W rfl ⟨bG, bS, bA, bR, hB⟩ hK;rw [zj2] at bG;have cS := bS.cell 0;have cA := bA.cell;have fA := bA.free;have cR := bR.cell;have fR := bR.free;have hlA := bA.lt;have hlR := bR.lt;simp at cS;have hOk : DskOk ⟨d.size, zan d, [], (opD d).left⟩ (some ⟨w2.heap.size, 0, none⟩) none d.pages.length 0 := zl7 hvh.out.1 (fun x hx => (hvh.out.2 x hx).2.2) hp2000 hr.2.2.2 (by simp [maxLen]; omega) ok2.left;gi_wp2;have h0 : w2.heap.size ≠ w.heap.size := by omega
  have h01 : w2.heap.size ≠ w.heap.size + 1 := by omega
  have zG := ((bG.setO (a := ⟨w.heap.size, 1, none⟩) h0 (.slice (some ⟨w2.heap.size, 0, none⟩) d.pages.length d.pages.length)).setO (a := ⟨w.heap.size, 2, none⟩) h0 (.slice none 0 0)).setO4 (v0 := .int .i64 (opD d).size) (v1 := .slice (some ⟨w2.heap.size, 0, none⟩) d.pages.length d.pages.length) (v2 := .slice none 0 0) (v3 := .int .i64 (opD d).left) h01;have zR := (((bR.setO (a := ⟨w.heap.size, 1, none⟩) (by simp) (.slice (some ⟨w2.heap.size, 0, none⟩) d.pages.length d.pages.length)).setO (a := ⟨w.heap.size, 2, none⟩) (by simp) (.slice none 0 0))).set4 (v0 := .int .i64 (opD d).size) (v1 := .slice (some ⟨w2.heap.size, 0, none⟩) d.pages.length d.pages.length) (v2 := .slice none 0 0) (v3 := .int .i64 (opD d).left);have zB := zai (b := w.heap.size + 1) (v0 := .int .i64 (opD d).size) (v1 := .slice (some ⟨w2.heap.size, 0, none⟩) d.pages.length d.pages.length) (v2 := .slice none 0 0) (v3 := .int .i64 (opD d).left) (zaa (b := w.heap.size) (k := 2) (v := .slice none 0 0) (zaa (b := w.heap.size) (k := 1) (v := .slice (some ⟨w2.heap.size, 0, none⟩) d.pages.length d.pages.length) hB (by omega)) (by omega)) (by omega);have zK := (((((((KeepsOthers.setCell W ⟨w.heap.size, 1, none⟩ (.slice (some ⟨w2.heap.size, 0, none⟩) d.pages.length d.pages.length)).trans (KeepsOthers.setCell _ ⟨w.heap.size, 2, none⟩ (.slice none 0 0))).trans (KeepsOthers.setCell _ ⟨w.heap.size + 1, 0, none⟩ (.int .i64 (opD d).size))).trans (KeepsOthers.setCell _ ⟨w.heap.size + 1, 1, none⟩ (.slice (some ⟨w2.heap.size, 0, none⟩) d.pages.length d.pages.length))).trans (KeepsOthers.setCell _ ⟨w.heap.size + 1, 2, none⟩ (.slice none 0 0))).trans (KeepsOthers.setCell _ ⟨w.heap.size + 1, 3, none⟩ (.int .i64 (opD d).left)))).same _ _ hK rfl;have hzW : W0.heap.size < W.heap.size := (Array.getElem?_eq_some_iff.1 hK).1
  revert zG zR zB zK
  generalize hWf : ((((((W.setCell _ _).setCell _ _).setCell _ _).setCell _ _).setCell _ _).setCell _ _) = Wf;intro zG zR zB zK;have hzf : W0.heap.size < Wf.heap.size := (Array.getElem?_eq_some_iff.1 zK).1;refine ⟨by simp, .inl ⟨_, _, rfl, run_takeDeferred zK, ?_⟩⟩;have zR' := zbL zR (grownBy_putObj' _ W0.heap.size (.deferred none)) (fun r e => by cases e; exact ⟨_, zK, rfl⟩);have zG' := zbL zG (grownBy_putObj' _ W0.heap.size (.deferred none)) (fun r e => by cases e; exact ⟨_, zK, rfl⟩);have cZ := zR'.cell;refine ⟨.tuple #[.agg #[.int .i64 (opD d).size, .slice (some ⟨w2.heap.size, 0, none⟩) d.pages.length d.pages.length, .slice none 0 0, .int .i64 (opD d).left], .int .i64 0], ?_, ?_⟩
  . simp [results, Tryz.f84, go_sem, cZ]
  . refine ⟨_, rfl, ⟨some ⟨w2.heap.size, 0, none⟩, d.pages.length, none, 0, by simp [zan, opD], ?_, by intro i h; simp at h, hOk⟩, zB.trans (belowK_b (w := w) (Nat.le_refl _) Wf W0.heap.size _ _ (by omega) zK rfl rfl)⟩;refine zaP.mono (S := (· = w2.heap.size)) (.of_row (by simpa using RowAt.bx zG')) (fun b h => Gr.new (by omega) (by simp; omega))
end
end Go.Proofs.YtlefmmhlpgmbjaaGreat
namespace Go.Proofs.YtlefmmhlpgmbjaaGreat
set_option maxRecDepth 100000
open Go.RowKit
set_option maxHeartbeats 1000000 in
theorem zeY (d : Dsk) (v : Value) (i : Int) (data : ByteArray) (w : World) {S : Nat -> Prop} (hS : InS S w) (hD : DskR S w v d) (hd : data.size <= 140737488351232) (hn : d.cache.length <= 1000000) (hz : (chk d != 0) = false) (g1 : decide (i < 0) = false) (g2 : decide ((d.pages.length : Int) <= i) = false) (g3 : ((data.size : Int) != d.size) = false) (g4 : (d.left == 0) = false) :
  Calls Tryz.prog 88 #[v, .int .i64 i, .string data] w (RetDE S w { opD d with cache := d.cache ++ [⟨i, data⟩] } 0) := by
 have hD0 := hD;obtain ⟨po, pc, co, cc, rfl, hp, hc, ok⟩ := hD;have ok1 := ok.pages;have okW := zhI ok;have hcW := hc;clear ok hp hc;obtain ⟨i0, hi, hz0, hz1, hz2⟩ := info_parts zdS;have hbw : ∀ o o', Below w.heap.size w ((w.alloc o).alloc o') := fun o o' => ((Below.refl _ _).alloc (Nat.le_refl _) _).alloc (by simp) _;have slc := okW.out.slc;have hpw : ∀ (W : World) (v : Value), DskR S W v d -> Calls Tryz.prog 128 #[v] W (RetDE S W (opD d) 0) := fun W v h => by have := zbu d v W h; rw [if_neg (by simpa using g4), if_neg (by simpa using g4)] at this; exact this
 go_enter Tryz.func88, Tryz.ntmps88;go_wp2_with fail;refine (zav d _ _ (hD0.below (hbw _ _))).mono ?_;rintro e w1 ⟨rfl, hb1⟩;have xA := ((Bx.new w _ _).alloc _).belowAll hb1;have xR := (Bx.new (w.alloc _) _ _).belowAll hb1;rw [World.size_alloc] at xR;have cA := xA.cell;have fA := xA.free;have cR := xR.cell;have fR := xR.free;have hB : Below w.heap.size w w1 := (hbw _ _).trans (hb1.mono (by simp; omega));have hlA := xA.lt;have hlR := xR.lt;go_wp2_with fail;refine (hpw _ _ ((hD0.below (hbw _ _)).below hb1)).mono ?_;rintro e w2 ⟨v2, rfl, hD2, hb2⟩;have xA2 := xA.belowAll hb2;have xR2 := xR.belowAll hb2;have hB2 : Below w.heap.size w w2 := hB.trans (hb2.mono (by omega));clear cA fA cR fR;have hE2 := hD2;obtain ⟨po2, pc2, co2, cc2, rfl, hp2, hc2, ok2⟩ := hD2;have cA := xA2.cell;have fA := xA2.free;have cR := xR2.cell;have fR := xR2.free;have hlA2 := xA2.lt;have hlR2 := xR2.lt;have nA : ¬ Gr S w1 w2 w.heap.size := by rintro (h | h); exact absurd (hS _ h) (by omega); omega
 have nR : ¬ Gr S w1 w2 (w.heap.size + 1) := by rintro (h | h); exact absurd (hS _ h) (by omega); omega
 have nN : ¬ Gr S w1 w2 w2.heap.size := by rintro (h | h); exact absurd (hS _ h) (by omega); omega
 have hcW2 : PWsAt S w2 co d.cache := ((hcW.below (hbw _ _)).below hb1).below hb2;have xN2 := Bx.new w2 #[.int .i64 (opD d).size, .slice po2 (opD d).pages.length pc2, .slice co2 (opD d).cache.length cc2, .int .i64 (opD d).left] 25;clear hcW hD0 hb1;go_wp2_with (first
  | (at_builtin; go_loud (refine zaw rfl (.tmp 37) (.tmp 39) 23 rfl (w2.heap.size + 1) 80 i0 _ 2 24 Tryz.underlying23 hi hz0 hz1 hz2 rfl (by decide) _ 0 [] rfl (zbZ _ _ _ _ _ (by simp) (Nat.le_refl _)) co d.cache.length cc (zaL d.cache) rfl slc.nil (zb0 _) (hcW2.row.below (((Below.refl _ _).alloc (Nat.le_refl _) _).alloc (by simp) _)) (zeA _) (by unfold maxLen; omega) (by omega) (by simp) ?_); go_loud (intro v3 w3 hown3 hg3; simp only [Nat.zero_add, List.nil_append] at hown3; clear cA fA cR fR; have xA3 := ((xA2.alloc _).alloc _).grown hg3 (fun e => by have e : w.heap.size = w2.heap.size + 1 := Option.some.inj e; omega); have xR3 := ((xR2.alloc _).alloc _).grown hg3 (fun e => by have e : w.heap.size + 1 = w2.heap.size + 1 := Option.some.inj e; omega); have xN3 := (xN2.alloc _).grown hg3 (fun e => by have e : w2.heap.size = w2.heap.size + 1 := Option.some.inj e; omega); have cA := xA3.cell; have fA := xA3.free; have cR := xR3.cell; have fR := xR3.free; have cN := xN3.cell; have fN := xN3.free; have hz3 : w2.heap.size + 2 <= w3.heap.size := (by have := hg3.size; simpa using this)))
  | (at_builtin; refine zaw rfl (.tmp 40) (.tmp 44) 23 rfl (w2.heap.size + 1) 80 i0 _ 2 24 Tryz.underlying23 hi hz0 hz1 hz2 rfl (by decide) _ d.cache.length (zaL d.cache) rfl (hown3.alloc _) _ 1 1 [.int .i64 i, .string data] rfl (by intro e; cases e) rfl (RowAt.bx (Bx.new w3 _ _)) (by simp [Value.oneCell']) (by unfold maxLen; omega) (by omega) (by simp; omega) ?_; intro v4 w4 hown4 hg4; clear cA fA cR fR cN fN; obtain ⟨o4, c4, rfl, hs4, hr4, ho4⟩ := zag hown4; have xA4 := (xA3.alloc _).grown hg4 (by intro e; have := (hown3.lt _ e.symm).1; omega); have xR4 := (xR3.alloc _).grown hg4 (by intro e; have := (hown3.lt _ e.symm).1; omega); have xN4 := (xN3.alloc _).grown hg4 (by intro e; have := (hown3.lt _ e.symm).1; omega); have cA := xA4.cell; have fA := xA4.free; have cR := xR4.cell; have fR := xR4.free; have cN := xN4.cell; have fN := xN4.free))
 have hz4 : w3.heap.size + 1 <= w4.heap.size := by have := hg4.size; simpa using this
 have hB3 : Below w.heap.size w w3 := ((hB2.alloc (by omega) _).alloc (by simp; omega) _).grown hg3 (by simp; omega) (fun k e => by have e : w2.heap.size + 1 = k := Option.some.inj e; omega);have hB4 : Below w.heap.size w w4 := ((hB3.alloc (by omega) _).grown hg4 (by simp; omega) (by intro k e; have := (hown3.lt _ e).1; omega));refine bodyPost_ret (v := .tuple #[.agg #[.int .i64 (opD d).size, .slice po2 (opD d).pages.length pc2, .slice o4 (d.cache.length + 1) c4, .int .i64 (opD d).left], .int .i64 0]) (by simp [results, Tryz.results88, go_sem, cR]) rfl ?_;refine ⟨_, rfl, ⟨po2, pc2, o4, c4, by simp, ?_, ?_, zhf ok2 hd hn hs4⟩, ?_⟩
 .
  have hin : InS (Gr S w1 w2) w2 := fun b h => by rcases h with h | h; exact znL (hS _ h) (by omega); omega
  have hs : Same (Gr S w1 w2) w2 w4 := ((((Same.refl _ _).alloc hin _).alloc (hin.size (by simp)) _).grown hg3 (hin.size (by simp; omega)) (fun b e h => by have e : w2.heap.size + 1 = b := Option.some.inj e; have := hin b h; omega)).alloc (hin.size (by omega)) _ |>.grown hg4 (hin.size (by simp; omega)) (fun b e h => by have := (hown3.lt _ e).1; have := hin b h; omega);refine zaP.mono (S := Gr S w1 w2) ?_ (fun b h => by rcases h with h | h; exact .inl h; exact Gr.new (by omega) (by simp only [World.size_setCell]; omega));exact hp2.same ((hs.set1 nN).set4 nR)
 . refine PWsAt.mono (S := fun b => w2.heap.size + 1 <= b /\ b < w4.heap.size) ?_ (fun b h => Gr.new (by omega) (by simp only [World.size_setCell]; omega));exact (PWsAt.of_row (l := d.cache ++ [⟨i, data⟩]) (by rw [zcU]; exact hr4)).same (((Same.refl _ _).set1 (b := w2.heap.size) (by omega)).set4 (b := w.heap.size + 1) (by omega))
 . exact zai (b := w.heap.size + 1) (zaa (b := w2.heap.size) hB4 (by omega)) (by omega)
set_option maxHeartbeats 1000000 in
theorem zd2 (d : Dsk) (v : Value) (i : Int) (data : ByteArray) (w : World) {S : Nat -> Prop} (hS : InS S w) (hD : DskR S w v d) (_hd : data.size <= 140737488351232) (_hn : d.cache.length <= 1000000) (hz : (chk d != 0) = false) (g1 : decide (i < 0) = false) (g2 : decide ((d.pages.length : Int) <= i) = false) (g3 : ((data.size : Int) != d.size) = false) (g4 : (d.left == 0) = true) :
  Calls Tryz.prog 88 #[v, .int .i64 i, .string data] w (RetDE S w d 18) := by
 have hD0 := hD;obtain ⟨po, pc, co, cc, rfl, hp, hc, ok⟩ := hD;have ok1 := ok.pages;have okW := zhI ok;have hcW := hc;clear ok hp hc;obtain ⟨i0, hi, hz0, hz1, hz2⟩ := info_parts zdS;have hbw : ∀ o o', Below w.heap.size w ((w.alloc o).alloc o') := fun o o' => ((Below.refl _ _).alloc (Nat.le_refl _) _).alloc (by simp) _;have slc := okW.out.slc;have hpw : ∀ (W : World) (v : Value), DskR S W v d -> Calls Tryz.prog 128 #[v] W (RetDE S W d 18) := fun W v h => by have := zbu d v W h; rw [if_pos (by simpa using g4), if_pos (by simpa using g4)] at this; exact this
 go_enter Tryz.func88, Tryz.ntmps88;go_wp2_with fail;refine (zav d _ _ (hD0.below (hbw _ _))).mono ?_;rintro e w1 ⟨rfl, hb1⟩;have xA := ((Bx.new w _ _).alloc _).belowAll hb1;have xR := (Bx.new (w.alloc _) _ _).belowAll hb1;rw [World.size_alloc] at xR;have cA := xA.cell;have fA := xA.free;have cR := xR.cell;have fR := xR.free;have hB : Below w.heap.size w w1 := (hbw _ _).trans (hb1.mono (by simp; omega));have hlA := xA.lt;have hlR := xR.lt;go_wp2_with fail;refine (hpw _ _ ((hD0.below (hbw _ _)).below hb1)).mono ?_;rintro e w2 ⟨v2, rfl, hD2, hb2⟩;have xA2 := xA.belowAll hb2;have xR2 := xR.belowAll hb2;have hB2 : Below w.heap.size w w2 := hB.trans (hb2.mono (by omega));clear cA fA cR fR;have hE2 := hD2;obtain ⟨po2, pc2, co2, cc2, rfl, hp2, hc2, ok2⟩ := hD2;have cA := xA2.cell;have fA := xA2.free;have cR := xR2.cell;have fR := xR2.free;have hlA2 := xA2.lt;have hlR2 := xR2.lt;have nA : ¬ Gr S w1 w2 w.heap.size := by rintro (h | h); exact absurd (hS _ h) (by omega); omega
 have nR : ¬ Gr S w1 w2 (w.heap.size + 1) := by rintro (h | h); exact absurd (hS _ h) (by omega); omega
 have nN : ¬ Gr S w1 w2 w2.heap.size := by rintro (h | h); exact absurd (hS _ h) (by omega); omega
 go_wp2;refine bodyPost_ret (v := .tuple #[.agg #[.int .i64 d.size, .slice po2 d.pages.length pc2, .slice co2 d.cache.length cc2, .int .i64 d.left], .int .i64 18]) (by simp [results, Tryz.results88, go_sem, cR, hlR2]) rfl ?_;have hin : InS (Gr S w1 w2) w2 := fun b h => by rcases h with h | h; exact znL (hS _ h) (by omega); omega
 refine ⟨_, rfl, DskR.mono (S := Gr S w1 w2) ?_ (fun b h => by rcases h with h | h; exact .inl h; exact Gr.new (by omega) (by simp; omega)), ?_⟩
 . exact hE2.same (((Same.refl _ _).set4 nR).alloc (hin.size (by simp)) _)
 . exact (zai (b := w.heap.size + 1) hB2 (by omega)).alloc (by simp; omega) _
set_option maxHeartbeats 1000000 in
theorem zia (d : Dsk) (v : Value) (i : Int) (data : ByteArray) (w : World) {S : Nat -> Prop} (hS : InS S w) (hD : DskR S w v d) (hd : data.size <= 140737488351232) (hn : d.cache.length <= 1000000) :
  Calls Tryz.prog 88 #[v, .int .i64 i, .string data] w (RetDE S w (zaK d i data).1 (zaK d i data).2) := by
 have hD0 := hD;obtain ⟨po, pc, co, cc, rfl, hp, hc, ok⟩ := hD;have ok1 := ok.pages;have okW := zhI ok;clear ok hp hc;obtain ⟨i0, hi, hz0, hz1, hz2⟩ := info_parts zdS;have hbw : ∀ o o', Below w.heap.size w ((w.alloc o).alloc o') := fun o o' => ((Below.refl _ _).alloc (Nat.le_refl _) _).alloc (by simp) _;unfold zaK;cases hz : (chk d != 0)
 .
  rw [if_neg (by simpa using hz)];cases g1 : decide (i < 0)
  .
   cases g2 : decide ((d.pages.length : Int) <= i)
   .
    rw [if_neg (by simp at g1 g2; omega)];cases g3 : ((data.size : Int) != d.size)
    .
     rw [if_neg (by simpa using g3)];cases g4 : (d.left == 0)
     . rw [if_neg (by simpa using g4)];exact zeY d _ i data w hS hD0 hd hn hz g1 g2 g3 g4
     . rw [if_pos (by simpa using g4)];exact zd2 d _ i data w hS hD0 hd hn hz g1 g2 g3 g4
    . rw [if_pos (by simpa using g3)];go_enter Tryz.func88, Tryz.ntmps88;go_wp2_with fail;refine (zav d _ _ (hD0.below (hbw _ _))).mono ?_;rintro e w1 ⟨rfl, hb1⟩;have xA := ((Bx.new w _ _).alloc _).belowAll hb1;have xR := (Bx.new (w.alloc _) _ _).belowAll hb1;rw [World.size_alloc] at xR;have cA := xA.cell;have fA := xA.free;have cR := xR.cell;have fR := xR.free;have hB : Below w.heap.size w w1 := (hbw _ _).trans (hb1.mono (by simp; omega));have hlA := xA.lt;have hlR := xR.lt;go_wp2;refine bodyPost_ret (v := .tuple #[.agg #[.int .i64 0, .slice none 0 0, .slice none 0 0, .int .i64 0], .int .i64 10]) (by simp [results, Tryz.results88, go_sem, cR]) rfl ?_;exact ⟨_, rfl, zaD _, (by repeat (first | exact hB | (refine Below.setCell ?_ (by simp) _) | (refine Below.alloc ?_ (by simp; omega) _) | (refine Below.drewN ?_ _) | (refine Below.drew ?_)))⟩
   . rw [if_pos (by simp at g1 g2; omega)];go_enter Tryz.func88, Tryz.ntmps88;go_wp2_with fail;refine (zav d _ _ (hD0.below (hbw _ _))).mono ?_;rintro e w1 ⟨rfl, hb1⟩;have xA := ((Bx.new w _ _).alloc _).belowAll hb1;have xR := (Bx.new (w.alloc _) _ _).belowAll hb1;rw [World.size_alloc] at xR;have cA := xA.cell;have fA := xA.free;have cR := xR.cell;have fR := xR.free;have hB : Below w.heap.size w w1 := (hbw _ _).trans (hb1.mono (by simp; omega));have hlA := xA.lt;have hlR := xR.lt;go_wp2;refine bodyPost_ret (v := .tuple #[.agg #[.int .i64 0, .slice none 0 0, .slice none 0 0, .int .i64 0], .int .i64 2]) (by simp [results, Tryz.results88, go_sem, cR]) rfl ?_;exact ⟨_, rfl, zaD _, (by repeat (first | exact hB | (refine Below.setCell ?_ (by simp) _) | (refine Below.alloc ?_ (by simp; omega) _) | (refine Below.drewN ?_ _) | (refine Below.drew ?_)))⟩
  . rw [if_pos (by simp at g1; omega)];go_enter Tryz.func88, Tryz.ntmps88;go_wp2_with fail;refine (zav d _ _ (hD0.below (hbw _ _))).mono ?_;rintro e w1 ⟨rfl, hb1⟩;have xA := ((Bx.new w _ _).alloc _).belowAll hb1;have xR := (Bx.new (w.alloc _) _ _).belowAll hb1;rw [World.size_alloc] at xR;have cA := xA.cell;have fA := xA.free;have cR := xR.cell;have fR := xR.free;have hB : Below w.heap.size w w1 := (hbw _ _).trans (hb1.mono (by simp; omega));have hlA := xA.lt;have hlR := xR.lt;go_wp2;refine bodyPost_ret (v := .tuple #[.agg #[.int .i64 0, .slice none 0 0, .slice none 0 0, .int .i64 0], .int .i64 2]) (by simp [results, Tryz.results88, go_sem, cR]) rfl ?_;exact ⟨_, rfl, zaD _, (by repeat (first | exact hB | (refine Below.setCell ?_ (by simp) _) | (refine Below.alloc ?_ (by simp; omega) _) | (refine Below.drewN ?_ _) | (refine Below.drew ?_)))⟩
 . rw [if_pos (by simpa using hz)];go_enter Tryz.func88, Tryz.ntmps88;go_wp2_with fail;refine (zav d _ _ (hD0.below (hbw _ _))).mono ?_;rintro e w1 ⟨rfl, hb1⟩;have xA := ((Bx.new w _ _).alloc _).belowAll hb1;have xR := (Bx.new (w.alloc _) _ _).belowAll hb1;rw [World.size_alloc] at xR;have cA := xA.cell;have fA := xA.free;have cR := xR.cell;have fR := xR.free;have hB : Below w.heap.size w w1 := (hbw _ _).trans (hb1.mono (by simp; omega));have hlA := xA.lt;have hlR := xR.lt;go_wp2;refine bodyPost_ret (v := .tuple #[.agg #[.int .i64 0, .slice none 0 0, .slice none 0 0, .int .i64 0], .int .i64 1]) (by simp [results, Tryz.results88, go_sem, cR]) rfl ?_;exact ⟨_, rfl, zaD _, (by repeat (first | exact hB | (refine Below.setCell ?_ (by simp) _) | (refine Below.alloc ?_ (by simp; omega) _) | (refine Below.drewN ?_ _) | (refine Below.drew ?_)))⟩
end Go.Proofs.YtlefmmhlpgmbjaaGreat
