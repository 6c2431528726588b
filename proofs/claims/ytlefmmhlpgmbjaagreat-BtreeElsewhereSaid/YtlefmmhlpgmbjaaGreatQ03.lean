/- disk.Read (layer 40) for every disk and index: the pair 'readD' of the disk. Contracts of Crash of layer 40, of the program's and the reference's. disk.Flush (layer 40) for every disk: the pair 'flushD' of the disk. Contract of the reference's Write of layer 40. disk.Flush (layer 40): the two failing ways, and all together; the reference's Flush. Contract of the reference's Crash of layer 40. Contracts of Same and Great of the reference of layer 40. law 40's 'awake': it returns true. Regions that draw their order, whose operations read what was there before and whose callees may make memory but answer with one value whatever they find above it: walked once, in the order of the text. Two words on worlds that grow. -/
import Derived.Test.YtlefmmhlpgmbjaaGreatQ02
import Derived.Test.YtlefmmhlpgmbjaaGreatQ01
import Derived.StillTailTactics
import Derived.Deep.RegionHeld3
import Derived.Deep.DeepCutAuto
import Derived.BigQuiet
import Derived.Deep.QuietTactic
import Derived.WalkKit
import Derived.Below
namespace Go.Proofs.YtlefmmhlpgmbjaaGreat
set_option maxRecDepth 100000
open Go.RowKit Go.Shelf
attribute [local go_sem] Oper.semAt_some
theorem bkF_mem {l : List PW} {k : Nat} (hk : k <= l.length) {x : PW} (hx : x ∈ l.drop (l.length - k)) : ∃ p ∈ upto (bkF l) k, p.2 = x := by
 obtain ⟨m, hm, rfl⟩ := List.mem_iff_getElem.1 hx
 have hm' : m < k := by simp at hm; omega
 refine ⟨bkF l (k - 1 - m), List.mem_map.2 ⟨k - 1 - m, List.mem_range.2 (by omega), rfl⟩, ?_⟩
 have e : l.length - 1 - (k - 1 - m) = l.length - k + m := by omega
 simp [bkF, e]
 rw [List.getElem?_eq_getElem (by omega)]; rfl
theorem lastW_none {i : Int} {l : List PW} (h : ∀ x ∈ l, (x.page == i) = false) (s : ByteArray) : lastW i l s = s := by
 induction l generalizing s with
 | nil => rfl
 | cons x l ih =>
  rw [lastW, if_neg (by simpa using h x (by simp)), ih (fun y hy => h y (by simp [hy]))]
theorem lastW_app {i : Int} (a b : List PW) (s : ByteArray) : lastW i (a ++ b) s = lastW i b (lastW i a s) := by
 induction a generalizing s with
 | nil => rfl
 | cons x a ih => rw [List.cons_append, lastW, lastW, ih]
theorem lastW_all {i : Int} {l : List PW} (h : ∀ p ∈ upto (bkF l) l.length, (p.2.page == i) = false) (s : ByteArray) : lastW i l s = s :=
 lastW_none (fun x hx => by obtain ⟨p, hp, rfl⟩ := bkF_mem (Nat.le_refl l.length) (x := x) (by simpa using hx); exact h p hp) s
theorem lastW_at {i : Int} {l : List PW} {k : Nat} (hk : k < l.length) (h : ∀ p ∈ upto (bkF l) k, (p.2.page == i) = false) (hx : ((bkF l k).2.page == i) = true) (s : ByteArray) : lastW i l s = (bkF l k).2.data := by
 have e : l = l.take (l.length - 1 - k) ++ (l[l.length - 1 - k] :: l.drop (l.length - k)) := by
  rw [show l.length - k = l.length - 1 - k + 1 by omega, <- List.drop_eq_getElem_cons, List.take_append_drop]
 have e2 : (bkF l k).2 = l[l.length - 1 - k] := by simp [bkF, List.getElem?_eq_getElem (show l.length - 1 - k < l.length by omega)]
 rw [e2] at hx |-
 rw [show lastW i l s = lastW i (l.take (l.length - 1 - k) ++ (l[l.length - 1 - k] :: l.drop (l.length - k))) s by rw [<- e], lastW_app, lastW, if_pos (by simpa using hx)]
 exact lastW_none (fun x hx => by obtain ⟨p, hp, rfl⟩ := bkF_mem (Nat.le_of_lt hk) hx; exact h p hp) _
set_option maxRecDepth 100000 in
set_option maxHeartbeats 2000000 in
theorem disk_read (d : Dsk) (v : Value) (i : Int) (w : World) {S : Nat -> Prop} (hS : InS S w) (hD : DskR S w v d) :
  Calls Tryz.prog 41 #[v, .int .i64 i] w fun e w' => e = .returned (.tuple #[.string (readD d i).1, .int .i64 (readD d i).2]) /\ Below w.heap.size w w' := by
 have hD0 := hD
 obtain ⟨po, pc, co, cc, rfl, hp, hc, ok⟩ := hD
 have ok1 := ok.pages
 have ok2 := ok.cache
 have hcb : ∀ k (h : k < d.pages.length), ∃ b off, po = some ⟨b, off, none⟩ /\ w.cell? ⟨b, off + k, none⟩ = some (.string d.pages[k]) := fun k h => by
  obtain ⟨b, off, e, h1, _⟩ := hp k h; exact ⟨b, off, e, h1⟩
 obtain ⟨n, hn⟩ : ∃ n, 9 <= n := ⟨9, Nat.le_refl _⟩
 refine (callsIn_wide (n := n)).1 ?_
 have hro : Fence.wide.round = none := rfl
 have h1 : 1 <= n := by omega
 refine callsIn_of_wp_marks Tryz.func41 rfl trivial ?_ hro
 simp only [Tryz.ntmps41, List.size_toArray, zlC, List.length_nil, Nat.reduceAdd, Nat.reduceSub, Array.replicate_succ, Array.replicate_zero, List.push_toArray, List.append_toArray, List.nil_append, List.cons_append]
 generalize hres : readD d i = res
 unfold readD at hres
 have hbw : ∀ o1 o2 o3 o4, Below w.heap.size w ((((w.alloc o1).alloc o2).alloc o3).alloc o4) := fun o1 o2 o3 o4 =>
  ((((Below.refl _ _).alloc (Nat.le_refl _) _).alloc (by simp) _).alloc (by simp; omega) _).alloc (by simp; omega) _
 gi_wp2_with (refine ⟨trivial, ?_⟩; gi_at_call 43; refine (callsIn_wide.2 (disk_check d _ _ (hD0.below (hbw _ _ _ _)))).mono ?_)
 rintro e w1 ⟨rfl, hb⟩
 have xD := ((((Bx.new w #[.int .i64 d.size, .slice po d.pages.length pc, .slice co d.cache.length cc, .int .i64 d.left] 25).alloc (.cells #[.int .i64 i] 3)).alloc (.cells #[.string ⟨#[]⟩] 9)).alloc (.cells #[.int .i64 0] 28)).belowAll hb
 have xI := (((Bx.newAt (w.alloc (.cells #[.int .i64 d.size, .slice po d.pages.length pc, .slice co d.cache.length cc, .int .i64 d.left] 25)) #[.int .i64 i] 3 (w.heap.size + 1) (by simp)).alloc (.cells #[.string ⟨#[]⟩] 9)).alloc (.cells #[.int .i64 0] 28)).belowAll hb
 have xS := ((Bx.newAt ((w.alloc (.cells #[.int .i64 d.size, .slice po d.pages.length pc, .slice co d.cache.length cc, .int .i64 d.left] 25)).alloc (.cells #[.int .i64 i] 3)) #[.string ⟨#[]⟩] 9 (w.heap.size + 1 + 1) (by simp)).alloc (.cells #[.int .i64 0] 28)).belowAll hb
 have xE := (Bx.newAt (((w.alloc (.cells #[.int .i64 d.size, .slice po d.pages.length pc, .slice co d.cache.length cc, .int .i64 d.left] 25)).alloc (.cells #[.int .i64 i] 3)).alloc (.cells #[.string ⟨#[]⟩] 9)) #[.int .i64 0] 28 (w.heap.size + 1 + 1 + 1) (by simp)).belowAll hb
 have hB1 : Below w.heap.size w w1 := (hbw _ _ _ _).trans (hb.mono (by simp; omega))
 have hsz : w.heap.size + 4 <= w1.heap.size := by have := hb.size; simp at this; omega
 clear hb
 have cD0 := xD.cell 0; have cD1 := xD.cell 1; have cD2 := xD.cell 2; have cD3 := xD.cell 3
 have cI := xI.cell 0; have cS := xS.cell 0; have cE := xE.cell 0
 have fS := xS.free 0; have fE := xE.free 0
 have lS := xS.lt; have lE := xE.lt; have lD := xD.lt; have lI := xI.lt
 simp at cD0 cD1 cD2 cD3 cI cS cE
 cases hz : (chk d != 0)
 .
  rw [if_neg (by simpa using hz)] at hres
  by_cases hneg : i < 0
  .
   rw [if_pos hneg] at hres
   subst hres
   gi_wp2
   refine ⟨.tuple #[.string ByteArray.empty, .int .i64 2], ?_, rfl, below_set1 (b := w.heap.size + 1 + 1 + 1) (below_set1 (b := w.heap.size + 1 + 1) hB1 (by omega)) (by omega)⟩
   simp [results, Tryz.f41, go_sem, cS, cE]
   all_goals first | rfl | omega
  .
   rw [if_neg hneg] at hres
   obtain ⟨k, rfl⟩ := Int.eq_ofNat_of_zero_le (Int.not_lt.1 hneg)
   rw [Int.toNat_natCast] at hres
   by_cases hk : k < d.pages.length
   .
    rw [dif_pos hk] at hres
    subst hres
    obtain ⟨pb, poff, rfl, hcell0⟩ := hcb k hk
    gi_wp2_with (refine ⟨trivial, ?_⟩; gi_at_call 82; refine (back_in Fence.wide _ trivial hro _ _ _ _).mono ?_; rintro e w' ⟨rfl, rfl⟩)
    obtain ⟨W0, hW0⟩ : ∃ W0, w1.alloc (.cells #[.slice co d.cache.length cc] 23) = W0 := ⟨_, rfl⟩
    have yB : Bx W0 w1.heap.size #[.slice co d.cache.length cc] 23 := by rw [<- hW0]; exact Bx.new _ _ _
    have yD := xD.alloc (.cells #[.slice co d.cache.length cc] 23); rw [hW0] at yD
    have yI := xI.alloc (.cells #[.slice co d.cache.length cc] 23); rw [hW0] at yI
    have yS := xS.alloc (.cells #[.slice co d.cache.length cc] 23); rw [hW0] at yS
    have yE := xE.alloc (.cells #[.slice co d.cache.length cc] 23); rw [hW0] at yE
    have hB0 : Below w.heap.size w W0 := by rw [<- hW0]; exact hB1.alloc (by omega) _
    have hc0 : PWsAt S W0 co d.cache := hc.below hB0
    have hbS : ∀ b, S b -> b < w1.heap.size + 1 := fun b h => by have := hS b h; omega
    have hs0 : W0.heap.size = w1.heap.size + 1 := by rw [<- hW0]; simp
    rw [hW0]
    clear hW0 xD xI xS xE cD0 cD1 cD2 cD3 cI cS cE fS fE lS lE lD lI
    refine wpIn_rangeFunc_ownH hro h1 (gf := 124) (lb := #[.pointer (some ⟨w1.heap.size, 0, none⟩)]) rfl trivial (enters_of Tryz.func124 (by kernel_rfl) rfl)
     (back_stops Fence.wide (n - 1) trivial hro (by omega) w1.heap.size (w1.heap.size + 1) cc co d.cache ok2 hbS W0 (by omega) (by omega) (yB.cell 0) hc0) belowK_t (belowK_b (by omega)) (Below.refl _ _) (fun _ => rfl)
     (fun pre W => ((((∀ p ∈ pre, (p.2.page == (k : Int)) = false) /\ Bx W (w.heap.size + 1) #[.int .i64 k] 3) /\ Bx W (w.heap.size + 1 + 1) #[.string ⟨#[]⟩] 9 /\ Bx W (w.heap.size + 1 + 1 + 1) #[.int .i64 0] 28) /\ Bx W w.heap.size #[.int .i64 d.size, .slice (some ⟨pb, poff, none⟩) d.pages.length pc, .slice co d.cache.length cc, .int .i64 d.left] 25) /\ Below w.heap.size w W /\ Bx W w1.heap.size #[.slice co d.cache.length cc] 23)
     (fun c pre W => ((c = .ret /\ ∃ ini last, pre = ini ++ [last] /\ (∀ p ∈ ini, (p.2.page == (k : Int)) = false) /\ (last.2.page == (k : Int)) = true /\ Bx W (w.heap.size + 1 + 1) #[.string last.2.data] 9) /\ Bx W (w.heap.size + 1 + 1 + 1) #[.int .i64 0] 28) /\ Below w.heap.size w W)
     (OwnFrom.and (Own.from (fun s A B row hs hg hr => ⟨⟨⟨hs.1.1.1, bx_own hs.1.1.2 hg hr⟩, bx_own hs.1.2.1 hg hr, bx_own hs.1.2.2 hg hr⟩, bx_own hs.2 hg hr⟩) _) (OwnFrom.and (ownFrom_below (Nat.le_refl _) (by omega)) (Own.from (fun s A B row hs hg hr => bx_own hs hg hr) _)))
     (fun c => OwnFrom.and (Own.from (fun s A B row hs hg hr => by obtain ⟨⟨hc, ini, last, e1, e2, e3, e4⟩, e5⟩ := hs; exact ⟨⟨hc, ini, last, e1, e2, e3, bx_own e4 hg hr⟩, bx_own e5 hg hr⟩) _) (ownFrom_below (Nat.le_refl _) (by omega)))
     ⟨⟨⟨⟨by simp, yI⟩, yS, yE⟩, yD⟩, hB0, yB⟩
     (fun x a' W => ∃ Bb, w1.heap.size < Bb /\ Bx W Bb #[.int .i64 x.2.page, .string x.2.data] 80 /\ a' = { tmps := #[.agg #[.int .i64 d.size, .slice (some ⟨pb, poff, none⟩) d.pages.length pc, .slice co d.cache.length cc, .int .i64 d.left], .int .i64 k, .pointer (some ⟨w.heap.size, 0, none⟩), .pointer (some ⟨w.heap.size + 1, 0, none⟩), .pointer (some ⟨w.heap.size + 1 + 1, 0, none⟩), .pointer (some ⟨w.heap.size + 1 + 1 + 1, 0, none⟩), undef, .pointer (some ⟨Bb, 0, none⟩), .bool false, .agg #[.int .i64 d.size, .slice (some ⟨pb, poff, none⟩) d.pages.length pc, .slice co d.cache.length cc, .int .i64 d.left], .int .i64 (chk d), .bool false, .bool (decide ((k : Int) < 0)), .int .i64 k, .bool (decide ((k : Int) < 0)), .bool (decide ((k : Int) < 0)), .int .i64 k, .pointer (some ⟨w.heap.size, 1, none⟩), .slice (some ⟨pb, poff, none⟩) d.pages.length pc, .int .i64 d.pages.length, .bool false, .bool (decide ((k : Int) < 0)), .pointer (some ⟨w.heap.size, 2, none⟩), .slice co d.cache.length cc, .func (.func 124) #[] #[.pointer (some ⟨w1.heap.size, 0, none⟩)], .int .i64 x.1, .agg #[.int .i64 x.2.page, .string x.2.data], undef, undef, undef, undef, undef, undef, undef, undef, undef, undef, undef], defers := [] })
     (fun x a' X Y row s hs hg hr => by obtain ⟨Bb, e1, e2, e3⟩ := hs; exact ⟨Bb, e1, bx_own e2 hg (fun r e => (hr r e).2), e3⟩)
     ?assign ?body ?done ?stop
    case assign =>
     rintro l pre x W K ⟨⟨⟨⟨hp, b2⟩, b3, b4⟩, b1⟩, hB, b5⟩ hK
     have l5 := b5.lt
     gi_wp2
     exact hK _ _ ((KeepsOthers.alloc _ _).from _) ((Below.refl _ W).alloc (by omega) _) ⟨⟨⟨⟨hp, b2.alloc _⟩, b3.alloc _, b4.alloc _⟩, b1.alloc _⟩, hB.alloc hB.size _, b5.alloc _⟩ ⟨W.heap.size, l5, Bx.new W _ _, rfl⟩
    case body =>
     rintro l pre x a' W hl ⟨r, hr⟩ ⟨⟨⟨⟨hp, b2⟩, b3, b4⟩, b1⟩, hB, b5⟩ ⟨Bb, hBb, bX, rfl⟩ hlt
     have cI := b2.cell 0; have cS := b3.cell 0; have cE := b4.cell 0
     have cX := bX.cell 0; have cX' := bX.cell 1
     have fS := b3.free 0; have fE := b4.free 0
     have lS := b3.lt; have lE := b4.lt
     simp at cI cS cE cX cX'
     cases hx : (x.2.page == (k : Int))
     .
      gi_wp2
      exact ⟨KeepsFrom.refl _ _, Below.refl _ _, ⟨⟨⟨fun p hp' => (zmA.1 hp').elim (hp p) (fun e => by simp at e; subst e; exact hx), b2⟩, b3, b4⟩, b1⟩, hB, b5⟩
     .
      gi_wp2
      exact ⟨((KeepsOthers.setCell _ _ _).trans (KeepsOthers.setCell _ _ _)).from _, ⟨⟨rfl, pre, x, rfl, hp, hx, (b3.set 0 (.string x.2.data)).setO (by simp) _⟩, (b4.setO (a := ⟨w.heap.size + 1 + 1, 0, none⟩) (by simp) _).set 0 (.int .i64 0)⟩,
       below_set1 (b := w.heap.size + 1 + 1 + 1) (below_set1 (b := w.heap.size + 1 + 1) hB (by omega)) (by omega)⟩
    case done =>
     rintro D ys W hD rfl ⟨⟨⟨⟨hp, b2⟩, b3, b4⟩, b1⟩, hB, b5⟩ hK
     have hl := lastW_all hp d.pages[k]
     have cD1 := b1.cell 1; have cI := b2.cell 0; have cS := b3.cell 0; have cE := b4.cell 0
     have fS := b3.free 0; have fE := b4.free 0
     have lS := b3.lt; have lE := b4.lt
     have hcell : W.cell? ⟨pb, poff + k, none⟩ = some (.string d.pages[k]) := by rw [hB.cell (World.block_lt_of_cell? w _ hcell0)]; exact hcell0
     simp at cD1 cI cS cE
     gi_wp2
     have hK' := ((KeepsOthers.setCell W ⟨w.heap.size + 1 + 1, 0, none⟩ (.string d.pages[k])).trans (KeepsOthers.setCell _ ⟨w.heap.size + 1 + 1 + 1, 0, none⟩ (.int .i64 0))).same D _ hK rfl
     have hB' : Below w.heap.size w ((W.setCell ⟨w.heap.size + 1 + 1, 0, none⟩ (.string d.pages[k])).setCell ⟨w.heap.size + 1 + 1 + 1, 0, none⟩ (.int .i64 0)) := below_set1 (b := w.heap.size + 1 + 1 + 1) (below_set1 (b := w.heap.size + 1 + 1) hB (by omega)) (by omega)
     refine ⟨by simp, .inl ⟨_, _, rfl, run_takeDeferred hK', ?_⟩⟩
     have c5 := ((bx_own ((b3.set 0 (.string d.pages[k])).setO (a := ⟨w.heap.size + 1 + 1 + 1, 0, none⟩) (by simp) (.int .i64 0)) (grownBy_putObj' _ D (.deferred none)) (fun r e => by cases e; exact ⟨_, hK', rfl⟩))).cell 0
     have c6 := ((bx_own ((b4.setO (a := ⟨w.heap.size + 1 + 1, 0, none⟩) (by simp) (.string d.pages[k])).set 0 (.int .i64 0)) (grownBy_putObj' _ D (.deferred none)) (fun r e => by cases e; exact ⟨_, hK', rfl⟩))).cell 0
     simp at c5 c6
     refine ⟨.tuple #[.string d.pages[k], .int .i64 0], ?_, by rw [contentD, hl], hB'.trans (belowK_b (w := w) (Nat.le_refl _) _ D _ _ (by omega) hK' rfl rfl)⟩
     simp [results, Tryz.f41, go_sem, c5, c6]
    case stop =>
     rintro D c pre W hD ⟨j, hj, rfl⟩ ⟨⟨⟨rfl, ini, last, e1, e2, e3, b3⟩, b4⟩, hB⟩ hK
     gi_wp2
     refine ⟨by simp, .inl ⟨_, _, rfl, run_takeDeferred hK, ?_⟩⟩
     have c5 := (bx_own b3 (grownBy_putObj' _ D (.deferred none)) (fun r e => by cases e; exact ⟨_, hK, rfl⟩)).cell 0
     have c6 := (bx_own b4 (grownBy_putObj' _ D (.deferred none)) (fun r e => by cases e; exact ⟨_, hK, rfl⟩)).cell 0
     simp at c5 c6
     obtain ⟨j', rfl⟩ : ∃ j', j = j' + 1 := by
      cases j with
      | zero => simp [upto] at e1
      | succ j' => exact ⟨j', rfl⟩
     rw [upto_succ] at e1
     obtain ⟨rfl, e5⟩ := List.append_inj' e1 rfl
     obtain rfl : bkF d.cache j' = last := by simpa using e5
     refine ⟨.tuple #[.string (bkF d.cache j').2.data, .int .i64 0], ?_, by rw [contentD, lastW_at (by omega) e2 e3], hB.trans (belowK_b (w := w) (Nat.le_refl _) W D _ _ (by omega) hK rfl rfl)⟩
     simp [results, Tryz.f41, go_sem, c5, c6]
   .
    rw [dif_neg hk] at hres
    subst hres
    gi_wp2
    refine ⟨.tuple #[.string ByteArray.empty, .int .i64 2], ?_, rfl, below_set1 (b := w.heap.size + 1 + 1 + 1) (below_set1 (b := w.heap.size + 1 + 1) hB1 (by omega)) (by omega)⟩
    simp [results, Tryz.f41, go_sem, cS, cE]
    all_goals first | rfl | omega
 .
  rw [if_pos (by simpa using hz)] at hres
  subst hres
  gi_wp2
  refine ⟨.tuple #[.string ByteArray.empty, .int .i64 1], ?_, rfl, below_set1 (b := w.heap.size + 1 + 1 + 1) (below_set1 (b := w.heap.size + 1 + 1) hB1 (by omega)) (by omega)⟩
  simp [results, Tryz.f41, go_sem, cS, cE]
  all_goals first | rfl | omega
end Go.Proofs.YtlefmmhlpgmbjaaGreat
namespace Go.Proofs.YtlefmmhlpgmbjaaGreat
set_option maxRecDepth 100000
open Go.RowKit
theorem crashP_step {picks : List Int} {size : Int} {l : List PW} {k : Nat} (h : k < l.length) (ps : List ByteArray) :
  crashP picks size k (l.drop k) ps = crashP picks size (k + 1) (l.drop (k + 1)) (ps.set l[k].page.toNat (tear (takenI picks k size).toNat l[k].data (ps.getD l[k].page.toNat ByteArray.empty))) := by
 rw [List.drop_eq_getElem_cons h, crashP]
theorem tear_size {n : Nat} {a b : ByteArray} (h1 : n <= a.size) (h2 : a.size = b.size) : (tear n a b).size = b.size := by
 unfold tear
 rw [ByteArray.size_append, ByteArray.size_extract, ByteArray.size_extract]
 omega
theorem crash_ok {d : Dsk} {ps : List ByteArray} {o : Option Addr} {c : Nat} (hs : SlW o ps.length c) (hp : ps.length <= 2000) (hz : ∀ s ∈ ps, (s.size : Int) <= 512) : DskOk ⟨d.size, ps, [], -1⟩ o none c 0 := by
 refine ⟨hs, .inl ⟨rfl, rfl, rfl⟩, by simp; omega, by simp, ?_, by simp, by simp⟩
 intro x hx
 have := hz x hx
 omega
set_option maxHeartbeats 2000000 in
theorem disk_crash_ok (d : Dsk) (v : Value) (picks : List Int) (qo : Option Addr) (qc : Nat) (w : World) {S T : Nat -> Prop} (_hS : InS S w) (hD : DskR S w v d) (hq : IntsAt T w qo picks) (hql : picks.length <= 1000000) (hn : d.cache.length <= 1000000) (hz : chk d = 0) :
  Calls Tryz.prog 33 #[v, .slice qo picks.length qc] w (RetD S w ⟨d.size, crashP picks d.size 0 d.cache d.pages, [], -1⟩) := by
 obtain ⟨v1, v2, v3, v4⟩ := chk_zero hz
 have hr := rangedB_true v1
 have hz0 : (chk d != 0) = false := by simp [hz]
 have hD0 := hD
 obtain ⟨po, pc, co, cc, rfl, hp, hc, ok⟩ := hD
 have ok1 := ok.pages
 obtain ⟨i0, hi, hz0', hz1, hz2⟩ := info_parts infoStr
 have hbw : ∀ o o', Below w.heap.size w ((w.alloc o).alloc o') := fun o o' => ((Below.refl _ _).alloc (Nat.le_refl _) _).alloc (by simp) _
 go_enter Tryz.func33, Tryz.ntmps33
 go_wp2_with fail
 refine (disk_check d _ _ (hD0.below (hbw _ _))).mono ?_
 rintro e w1 ⟨rfl, hb1⟩
 have xA := ((Bx.new w _ _).alloc _).belowAll hb1
 have xR := (Bx.new (w.alloc _) _ _).belowAll hb1
 rw [World.size_alloc] at xR
 have cA := xA.cell
 have fA := xA.free
 have cR := xR.cell
 have fR := xR.free
 have hB : Below w.heap.size w w1 := (hbw _ _).trans (hb1.mono (by simp; omega))
 have hlR := xR.lt
 have hlA := xA.lt
 have hp1 := (hp.below (hbw _ _)).below hb1
 have hv2 := zhI v2
 have hv3 := zhI v3
 have hp2000 : d.pages.length <= 2000 := by omega
 have hs512 : 1 <= d.size /\ d.size <= 512 := hr.2.2
 clear v2 v3 hr
 go_wp2_with (first
  | (refine wpList_makeB rfl (.tmp 15) (.tmp 15) 22 rfl 9 i0 _ 16 Tryz.underlying22 hi hz0' hz1 hz2 rfl d.pages.length rfl rfl (by omega) (by omega) ?_; intro w2 xG hg2 hz2'; have xA2 := xA.grown hg2 (by simp); have xR2 := xR.grown hg2 (by simp); have hB2 := hB.grown hg2 (by omega) (by intro k e; cases e); have hp2 := hp1.below ((Below.refl _ _).grown hg2 (Nat.le_refl _) (by intro k e; cases e)); clear cA fA cR fR; have cA := xA2.cell; have fA := xA2.free; have hlA2 := xA2.lt)
  | (refine wpList_copyB rfl (.tmp 17) (.tmp 19) _ _ rfl 9 Tryz.underlying22 (by rw [hi]; simp [hz1]) w1.heap.size d.pages.length d.pages.length pc po (List.replicate d.pages.length (.string .empty)) (d.pages.map .string) 9 rfl rfl xG (by simp) (by simp) hp2.row (strs_one _) ?_; intro w3 xG3 hg3; have xA3 := xA2.grown hg3 (fun e => by have e := Option.some.inj e; omega); have xR3 := xR2.grown hg3 (fun e => by have e := Option.some.inj e; omega); have hB3 := hB2.grown hg3 (by omega) (by intro k e; cases e; omega); clear cA fA; have cA := xA3.cell; have fA := xA3.free; have hlA3 := xA3.lt))
 have hnB := zhI hB3
 go_loopw [24] (fun q wr => ∃ (k : Nat) (ps : List ByteArray), k <= d.cache.length /\ q = .int .i64 k /\ ps.length = d.pages.length /\ (∀ s ∈ ps, (s.size : Int) = d.size) /\ crashP picks d.size k (d.cache.drop k) ps = crashP picks d.size 0 d.cache d.pages /\ Bx wr w1.heap.size (ps.map Value.string).toArray 9 /\ Bx wr w.heap.size #[.int .i64 d.size, .slice po d.pages.length pc, .slice co d.cache.length cc, .int .i64 d.left] 25 /\ Bx wr (w.heap.size + 1) #[.int .i64 0, .slice none 0 0, .slice none 0 0, .int .i64 0] 25 /\ Below w.heap.size w wr) (fun q _ => d.cache.length - (intOf q).toNat)
 case atStart => exact ⟨0, d.pages, Nat.zero_le _, rfl, rfl, hv2.out, rfl, xG3, xA3, xR3, hB3⟩
 case round =>
  clear cA fA xA2 xA3 xR2 xR3 xG xG3 hg2 hg3 hB2 hB3 hp2 hp1 hlA2 hlA3
  obtain ⟨k, ps, hk, rfl, hpl, hps0, hq0, xG, xA, xR, hB⟩ := hrel
  have hq1 := zhI hq0
  have hps := zhI hps0
  have hplh := zhI hpl
  clear hq0 hps0 hpl
  have cA := xA.cell
  have fA := xA.free
  have hlG := xG.lt
  have hlA' := xA.lt
  by_cases hlt : k < d.cache.length
  .
   obtain ⟨b, off, rfl, hcell0, hcell1, _⟩ := hc k hlt
   have hcell : wr.cell? ⟨b, off + k * 2, none⟩ = some (.int .i64 d.cache[k].page) := by rw [hB.cell (World.block_lt_of_cell? w _ hcell0)]; exact hcell0
   have hcell' : wr.cell? ⟨b, off + k * 2 + 1, none⟩ = some (.string d.cache[k].data) := by rw [hB.cell (World.block_lt_of_cell? w _ hcell1)]; exact hcell1
   have hbl : b < wr.heap.size := World.block_lt_of_cell? wr _ hcell
   obtain ⟨x1, x2, x3⟩ := hv3.out d.cache[k] (List.getElem_mem hlt)
   generalize hx : d.cache[k] = x at *
   obtain ⟨xp, xd⟩ := x
   simp only at x1 x2 x3 hcell hcell'
   obtain ⟨pi, rfl⟩ := Int.eq_ofNat_of_zero_le x1
   have hpi : pi < ps.length := by rw [hplh.out]; omega
   have gcell : wr.cell? ⟨w1.heap.size, pi, none⟩ = some (.string ps[pi]) := by rw [xG.cell]; simp [hpi]
   have gfree : wr.frozen? ⟨w1.heap.size, pi, none⟩ = false := xG.free pi
   have hsz := hps.out ps[pi] (List.getElem_mem hpi)
   obtain ⟨t1, t2⟩ := takenI_bd picks k d.size (by omega)
   obtain ⟨t, ht⟩ := Int.eq_ofNat_of_zero_le t1
   have htk : ∀ W, IntsAt T W qo picks -> Calls Tryz.prog 67 #[.slice qo picks.length qc, .int .i64 k, .int .i64 d.size] W fun e w' => e = .returned (.int .i64 t) /\ W = w' := fun W h => ht ▸ disk_taken picks qo qc k d.size (by omega) (by omega) (by omega) (by omega) W h
   have hqW : IntsAt T wr qo picks := hq.below hB
   rw [ht] at t1 t2
   have hth := zhI ht
   have hxh := zhI hx
   have hszh := zhI hsz
   have x3h := zhI x3
   have u1 : t <= xd.size := by omega
   have u2 : t <= ps[pi].size := by omega
   have u3 : ¬ 9223372036854775807 < ps[pi].size := by omega
   clear ht hx hsz x3 hcell0 hcell1
   go_wp2_with (go_at_call 67; refine (htk _ (hqW.below ((Below.refl _ _).alloc (Nat.le_refl _) _))).mono ?_; rintro e w' ⟨rfl, rfl⟩)
   refine wp_region_still_tail 16 (by kernel_rfl) (by kernel_rfl) ?_
   simp only [ztP, World.drew_eq]
   repeat still_step
   refine wpStill_nil ?_
   go_wp2
   go_roundw
   case rel =>
    have e1 : ps.getD ((pi : Int)).toNat ByteArray.empty = ps[pi] := by simp [hpi]
    refine ⟨k + 1, ps.set pi (tear t xd ps[pi]), by omega, by go_num, by rw [List.length_set]; exact hplh.out, ?_, ?_, ?_, (xA.setO (by simp; omega) _).alloc _, (xR.setO (by simp; omega) _).alloc _, ((below_set1 (b := w1.heap.size) hB (by omega)).alloc (by simp; omega) _).drew⟩
    .
     intro s hs
     rcases List.mem_or_eq_of_mem_set hs with hs | rfl
     .
      exact hps.out s hs
     .
      rw [tear_size (by omega) (by have := x3h.out; have := hszh.out; omega)]; exact hszh.out
    .
     rw [<- hq1.out, crashP_step hlt, hxh.out]
     simp only
     rw [e1, hth.out]
     simp
    .
     have := (xG.set pi (Value.string (tear t xd ps[pi]))).alloc (.cells #[Value.int IntKind.i64 pi, Value.string xd] 80)
     simpa [List.map_set, tear] using this.drew
   case measure => simp [intOf]; omega
  .
   obtain rfl : k = d.cache.length := by omega
   have hps' : Hid (crashP picks d.size 0 d.cache d.pages = ps) := by unfold Hid; rw [<- hq1.out, List.drop_length]; rfl
   have cR := xR.cell
   have fR := xR.free
   have hlR' := xR.lt
   go_wp2
   refine bodyPost_ret (v := .agg #[.int .i64 d.size, .slice (some ⟨w1.heap.size, 0, none⟩) d.pages.length d.pages.length, .slice none 0 0, .int .i64 (-1)]) (by simp [results, Tryz.results33, go_sem, cR]) rfl ?_
   rw [hps'.out]
   refine ⟨_, rfl, ⟨some ⟨w1.heap.size, 0, none⟩, d.pages.length, none, 0, by simp only [hplh.out, List.length_nil], ?_, by intro i h; simp at h, crash_ok (.inr ⟨_, rfl, by rw [hplh.out]; exact Nat.le_refl _, by simp [maxLen]; omega⟩) (by rw [hplh.out]; exact hp2000) (fun s hs => by have := hps.out s hs; omega)⟩, ?_⟩
   .
    refine StrsAt.mono (S := (· = w1.heap.size)) ?_ (fun b h => Gr.new (by omega) (by simp; omega))
    exact (StrsAt.of_row (by simpa using RowAt.bx xG)).same (((((Same.refl _ _).set1 (b := w.heap.size) (by omega)).set1 (b := w.heap.size) (by omega)).set1 (b := w.heap.size) (by omega)).set4 (b := w.heap.size + 1) (by omega))
   .
    exact below_set4 (b := w.heap.size + 1) (below_set1 (b := w.heap.size) (below_set1 (b := w.heap.size) (below_set1 (b := w.heap.size) hB (by omega)) (by omega)) (by omega)) (by omega)
set_option maxHeartbeats 1000000 in
theorem disk_crash (d : Dsk) (v : Value) (picks : List Int) (qo : Option Addr) (qc : Nat) (w : World) {S T : Nat -> Prop} (hS : InS S w) (hD : DskR S w v d) (hq : IntsAt T w qo picks) (hql : picks.length <= 1000000) (hn : d.cache.length <= 1000000) :
  Calls Tryz.prog 33 #[v, .slice qo picks.length qc] w (RetD S w (crashD d picks)) := by
 unfold crashD
 cases hz : (chk d != 0)
 .
  rw [if_neg (by simpa using hz)]
  exact disk_crash_ok d v picks qo qc w hS hD hq hql hn (by simpa using hz)
 .
  rw [if_pos (by simpa using hz)]
  have hD0 := hD
  obtain ⟨po, pc, co, cc, rfl, hp, hc, ok⟩ := hD
  have hbw : ∀ o o', Below w.heap.size w ((w.alloc o).alloc o') := fun o o' => ((Below.refl _ _).alloc (Nat.le_refl _) _).alloc (by simp) _
  go_enter Tryz.func33, Tryz.ntmps33
  go_wp2_with fail
  refine (disk_check d _ _ (hD0.below (hbw _ _))).mono ?_
  rintro e w1 ⟨rfl, hb1⟩
  have xR := (Bx.new (w.alloc _) _ _).belowAll hb1
  rw [World.size_alloc] at xR
  have cR := xR.cell
  have fR := xR.free
  have hB : Below w.heap.size w w1 := (hbw _ _).trans (hb1.mono (by simp; omega))
  go_wp2
  refine bodyPost_ret (v := .agg #[.int .i64 0, .slice none 0 0, .slice none 0 0, .int .i64 0]) (by simp [results, Tryz.results33, go_sem, cR]) rfl ?_
  exact ⟨_, rfl, zero_DskR _, below_set4 (b := w.heap.size + 1) hB (by omega)⟩
end Go.Proofs.YtlefmmhlpgmbjaaGreat
namespace Go.Proofs.YtlefmmhlpgmbjaaGreat
set_option maxRecDepth 100000
open Go.RowKit Go.Shelf
theorem wpListIn_makeB {F : Fence} {nF : Nat} {P : Program} {ops : Array Oper} {rest : List Oper} {o : Oper} {a : Act} {Q : Exit -> Act -> World -> Prop} {w : World} (hgd : o.guard = none) (l c : Operand) (t : TypeId) (hop : o.op = Op.makeSlice t l c)
  (e : TypeId) (i : TypeInfo) (z : Value) (bytes : Nat) (ht : P.underlying t = some (.slice e)) (hi : P.info? e = some i) (hz : i.zero = some z) (hsize : i.size = 1) (hby : i.bytes = bytes) (hzc : z.cells = #[z])
  (n : Nat) (hl : a.eval l = .int .i64 n) (hc : a.eval c = .int .i64 n) (hb : bytes * n <= 281474976710656) (h63 : n <= 9223372036854775807)
  (hK : ∀ w', Bx w' w.heap.size (List.replicate n z).toArray e -> w.grownBy w' none -> w'.heap.size = w.heap.size + 1 -> wpListIn F nF P ops Q rest (a.put o.dst (.slice (some ⟨w.heap.size, 0, none⟩) n n)) w') :
  wpListIn F nF P ops Q (o :: rest) a w := by
 refine wpListIn_plain hgd fun K hK' => ?_
 have hb' : (i.bytes : Int) * (n : Int) <= 281474976710656 := by
  have h : ((i.bytes * n : Nat) : Int) <= 281474976710656 := by rw [hby]; omega
  rwa [Int.natCast_mul] at h
 have hrun := run_make (P := P) w t e i z ht hi hz .i64 .i64 n n (by omega) (Int.le_refl _) hb' (by omega)
 rw [hsize, hzc, Nat.mul_one, madeCells_one] at hrun
 simp only [Int.toNat_natCast] at hrun
 unfold Oper.wpIn
 refine ⟨by simp [Oper.about, hop], ?_⟩
 rw [Oper.semAt_plain F _ _ (by rw [hop]; intro c hc'; cases hc')]
 simp [execOp, hop, hl, hc, hrun, Result.andThen]
 exact hK' _ _ (by simpa using hK _ (Bx.new w _ _) (World.grownBy_alloc w _ none) (World.size_alloc _ _))
def fillP (d : Dsk) (pre : List (Fin d.pages.length)) : List ByteArray := pre.foldl (fun ps x => ps.set x.1 (contentD d x.1 x.2)) (List.replicate d.pages.length ByteArray.empty)
theorem fillP_snoc (d : Dsk) (pre : List (Fin d.pages.length)) (x : Fin d.pages.length) : fillP d (pre ++ [x]) = (fillP d pre).set x.1 (contentD d x.1 x.2) := by simp [fillP]
theorem fillP_len (d : Dsk) (pre : List (Fin d.pages.length)) : (fillP d pre).length = d.pages.length := by
 unfold fillP
 suffices ∀ (l : List (Fin d.pages.length)) (ps : List ByteArray), (l.foldl (fun ps x => ps.set x.1 (contentD d x.1 x.2)) ps).length = ps.length by rw [this]; simp
 intro l
 induction l with
 | nil => intro ps; rfl
 | cons x l ih => intro ps; rw [List.foldl_cons, ih]; simp
theorem foldl_set_get {N : Nat} (c : Fin N -> ByteArray) (j : Fin N) : ∀ (l : List (Fin N)) (ps : List ByteArray), ps.length = N -> (l.foldl (fun ps x => ps.set x.1 (c x)) ps)[j.1]? = if j ∈ l then some (c j) else ps[j.1]?
 | [], ps, _ => by simp
 | x :: l, ps, h => by
  rw [List.foldl_cons, foldl_set_get c j l _ (by simpa using h)]
  by_cases h1 : j ∈ l
  .
   simp [h1]
  .
   by_cases h2 : j = x
   .
    subst h2; simp [h1, h, j.2]
   .
    have h3 : x.1 ≠ j.1 := fun e => h2 (Fin.ext e.symm)
    simp [h1, h2, List.getElem?_set_ne h3]
theorem fillP_all (d : Dsk) : fillP d (List.finRange d.pages.length) = contentsD d := by
 apply List.ext_getElem?
 intro j
 by_cases hj : j < d.pages.length
 .
  have := foldl_set_get (fun x => contentD d x.1 x.2) ⟨j, hj⟩ (List.finRange d.pages.length) (List.replicate d.pages.length ByteArray.empty) (by simp)
  rw [if_pos (List.mem_finRange _)] at this
  unfold fillP contentsD
  rw [this]
  simp [hj]
 .
  rw [List.getElem?_eq_none (by rw [fillP_len]; omega), List.getElem?_eq_none (by simp [contentsD]; omega)]
theorem lastW_size {i : Int} {z : Int} {l : List PW} (h : ∀ x ∈ l, (x.data.size : Int) = z) : ∀ s : ByteArray, (s.size : Int) = z -> ((lastW i l s).size : Int) = z := by
 induction l with
 | nil => intro s hs; exact hs
 | cons x l ih =>
  intro s hs
  rw [lastW]
  refine ih (fun y hy => h y (by simp [hy])) _ ?_
  split
  .
   exact h x (by simp)
  .
   exact hs
theorem contents_size {d : Dsk} (hp : ∀ s ∈ d.pages, (s.size : Int) = d.size) (hc : ∀ x ∈ d.cache, (x.data.size : Int) = d.size) : ∀ s ∈ contentsD d, (s.size : Int) = d.size := by
 intro s hs
 obtain ⟨i, _, rfl⟩ := List.mem_map.1 hs
 exact lastW_size hc _ (hp _ (List.getElem_mem _))
theorem contentsD_len (d : Dsk) : (contentsD d).length = d.pages.length := by simp [contentsD]
theorem flush_ok {d : Dsk} {o : Option Addr} {c : Nat} {l : Int} (hp : ∀ s ∈ d.pages, (s.size : Int) = d.size) (hc : ∀ x ∈ d.cache, (x.data.size : Int) = d.size) (hn : d.pages.length <= 2000) (hs : d.size <= 512) (hm : d.pages.length <= maxLen) (hl : -9223372036854775808 <= l /\ l <= 9223372036854775807)
  {b : Nat} (ho : o = some ⟨b, 0, none⟩ := by rfl) (hcc : c = d.pages.length := by rfl) : DskOk ⟨d.size, contentsD d, [], l⟩ o none c 0 :=
 ⟨.inr ⟨_, ho, by rw [contentsD_len, hcc]; exact Nat.le_refl _, by rw [hcc]; exact hm⟩, .inl ⟨rfl, rfl, rfl⟩, by simp only [contentsD_len]; omega, by simp, fun s h => by have := contents_size hp hc s h; omega, by simp, hl⟩
section
attribute [local go_sem] Oper.semAt_some
set_option maxRecDepth 100000 in
set_option maxHeartbeats 4000000 in
theorem disk_flush_ok (d : Dsk) (v : Value) (w : World) {S : Nat -> Prop} (hS : InS S w) (hD : DskR S w v d) (hz : (chk d != 0) = false) (g4 : (d.left == 0) = false) :
  Calls Tryz.prog 84 #[v] w (RetDE S w ⟨d.size, contentsD d, [], (opD d).left⟩ 0) := by
 obtain ⟨v1, v2, v3, v4⟩ := chk_zero (by simpa using hz)
 have hr := rangedB_true v1
 have hD0 := hD
 obtain ⟨po, pc, co, cc, rfl, hp, hc, ok⟩ := hD
 have ok1 := ok.pages
 have okW := zhI ok
 clear ok hp hc
 obtain ⟨i0, hi, hz0', hz1, hz2⟩ := info_parts infoStr
 have hbw : ∀ o o', Below w.heap.size w ((w.alloc o).alloc o') := fun o o' => ((Below.refl _ _).alloc (Nat.le_refl _) _).alloc (by simp) _
 have hpw : ∀ (W : World) (v : Value), DskR S W v d -> Calls Tryz.prog 125 #[v] W (RetDB S W (opD d) true) := fun W v h => by have := disk_power d v W h; rw [if_neg (by simpa using g4), g4] at this; exact this
 obtain ⟨n, hn⟩ : ∃ n, 9 <= n := ⟨9, Nat.le_refl _⟩
 refine (callsIn_wide (n := n)).1 ?_
 have hro : Fence.wide.round = none := rfl
 have h1 : 1 <= n := by omega
 refine callsIn_of_wp_marks Tryz.func84 rfl trivial ?_ hro
 simp only [Tryz.ntmps84, List.size_toArray, zlC, List.length_nil, Nat.reduceAdd, Nat.reduceSub, Array.replicate_succ, Array.replicate_zero, List.push_toArray, List.append_toArray, List.nil_append, List.cons_append]
 gi_wp2_with (refine ⟨trivial, ?_⟩; gi_at_call 43; refine (callsIn_wide.2 (disk_check d _ _ (hD0.below (hbw _ _)))).mono ?_)
 rintro e w1 ⟨rfl, hb1⟩
 have xA := ((Bx.new w _ _).alloc _).belowAll hb1
 have xR := (Bx.new (w.alloc _) _ _).belowAll hb1
 rw [World.size_alloc] at xR
 have cA := xA.cell
 have fA := xA.free
 have cR := xR.cell
 have fR := xR.free
 have hB : Below w.heap.size w w1 := (hbw _ _).trans (hb1.mono (by simp; omega))
 have hlA := xA.lt
 have hlR := xR.lt
 gi_wp2_with (refine ⟨trivial, ?_⟩; gi_at_call 125; refine (callsIn_wide.2 (hpw _ _ ((hD0.below (hbw _ _)).below hb1))).mono ?_)
 rintro e w2 ⟨vv2, rfl, hD2, hb2⟩
 have xA2 := xA.belowAll hb2
 have xR2 := xR.belowAll hb2
 have hB2 : Below w.heap.size w w2 := hB.trans (hb2.mono (by omega))
 clear cA fA cR fR
 have hE2 := hD2
 obtain ⟨po2, pc2, co2, cc2, rfl, hp2, hc2, ok2⟩ := hD2
 have cA := xA2.cell
 have fA := xA2.free
 have cR := xR2.cell
 have fR := xR2.free
 have hlA2 := xA2.lt
 have hlR2 := xR2.lt
 have nA : ¬ Gr S w1 w2 w.heap.size := by rintro (h | h); exact absurd (hS _ h) (by omega); omega
 have nR : ¬ Gr S w1 w2 (w.heap.size + 1) := by rintro (h | h); exact absurd (hS _ h) (by omega); omega
 have hvh := zhI (zaI v2 v3)
 have hp2000 : d.pages.length <= 2000 := by omega
 clear v2 v3
 gi_wp2_with (first
  | (refine wpListIn_makeB rfl (.tmp 22) (.tmp 22) 22 rfl 9 i0 _ 16 Tryz.underlying22 hi hz0' hz1 hz2 rfl d.pages.length rfl rfl (by omega) (by omega) ?_; intro w3 xG hg3 hz3'; have xA3 := (xA2.set4).grown hg3 (by simp); have xR3 := (xR2.setO4 (b' := w.heap.size) (by simp)).grown hg3 (by simp); have hB3 := (below_set4 (b := w.heap.size) hB2 (Nat.le_refl _)).grown hg3 (by simp; omega) (by simp); have hp3 := (hp2.same ((Same.refl _ _).set4 nA)).same (Same.of_grown hg3 (fun b h => by rcases h with h | h; exact znL (hS _ h) (by simp; omega); simp; omega) (by simp)); clear cA fA cR fR; have cA := xA3.cell; have fA := xA3.free; have cR := xR3.cell; have fR := xR3.free; have hlA3 := xA3.lt; have hlR3 := xR3.lt)
  | (refine ⟨trivial, ?_⟩; gi_at_call 127; refine (cont_in Fence.wide _ trivial hro _ _ _ _ _).mono ?_; rintro e w' ⟨rfl, rfl⟩))
 have hz3 : w3.heap.size = w2.heap.size + 1 := by simpa using hz3'
 obtain ⟨W0, hW0⟩ : ∃ W0, (w3.alloc (.cells #[.slice (some ⟨w2.heap.size, 0, none⟩) d.pages.length d.pages.length] 22)).alloc (.cells #[.int .i64 (opD d).size, .slice po2 (opD d).pages.length pc2, .slice co2 (opD d).cache.length cc2, .int .i64 (opD d).left] 25) = W0 := ⟨_, rfl⟩
 have yG : Bx W0 w2.heap.size (List.replicate d.pages.length (Value.string .empty)).toArray 9 := by rw [<- hW0]; simp only [World.size_setCell] at xG; exact (xG.alloc _).alloc _
 have yS : Bx W0 (w2.heap.size + 1) #[.slice (some ⟨w2.heap.size, 0, none⟩) d.pages.length d.pages.length] 22 := by rw [<- hW0]; exact (Bx.newAt _ _ _ _ hz3.symm).alloc _
 have yB : Bx W0 (w2.heap.size + 1 + 1) #[.int .i64 (opD d).size, .slice po2 (opD d).pages.length pc2, .slice co2 (opD d).cache.length cc2, .int .i64 (opD d).left] 25 := by rw [<- hW0]; exact Bx.newAt _ _ _ _ (by simp [hz3])
 have yA := (xA3.alloc (.cells #[.slice (some ⟨w2.heap.size, 0, none⟩) d.pages.length d.pages.length] 22)).alloc (.cells #[.int .i64 (opD d).size, .slice po2 (opD d).pages.length pc2, .slice co2 (opD d).cache.length cc2, .int .i64 (opD d).left] 25)
 have yR := (xR3.alloc (.cells #[.slice (some ⟨w2.heap.size, 0, none⟩) d.pages.length d.pages.length] 22)).alloc (.cells #[.int .i64 (opD d).size, .slice po2 (opD d).pages.length pc2, .slice co2 (opD d).cache.length cc2, .int .i64 (opD d).left] 25)
 rw [hW0] at yA yR
 have hB0 : Below w.heap.size w W0 := by rw [<- hW0]; exact (hB3.alloc (by omega) _).alloc (by simp; omega) _
 have hSm : Same (Gr S w1 w2) w2 W0 := by
  rw [<- hW0]
  have hI : InS (Gr S w1 w2) w2 := fun b h => by rcases h with h | h; exact znL (hS _ h) (by omega); omega
  have h3 : Same (Gr S w1 w2) w2 w3 := ((Same.refl _ _).set4 nA).grown hg3 (hI.size (by simp)) (by simp)
  exact (h3.alloc (hI.size (by omega)) _).alloc (hI.size (by simp; omega)) _
 have hs0 : W0.heap.size = w2.heap.size + 3 := by rw [<- hW0]; simp [hz3]
 have hI2 : InS (Gr S w1 w2) w2 := fun b h => by rcases h with h | h; exact znL (hS _ h) (by omega); omega
 have hp0 : StrsAt (Gr S w1 w2) W0 po2 (opD d).pages := hp2.same hSm
 have hc0 : PWsAt (Gr S w1 w2) W0 co2 (opD d).cache := hc2.same hSm
 rw [hW0]
 have hs0h := zhI hs0
 clear hW0 xA xR xA2 xR2 xA3 xR3 xG cA fA cR fR hB3 hp3 hg3
 refine rangeFunc_run hro h1 (gf := 176) (lb := #[.pointer (some ⟨w2.heap.size + 1 + 1, 0, none⟩)]) rfl trivial (enters_of Tryz.func176 (by kernel_rfl) rfl)
  (encs := fun x : Fin d.pages.length => #[Value.int .i64 (x.1 : Int), .string (contentD d x.1 x.2)]) (T := fun b => Gr S w1 w2 b \/ W0.heap.size + 2 <= b) (S := fun ys => ys = List.finRange d.pages.length) (N := d.pages.length)
  (fun W1 hz1 hb1 => cont_runs Fence.wide (n - 1) trivial hro (by omega) (w2.heap.size + 1 + 1) (opD d) po2 co2 pc2 cc2 (S := Gr S w1 w2) _ W1 ok2 (fun x hx => ⟨(hvh.out.2 x hx).1, (hvh.out.2 x hx).2.1⟩) (fun b => .inl) (fun b h => .inr (by omega)) (hp0.below hb1) (hc0.below hb1) (yB.belowAll hb1))
  (by rintro (h | h); exact absurd (hI2 _ h) (by omega); omega) (fun _ => rfl)
  (fun pre W => Bx W w2.heap.size ((fillP d pre).map Value.string).toArray 9 /\ Bx W (w2.heap.size + 1) #[.slice (some ⟨w2.heap.size, 0, none⟩) d.pages.length d.pages.length] 22 /\ Bx W w.heap.size #[.int .i64 (opD d).size, .slice po2 (opD d).pages.length pc2, .slice co2 (opD d).cache.length cc2, .int .i64 (opD d).left] 25 /\ Bx W (w.heap.size + 1) #[.int .i64 0, .slice none 0 0, .slice none 0 0, .int .i64 0] 25 /\ Below w.heap.size w W)
  (fun pre W W' row h hg hr => ⟨h.1.grown hg (fun e => by have := hr _ e.symm; omega), h.2.1.grown hg (fun e => by have := hr _ e.symm; omega), h.2.2.1.grown hg (fun e => by have := hr _ e.symm; omega), h.2.2.2.1.grown hg (fun e => by have := hr _ e.symm; omega), h.2.2.2.2.grown hg h.2.2.2.2.size (fun k e => by have := hr _ e; omega)⟩)
  ⟨by simpa [fillP] using yG, yS, yA, yR, hB0⟩
  (fun x => { tmps := #[.agg #[.int .i64 d.size, .slice po d.pages.length pc, .slice co d.cache.length cc, .int .i64 d.left], .pointer (some ⟨w.heap.size, 0, none⟩), .pointer (some ⟨w.heap.size + 1, 0, none⟩), .int .i64 0, .bool true, .pointer (some ⟨w2.heap.size + 1, 0, none⟩), .int .i64 (x.1 : Int), .string (contentD d x.1 x.2), .agg #[.int .i64 d.size, .slice po d.pages.length pc, .slice co d.cache.length cc, .int .i64 d.left], .int .i64 (chk d), .bool false, undef, .tuple #[.agg #[.int .i64 (opD d).size, .slice po2 (opD d).pages.length pc2, .slice co2 (opD d).cache.length cc2, .int .i64 (opD d).left], .bool true], .agg #[.int .i64 d.size, .slice po d.pages.length pc, .slice co d.cache.length cc, .int .i64 d.left], .tuple #[.agg #[.int .i64 (opD d).size, .slice po2 (opD d).pages.length pc2, .slice co2 (opD d).cache.length cc2, .int .i64 (opD d).left], .bool true], .agg #[.int .i64 (opD d).size, .slice po2 (opD d).pages.length pc2, .slice co2 (opD d).cache.length cc2, .int .i64 (opD d).left], .bool true, .bool true, .bool false, undef, .pointer (some ⟨w.heap.size, 1, none⟩), .slice po2 (opD d).pages.length pc2, .int .i64 (opD d).pages.length, .slice (some ⟨w2.heap.size, 0, none⟩) d.pages.length d.pages.length, .agg #[.int .i64 (opD d).size, .slice po2 (opD d).pages.length pc2, .slice co2 (opD d).cache.length cc2, .int .i64 (opD d).left], .func (.func 176) #[] #[.pointer (some ⟨w2.heap.size + 1 + 1, 0, none⟩)], .int .i64 (x.1 : Int), .string (contentD d x.1 x.2), undef, undef, undef, undef, undef, undef, undef, undef], defers := [] }) ?assign ?body ?done
 case assign =>
  intro l x W K hK
  gi_wp2
  exact hK
 case body =>
  rintro l pre x W ⟨bG, bS, bA, bR, hB⟩ hlt
  have cS := bS.cell 0
  simp at cS
  have hx := x.2
  have gfree := bG.free x.1
  have gcell : W.cell? ⟨w2.heap.size, x.1, none⟩ = some (.string ((fillP d pre)[x.1]'(by rw [fillP_len]; exact x.2))) := by rw [bG.cell]; simp [fillP_len]
  have hlG := bG.lt
  gi_wp2
  have hne : ∀ b, (Gr S w1 w2 b \/ W0.heap.size + 2 <= b) -> b ≠ w2.heap.size := by
   rintro b (h | h) e
   .
    have := hI2 _ h; omega
   .
    have := hs0h.out; omega
  refine ⟨Below.heap_setCell W _ _ _ (by simp; have := hs0h.out; omega), Below.heap_setCell W _ _ _ (by simp; have := hs0h.out; omega), KeepT.set W _ (fun h => hne _ h rfl), ?_, bS.setO (by simp) _, bA.setO (by simp; omega) _, bR.setO (by simp; omega) _, below_set1 (b := w2.heap.size) hB (by omega)⟩
  have := bG.set x.1 (Value.string (contentD d x.1 x.2))
  simpa [fillP_snoc, List.map_set] using this
 case done =>
  rintro xs W rfl ⟨bG, bS, bA, bR, hB⟩ hK
  rw [fillP_all] at bG
  have cS := bS.cell 0
  have cA := bA.cell
  have fA := bA.free
  have cR := bR.cell
  have fR := bR.free
  have hlA := bA.lt
  have hlR := bR.lt
  simp at cS
  have hOk : DskOk ⟨d.size, contentsD d, [], (opD d).left⟩ (some ⟨w2.heap.size, 0, none⟩) none d.pages.length 0 := flush_ok hvh.out.1 (fun x hx => (hvh.out.2 x hx).2.2) hp2000 hr.2.2.2 (by simp [maxLen]; omega) ok2.left
  gi_wp2
  have h0 : w2.heap.size ≠ w.heap.size := by omega
  have h01 : w2.heap.size ≠ w.heap.size + 1 := by omega
  have zG := ((bG.setO (a := ⟨w.heap.size, 1, none⟩) h0 (.slice (some ⟨w2.heap.size, 0, none⟩) d.pages.length d.pages.length)).setO (a := ⟨w.heap.size, 2, none⟩) h0 (.slice none 0 0)).setO4 (v0 := .int .i64 (opD d).size) (v1 := .slice (some ⟨w2.heap.size, 0, none⟩) d.pages.length d.pages.length) (v2 := .slice none 0 0) (v3 := .int .i64 (opD d).left) h01
  have zR := (((bR.setO (a := ⟨w.heap.size, 1, none⟩) (by simp) (.slice (some ⟨w2.heap.size, 0, none⟩) d.pages.length d.pages.length)).setO (a := ⟨w.heap.size, 2, none⟩) (by simp) (.slice none 0 0))).set4 (v0 := .int .i64 (opD d).size) (v1 := .slice (some ⟨w2.heap.size, 0, none⟩) d.pages.length d.pages.length) (v2 := .slice none 0 0) (v3 := .int .i64 (opD d).left)
  have zB := below_set4 (b := w.heap.size + 1) (v0 := .int .i64 (opD d).size) (v1 := .slice (some ⟨w2.heap.size, 0, none⟩) d.pages.length d.pages.length) (v2 := .slice none 0 0) (v3 := .int .i64 (opD d).left) (below_set1 (b := w.heap.size) (k := 2) (v := .slice none 0 0) (below_set1 (b := w.heap.size) (k := 1) (v := .slice (some ⟨w2.heap.size, 0, none⟩) d.pages.length d.pages.length) hB (by omega)) (by omega)) (by omega)
  have zK := (((((((KeepsOthers.setCell W ⟨w.heap.size, 1, none⟩ (.slice (some ⟨w2.heap.size, 0, none⟩) d.pages.length d.pages.length)).trans (KeepsOthers.setCell _ ⟨w.heap.size, 2, none⟩ (.slice none 0 0))).trans (KeepsOthers.setCell _ ⟨w.heap.size + 1, 0, none⟩ (.int .i64 (opD d).size))).trans (KeepsOthers.setCell _ ⟨w.heap.size + 1, 1, none⟩ (.slice (some ⟨w2.heap.size, 0, none⟩) d.pages.length d.pages.length))).trans (KeepsOthers.setCell _ ⟨w.heap.size + 1, 2, none⟩ (.slice none 0 0))).trans (KeepsOthers.setCell _ ⟨w.heap.size + 1, 3, none⟩ (.int .i64 (opD d).left)))).same _ _ hK rfl
  have hzW : W0.heap.size < W.heap.size := (Array.getElem?_eq_some_iff.1 hK).1
  revert zG zR zB zK
  generalize hWf : ((((((W.setCell _ _).setCell _ _).setCell _ _).setCell _ _).setCell _ _).setCell _ _) = Wf
  intro zG zR zB zK
  have hzf : W0.heap.size < Wf.heap.size := (Array.getElem?_eq_some_iff.1 zK).1
  refine ⟨by simp, .inl ⟨_, _, rfl, run_takeDeferred zK, ?_⟩⟩
  have zR' := bx_own zR (grownBy_putObj' _ W0.heap.size (.deferred none)) (fun r e => by cases e; exact ⟨_, zK, rfl⟩)
  have zG' := bx_own zG (grownBy_putObj' _ W0.heap.size (.deferred none)) (fun r e => by cases e; exact ⟨_, zK, rfl⟩)
  have cZ := zR'.cell
  refine ⟨.tuple #[.agg #[.int .i64 (opD d).size, .slice (some ⟨w2.heap.size, 0, none⟩) d.pages.length d.pages.length, .slice none 0 0, .int .i64 (opD d).left], .int .i64 0], ?_, ?_⟩
  .
   simp [results, Tryz.f84, go_sem, cZ]
  .
   refine ⟨_, rfl, ⟨some ⟨w2.heap.size, 0, none⟩, d.pages.length, none, 0, by simp [contentsD, opD], ?_, by intro i h; simp at h, hOk⟩, zB.trans (belowK_b (w := w) (Nat.le_refl _) Wf W0.heap.size _ _ (by omega) zK rfl rfl)⟩
   refine StrsAt.mono (S := (· = w2.heap.size)) (.of_row (by simpa using RowAt.bx zG')) (fun b h => Gr.new (by omega) (by simp; omega))
end
end Go.Proofs.YtlefmmhlpgmbjaaGreat
namespace Go.Proofs.YtlefmmhlpgmbjaaGreat
set_option maxRecDepth 100000
open Go.RowKit
set_option maxHeartbeats 1000000 in
theorem disk_flush (d : Dsk) (v : Value) (w : World) {S : Nat -> Prop} (hS : InS S w) (hD : DskR S w v d) :
  Calls Tryz.prog 84 #[v] w (RetDE S w (flushD d).1 (flushD d).2) := by
 have hbw : ∀ o o', Below w.heap.size w ((w.alloc o).alloc o') := fun o o' => ((Below.refl _ _).alloc (Nat.le_refl _) _).alloc (by simp) _
 unfold flushD
 cases hz : (chk d != 0)
 .
  rw [if_neg (by simpa using hz)]
  cases g4 : (d.left == 0)
  .
   rw [if_neg (by simpa using g4)]
   exact disk_flush_ok d v w hS hD hz g4
  .
   rw [if_pos (by simpa using g4)]
   have hD0 := hD
   obtain ⟨po, pc, co, cc, rfl, hp, hc, ok⟩ := hD
   clear hp hc ok
   have hpw : ∀ (W : World) (v : Value), DskR S W v d -> Calls Tryz.prog 125 #[v] W (RetDB S W d false) := fun W v h => by have := disk_power d v W h; rw [if_pos (by simpa using g4), g4] at this; exact this
   go_enter Tryz.func84, Tryz.ntmps84
   go_wp2_with fail
   refine (disk_check d _ _ (hD0.below (hbw _ _))).mono ?_
   rintro e w1 ⟨rfl, hb1⟩
   have xA := ((Bx.new w _ _).alloc _).belowAll hb1
   have xR := (Bx.new (w.alloc _) _ _).belowAll hb1
   rw [World.size_alloc] at xR
   have cA := xA.cell
   have fA := xA.free
   have cR := xR.cell
   have fR := xR.free
   have hB : Below w.heap.size w w1 := (hbw _ _).trans (hb1.mono (by simp; omega))
   have hlA := xA.lt
   have hlR := xR.lt
   go_wp2_with fail
   refine (hpw _ _ ((hD0.below (hbw _ _)).below hb1)).mono ?_
   rintro e w2 ⟨v2, rfl, hD2, hb2⟩
   have xA2 := xA.belowAll hb2
   have xR2 := xR.belowAll hb2
   have hB2 : Below w.heap.size w w2 := hB.trans (hb2.mono (by omega))
   clear cA fA cR fR
   have hE2 := hD2
   obtain ⟨po2, pc2, co2, cc2, rfl, hp2, hc2, ok2⟩ := hD2
   have cA := xA2.cell
   have fA := xA2.free
   have cR := xR2.cell
   have fR := xR2.free
   have hlA2 := xA2.lt
   have hlR2 := xR2.lt
   have nA : ¬ Gr S w1 w2 w.heap.size := by rintro (h | h); exact absurd (hS _ h) (by omega); omega
   have nR : ¬ Gr S w1 w2 (w.heap.size + 1) := by rintro (h | h); exact absurd (hS _ h) (by omega); omega
   go_wp2
   refine bodyPost_ret (v := .tuple #[.agg #[.int .i64 d.size, .slice po2 d.pages.length pc2, .slice co2 d.cache.length cc2, .int .i64 d.left], .int .i64 18]) (by simp [results, Tryz.results84, go_sem, cR]) rfl ?_
   refine ⟨_, rfl, (hE2.same ?_).mono ?_, ?_⟩
   .
    exact ((Same.refl _ _).set4 nA).set4 nR
   .
    rintro b (h | h)
    .
     exact .inl h
    .
     exact .inr (by simp; omega)
   .
    exact below_set4 (b := w.heap.size + 1) (below_set4 (b := w.heap.size) hB2 (Nat.le_refl _)) (by omega)
 .
  rw [if_pos (by simpa using hz)]
  have hD0 := hD
  obtain ⟨po, pc, co, cc, rfl, hp, hc, ok⟩ := hD
  go_enter Tryz.func84, Tryz.ntmps84
  go_wp2_with fail
  refine (disk_check d _ _ (hD0.below (hbw _ _))).mono ?_
  rintro e w1 ⟨rfl, hb1⟩
  have xR := (Bx.new (w.alloc _) _ _).belowAll hb1
  rw [World.size_alloc] at xR
  have cR := xR.cell
  have fR := xR.free
  have hB : Below w.heap.size w w1 := (hbw _ _).trans (hb1.mono (by simp; omega))
  go_wp2
  refine bodyPost_ret (v := .tuple #[.agg #[.int .i64 0, .slice none 0 0, .slice none 0 0, .int .i64 0], .int .i64 1]) (by simp [results, Tryz.results84, go_sem, cR]) rfl ?_
  exact ⟨_, rfl, zero_DskR _, below_set4 (b := w.heap.size + 1) hB (by omega)⟩
def eqP : List ByteArray -> List ByteArray -> Bool
 | x :: l, y :: m => (x == y) && eqP l m
 | _, _ => true
def eqC : List PW -> List PW -> Bool
 | x :: l, y :: m => (x.page == y.page) && (x.data == y.data) && eqC l m
 | _, _ => true
def sameW (a b : Dsk) : Bool := (a.size == b.size) && (a.left == b.left) && (a.pages.length == b.pages.length) && (a.cache.length == b.cache.length) && eqP a.pages b.pages && eqC a.cache b.cache
set_option maxHeartbeats 1000000 in
theorem ref40_same0 (a b : Dsk) (va vb : Value) (w : World) {S S' : Nat -> Prop} (hD : DskR S w va a) (hE : DskR S' w vb b) :
  Calls Tryz.prog 18 #[va, vb] w fun e w' => e = .returned (.bool (sameW a b)) /\ Below w.heap.size w w' := by
 obtain ⟨po, pc, co, cc, rfl, hp, hc, ok⟩ := hD
 obtain ⟨po', pc', co', cc', rfl, hp', hc', ok'⟩ := hE
 have ok1 := ok.pages
 have ok2 := ok.cache
 have ok1' := ok'.pages
 have ok2' := ok'.cache
 clear ok ok'
 have hbw : ∀ o o', Below w.heap.size w ((w.alloc o).alloc o') := fun o o' => ((Below.refl _ _).alloc (Nat.le_refl _) _).alloc (by simp) _
 cases g1 : (a.size != b.size)
 .
  cases g2 : (a.left != b.left)
  .
   cases g3 : ((a.pages.length : Int) != (b.pages.length : Int))
   .
    cases g4 : ((a.cache.length : Int) != (b.cache.length : Int))
    .
     have g1' := zhI g1
     have g2' := zhI g2
     go_enter Tryz.func18, Tryz.ntmps18
     go_wp2
     go_loopw [5] (fun i wr => ∃ (k : Nat), k <= a.pages.length /\ i = .int .i64 k /\ eqP (a.pages.drop k) (b.pages.drop k) = eqP a.pages b.pages /\ Below w.heap.size w wr /\ w.heap.size + 1 < wr.heap.size /\ BoxD wr w.heap.size a.size a.left po co a.pages.length pc a.cache.length cc /\ BoxD wr (w.heap.size + 1) b.size b.left po' co' b.pages.length pc' b.cache.length cc') (fun i _ => a.pages.length - (intOf i).toNat)
     case atStart => exact ⟨0, Nat.zero_le _, rfl, rfl, hbw _ _, by simp, ⟨by simp [go_sem], by simp [go_sem], by simp [go_sem], by simp [go_sem]⟩, ⟨by simp [go_sem], by simp [go_sem], by simp [go_sem], by simp [go_sem]⟩⟩
     case round =>
      obtain ⟨k, hk, rfl, hq0, hb, hz, hB, hB'⟩ := hrel
      have hq := zhI hq0; clear hq0
      have hB0 := zhI hB
      have hB0' := zhI hB'
      obtain ⟨h0, h1, h2, h3⟩ := hB
      obtain ⟨h0', h1', h2', h3'⟩ := hB'
      have hl3 : a.pages.length = b.pages.length := by have := g3; simp at this; omega
      have hl4 : a.cache.length = b.cache.length := by have := g4; simp at this; omega
      have hl3h := zhI hl3
      have hl4h := zhI hl4
      by_cases hlt : k < a.pages.length
      .
       have hlt' : k < b.pages.length := by omega
       obtain ⟨ba, offa, rfl, hcell0, _⟩ := hp k hlt
       obtain ⟨bb, offb, rfl, hcell0', _⟩ := hp' k hlt'
       have hcell : wr.cell? ⟨ba, offa + k, none⟩ = some (.string a.pages[k]) := by rw [hb.cell (World.block_lt_of_cell? w _ hcell0)]; exact hcell0
       have hcell' : wr.cell? ⟨bb, offb + k, none⟩ = some (.string b.pages[k]) := by rw [hb.cell (World.block_lt_of_cell? w _ hcell0')]; exact hcell0'
       clear hcell0 hcell0' hl3 hl4 g1 g2 g3 g4
       cases hs : (a.pages[k].toList == b.pages[k].toList)
       .
        go_wp2
        go_quiet (fail)
        go_wp2
        go_ret
        exact ⟨by rw [<- beq_toListBytes] at hs; unfold sameW; rw [<- hq.out, List.drop_eq_getElem_cons hlt, List.drop_eq_getElem_cons hlt']; simp [eqP, hs], Below.drewN hb _⟩
       .
        go_wp2
        go_quiet (fail)
        go_wp2
        go_roundw
        case rel => exact ⟨k + 1, by omega, by go_num, by rw [<- hq.out, List.drop_eq_getElem_cons hlt, List.drop_eq_getElem_cons hlt']; rw [<- beq_toListBytes] at hs; simp [eqP, hs], Below.drewN hb _, hz, ⟨h0, h1, h2, h3⟩, ⟨h0', h1', h2', h3'⟩⟩
        case measure => simp [intOf]; omega
      .
       have hkk : Hid (k = a.pages.length) := by unfold Hid; omega
       have hP : Hid (eqP a.pages b.pages = true) := by unfold Hid; rw [<- hq.out, hkk.out, List.drop_length]; simp [eqP]
       clear hl3 hl4 g1 g2 g3 g4
       have hge : a.pages.length <= k := by omega
       go_wp2
       go_loopw [6] (fun i wr => ∃ (k : Nat), k <= a.cache.length /\ i = .int .i64 k /\ eqC (a.cache.drop k) (b.cache.drop k) = eqC a.cache b.cache /\ Below w.heap.size w wr /\ w.heap.size + 1 < wr.heap.size /\ BoxD wr w.heap.size a.size a.left po co a.pages.length pc a.cache.length cc /\ BoxD wr (w.heap.size + 1) b.size b.left po' co' b.pages.length pc' b.cache.length cc') (fun i _ => a.cache.length - (intOf i).toNat)
       case atStart => exact ⟨0, Nat.zero_le _, rfl, rfl, hb, hz, hB0.out, hB0'.out⟩
       case round =>
        clear hB0 hB0' h0 h1 h2 h3 h0' h1' h2' h3' hb hz hge hk hlt
        obtain ⟨k, hk, rfl, hq0, hb, hz, hB, hB'⟩ := hrel
        have hq := zhI hq0; clear hq0
        obtain ⟨h0, h1, h2, h3⟩ := hB
        obtain ⟨h0', h1', h2', h3'⟩ := hB'
        by_cases hlt : k < a.cache.length
        .
         have hlt' : k < b.cache.length := by have := hl4h.out; omega
         obtain ⟨ba, offa, rfl, hcell0, hcell1, _⟩ := hc k hlt
         obtain ⟨bb, offb, rfl, hcell0', hcell1', _⟩ := hc' k hlt'
         have hcell : wr.cell? ⟨ba, offa + k * 2, none⟩ = some (.int .i64 a.cache[k].page) := by rw [hb.cell (World.block_lt_of_cell? w _ hcell0)]; exact hcell0
         have hcell' : wr.cell? ⟨ba, offa + k * 2 + 1, none⟩ = some (.string a.cache[k].data) := by rw [hb.cell (World.block_lt_of_cell? w _ hcell1)]; exact hcell1
         have gcell : wr.cell? ⟨bb, offb + k * 2, none⟩ = some (.int .i64 b.cache[k].page) := by rw [hb.cell (World.block_lt_of_cell? w _ hcell0')]; exact hcell0'
         have gcell' : wr.cell? ⟨bb, offb + k * 2 + 1, none⟩ = some (.string b.cache[k].data) := by rw [hb.cell (World.block_lt_of_cell? w _ hcell1')]; exact hcell1'
         clear hcell0 hcell0' hcell1 hcell1'
         cases hs : (a.cache[k].page == b.cache[k].page)
         .
          go_wp2
          go_quiet (fail)
          go_wp2
          go_ret
          exact ⟨by unfold sameW; rw [<- hq.out, List.drop_eq_getElem_cons hlt, List.drop_eq_getElem_cons hlt']; simp [eqC, hs], Below.drewN hb _⟩
         .
          cases ht : (a.cache[k].data.toList == b.cache[k].data.toList)
          .
           go_wp2
           go_quiet (fail)
           go_wp2
           go_ret
           exact ⟨by rw [<- beq_toListBytes] at ht; unfold sameW; rw [<- hq.out, List.drop_eq_getElem_cons hlt, List.drop_eq_getElem_cons hlt']; simp [eqC, ht], Below.drewN hb _⟩
          .
           go_wp2
           go_quiet (fail)
           go_wp2
           go_roundw
           case rel => exact ⟨k + 1, by omega, by go_num, by rw [<- hq.out, List.drop_eq_getElem_cons hlt, List.drop_eq_getElem_cons hlt']; rw [<- beq_toListBytes] at ht; simp [eqC, hs, ht], Below.drewN hb _, hz, ⟨h0, h1, h2, h3⟩, ⟨h0', h1', h2', h3'⟩⟩
           case measure => simp [intOf]; omega
        .
         have hC : Hid (eqC a.cache b.cache = true) := by
          have e : k = a.cache.length := by omega
          unfold Hid; rw [<- hq.out, e, List.drop_length]; simp [eqC]
         go_wp2
         go_ret
         exact ⟨by have g1 := g1'.out; have g2 := g2'.out; simp at g1 g2; simp [sameW, hP.out, hC.out, hl3h.out, hl4h.out, g1, g2], hb⟩
    .
     go_enter Tryz.func18, Tryz.ntmps18
     go_wp2
     go_ret
     exact ⟨by simp at g4; simp [sameW]; omega, hbw _ _⟩
   .
    go_enter Tryz.func18, Tryz.ntmps18
    go_wp2
    go_ret
    exact ⟨by simp at g3; simp [sameW]; omega, hbw _ _⟩
  .
   go_enter Tryz.func18, Tryz.ntmps18
   go_wp2
   go_ret
   exact ⟨by simp at g2; simp [sameW, g2], hbw _ _⟩
 .
  go_enter Tryz.func18, Tryz.ntmps18
  go_wp2
  go_ret
  exact ⟨by simp at g1; simp [sameW, g1], hbw _ _⟩
structure Lat (W : World) where
 w : World
 h : Below W.heap.size W w
instance (W : World) : Nonempty (Lat W) := ⟨⟨W, Below.refl _ _⟩⟩
theorem wp_region_lat {P : Program} {id : Nat} {Q : Exit -> Act -> World -> Prop} {a : Act} {w : World} {l : List Oper} (hm : P.follows .mixedOrders = true) (hB : Region.lexB .any l.toArray = true)
  (h : wpQuiet P l.toArray (fun w' => ∃ x : Lat w, w' = x.w) (fun a' => ∀ w', (∃ x : Lat w, w' = x.w) -> Q .normal a' w') l a) : (Code.region id l.toArray true).wp P Q a w :=
 wp_region_quiet (C := fun w' => ∃ x : Lat w, w' = x.w) hm hB ⟨⟨_, (Below.refl _ _).drew⟩, rfl⟩ (by simpa using h)
theorem Calls.lat {P : Program} {f : FuncId} {args : Array Value} {W : World} {x : Lat W} {v : Value}
  (h : Calls P f args x.w fun e w' => e = .returned v /\ Below x.w.heap.size x.w w') : Calls P f args x.w fun e w' => e = .returned v /\ ∃ y : Lat W, w' = y.w :=
 h.mono fun _ _ ⟨he, hb⟩ => ⟨he, ⟨_, x.h.trans (hb.mono x.h.size)⟩, rfl⟩
theorem Lat.cells (W : World) : ∀ (x : Lat W) (b o : Nat), b < W.heap.size -> x.w.cell? ⟨b, o, none⟩ = W.cell? ⟨b, o, none⟩ := fun x _ _ h => x.h.cell (p := ⟨_, _, none⟩) h
theorem Below.one (w : World) (o : Obj) : Below w.heap.size w (w.alloc o) := (Below.refl _ _).alloc (Nat.le_refl _) _
theorem Below.then {w w1 w2 : World} {B : Nat} (h : Below B w w1) (k : Below w1.heap.size w1 w2) (hB : B <= w1.heap.size) : Below B w w2 := h.trans (k.mono hB)
end Go.Proofs.YtlefmmhlpgmbjaaGreat
