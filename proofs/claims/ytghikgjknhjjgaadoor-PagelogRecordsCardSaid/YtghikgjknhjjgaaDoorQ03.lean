/- disk.Read (layer 40) for every disk and index: the pair 'readD' of the disk. Contracts of taken, share, power, operate, content and the reference's Read (layer 40). Contracts of Write of layer 40, of the program's and the reference's, and of slices.Clone at lists of writes. Contracts of New of layer 40, of the program's and the reference's. Contracts of Crash of layer 40, of the program's and the reference's. -/
import Derived.Test.YtghikgjknhjjgaaDoorQ02
import Derived.Test.YtghikgjknhjjgaaDoorQ01
import Derived.BigQuiet
import Derived.Deep.QuietTactic
import Derived.WalkSpells
import Derived.Deep.RegionLaw
import Derived.StillTailTactics
namespace Go.Proofs.YtghikgjknhjjgaaDoor
set_option maxRecDepth 100000
open Go.RowKit Go.Shelf
attribute [local go_sem] Oper.semAt_some
theorem bkF_mem {l : List PW} {k : Nat} (hk : k ≤ l.length) {x : PW} (hx : x ∈ l.drop (l.length - k)) : ∃ p ∈ upto (bkF l) k, p.2 = x := by
 obtain ⟨m, hm, rfl⟩ := List.mem_iff_getElem.1 hx
 have hm' : m < k := by simp at hm; omega
 refine ⟨bkF l (k - 1 - m), List.mem_map.2 ⟨k - 1 - m, List.mem_range.2 (by omega), rfl⟩, ?_⟩
 have e : l.length - 1 - (k - 1 - m) = l.length - k + m := by omega
 simp [bkF, e]
 rw [List.getElem?_eq_getElem (by omega)]; rfl
theorem lastW_none {i : Int} {l : List PW} (h : ∀ x ∈ l, (x.page == i) = false) (s : ByteArray) : lastW i l s = s := by
 induction l generalizing s with
 | nil => rfl
 | cons x l ih =>
  rw [lastW, if_neg (by simpa using h x (by simp)), ih (fun y hy => h y (by simp [hy]))]
theorem lastW_app {i : Int} (a b : List PW) (s : ByteArray) : lastW i (a ++ b) s = lastW i b (lastW i a s) := by
 induction a generalizing s with
 | nil => rfl
 | cons x a ih => rw [List.cons_append, lastW, lastW, ih]
theorem lastW_all {i : Int} {l : List PW} (h : ∀ p ∈ upto (bkF l) l.length, (p.2.page == i) = false) (s : ByteArray) : lastW i l s = s :=
 lastW_none (fun x hx => by obtain ⟨p, hp, rfl⟩ := bkF_mem (Nat.le_refl l.length) (x := x) (by simpa using hx); exact h p hp) s
theorem lastW_at {i : Int} {l : List PW} {k : Nat} (hk : k < l.length) (h : ∀ p ∈ upto (bkF l) k, (p.2.page == i) = false) (hx : ((bkF l k).2.page == i) = true) (s : ByteArray) : lastW i l s = (bkF l k).2.data := by
 have e : l = l.take (l.length - 1 - k) ++ (l[l.length - 1 - k] :: l.drop (l.length - k)) := by
  rw [show l.length - k = l.length - 1 - k + 1 by omega, ← List.drop_eq_getElem_cons, List.take_append_drop]
 have e2 : (bkF l k).2 = l[l.length - 1 - k] := by simp [bkF, List.getElem?_eq_getElem (show l.length - 1 - k < l.length by omega)]
 rw [e2] at hx ⊢
 rw [show lastW i l s = lastW i (l.take (l.length - 1 - k) ++ (l[l.length - 1 - k] :: l.drop (l.length - k))) s by rw [← e], lastW_app, lastW, if_pos (by simpa using hx)]
 exact lastW_none (fun x hx => by obtain ⟨p, hp, rfl⟩ := bkF_mem (Nat.le_of_lt hk) hx; exact h p hp) _
set_option maxRecDepth 100000 in
set_option maxHeartbeats 2000000 in
theorem disk_read (d : Dsk) (v : Value) (i : Int) (w : World) {S : Nat → Prop} (hS : InS S w) (hD : DskR S w v d) :
  Calls Tryd.prog 24 #[v, .int .i64 i] w fun e w' => e = .returned (.tuple #[.string (readD d i).1, .int .i64 (readD d i).2]) ∧ Below w.heap.size w w' := by
 have hD0 := hD
 obtain ⟨po, pc, co, cc, rfl, hp, hc, ok⟩ := hD
 have ok1 := ok.pages
 have ok2 := ok.cache
 have hcb : ∀ k (h : k < d.pages.length), ∃ b off, po = some ⟨b, off, none⟩ ∧ w.cell? ⟨b, off + k, none⟩ = some (.string d.pages[k]) := fun k h => by
  obtain ⟨b, off, e, h1, _⟩ := hp k h; exact ⟨b, off, e, h1⟩
 obtain ⟨n, hn⟩ : ∃ n, 9 ≤ n := ⟨9, Nat.le_refl _⟩
 refine (callsIn_wide (n := n)).1 ?_
 have hro : Fence.wide.round = none := rfl
 have h1 : 1 ≤ n := by omega
 refine callsIn_of_wp_marks Tryd.func24 rfl trivial ?_ hro
 simp only [Tryd.ntmps24, List.size_toArray, List.length_cons, List.length_nil, Nat.reduceAdd, Nat.reduceSub, Array.replicate_succ, Array.replicate_zero, List.push_toArray, List.append_toArray, List.nil_append, List.cons_append]
 generalize hres : readD d i = res
 unfold readD at hres
 have hbw : ∀ o1 o2 o3 o4, Below w.heap.size w ((((w.alloc o1).alloc o2).alloc o3).alloc o4) := fun o1 o2 o3 o4 =>
  ((((Below.refl _ _).alloc (Nat.le_refl _) _).alloc (by simp) _).alloc (by simp; omega) _).alloc (by simp; omega) _
 gi_wp2_with (refine ⟨trivial, ?_⟩; gi_at_call 34; refine (callsIn_wide.2 (disk_check d _ _ (hD0.below (hbw _ _ _ _)))).mono ?_)
 rintro e w1 ⟨rfl, hb⟩
 have xD := ((((Bx.new w #[.int .i64 d.size, .slice po d.pages.length pc, .slice co d.cache.length cc, .int .i64 d.left] 30).alloc (.cells #[.int .i64 i] 3)).alloc (.cells #[.string ⟨#[]⟩] 9)).alloc (.cells #[.int .i64 0] 33)).belowAll hb
 have xI := (((Bx.newAt (w.alloc (.cells #[.int .i64 d.size, .slice po d.pages.length pc, .slice co d.cache.length cc, .int .i64 d.left] 30)) #[.int .i64 i] 3 (w.heap.size + 1) (by simp)).alloc (.cells #[.string ⟨#[]⟩] 9)).alloc (.cells #[.int .i64 0] 33)).belowAll hb
 have xS := ((Bx.newAt ((w.alloc (.cells #[.int .i64 d.size, .slice po d.pages.length pc, .slice co d.cache.length cc, .int .i64 d.left] 30)).alloc (.cells #[.int .i64 i] 3)) #[.string ⟨#[]⟩] 9 (w.heap.size + 1 + 1) (by simp)).alloc (.cells #[.int .i64 0] 33)).belowAll hb
 have xE := (Bx.newAt (((w.alloc (.cells #[.int .i64 d.size, .slice po d.pages.length pc, .slice co d.cache.length cc, .int .i64 d.left] 30)).alloc (.cells #[.int .i64 i] 3)).alloc (.cells #[.string ⟨#[]⟩] 9)) #[.int .i64 0] 33 (w.heap.size + 1 + 1 + 1) (by simp)).belowAll hb
 have hB1 : Below w.heap.size w w1 := (hbw _ _ _ _).trans (hb.mono (by simp; omega))
 have hsz : w.heap.size + 4 ≤ w1.heap.size := by have := hb.size; simp at this; omega
 clear hb
 have cD0 := xD.cell 0; have cD1 := xD.cell 1; have cD2 := xD.cell 2; have cD3 := xD.cell 3
 have cI := xI.cell 0; have cS := xS.cell 0; have cE := xE.cell 0
 have fS := xS.free 0; have fE := xE.free 0
 have lS := xS.lt; have lE := xE.lt; have lD := xD.lt; have lI := xI.lt
 simp at cD0 cD1 cD2 cD3 cI cS cE
 cases hz : (chk d != 0)
 ·
  rw [if_neg (by simpa using hz)] at hres
  by_cases hneg : i < 0
  ·
   rw [if_pos hneg] at hres
   subst hres
   gi_wp2
   refine ⟨.tuple #[.string ByteArray.empty, .int .i64 2], ?_, rfl, below_set1 (b := w.heap.size + 1 + 1 + 1) (below_set1 (b := w.heap.size + 1 + 1) hB1 (by omega)) (by omega)⟩
   simp [results, Tryd.f24, go_sem, cS, cE]
   all_goals first | rfl | omega
  ·
   rw [if_neg hneg] at hres
   obtain ⟨k, rfl⟩ := Int.eq_ofNat_of_zero_le (Int.not_lt.1 hneg)
   rw [Int.toNat_natCast] at hres
   by_cases hk : k < d.pages.length
   ·
    rw [dif_pos hk] at hres
    subst hres
    obtain ⟨pb, poff, rfl, hcell0⟩ := hcb k hk
    gi_wp2_with (refine ⟨trivial, ?_⟩; gi_at_call 51; refine (back_in Fence.wide _ trivial hro _ _ _ _).mono ?_; rintro e w' ⟨rfl, rfl⟩)
    obtain ⟨W0, hW0⟩ : ∃ W0, w1.alloc (.cells #[.slice co d.cache.length cc] 28) = W0 := ⟨_, rfl⟩
    have yB : Bx W0 w1.heap.size #[.slice co d.cache.length cc] 28 := by rw [← hW0]; exact Bx.new _ _ _
    have yD := xD.alloc (.cells #[.slice co d.cache.length cc] 28); rw [hW0] at yD
    have yI := xI.alloc (.cells #[.slice co d.cache.length cc] 28); rw [hW0] at yI
    have yS := xS.alloc (.cells #[.slice co d.cache.length cc] 28); rw [hW0] at yS
    have yE := xE.alloc (.cells #[.slice co d.cache.length cc] 28); rw [hW0] at yE
    have hB0 : Below w.heap.size w W0 := by rw [← hW0]; exact hB1.alloc (by omega) _
    have hc0 : PWsAt S W0 co d.cache := hc.below hB0
    have hbS : ∀ b, S b → b < w1.heap.size + 1 := fun b h => by have := hS b h; omega
    have hs0 : W0.heap.size = w1.heap.size + 1 := by rw [← hW0]; simp
    rw [hW0]
    clear hW0 xD xI xS xE cD0 cD1 cD2 cD3 cI cS cE fS fE lS lE lD lI
    refine wpIn_rangeFunc_ownH hro h1 (gf := 69) (lb := #[.pointer (some ⟨w1.heap.size, 0, none⟩)]) rfl trivial (enters_of Tryd.func69 (by kernel_rfl) rfl)
     (back_stops Fence.wide (n - 1) trivial hro (by omega) w1.heap.size (w1.heap.size + 1) cc co d.cache ok2 hbS W0 (by omega) (by omega) (yB.cell 0) hc0) belowK_t (belowK_b (by omega)) (Below.refl _ _) (fun _ => rfl)
     (fun pre W => ((((∀ p ∈ pre, (p.2.page == (k : Int)) = false) ∧ Bx W (w.heap.size + 1) #[.int .i64 k] 3) ∧ Bx W (w.heap.size + 1 + 1) #[.string ⟨#[]⟩] 9 ∧ Bx W (w.heap.size + 1 + 1 + 1) #[.int .i64 0] 33) ∧ Bx W w.heap.size #[.int .i64 d.size, .slice (some ⟨pb, poff, none⟩) d.pages.length pc, .slice co d.cache.length cc, .int .i64 d.left] 30) ∧ Below w.heap.size w W ∧ Bx W w1.heap.size #[.slice co d.cache.length cc] 28)
     (fun c pre W => ((c = .ret ∧ ∃ ini last, pre = ini ++ [last] ∧ (∀ p ∈ ini, (p.2.page == (k : Int)) = false) ∧ (last.2.page == (k : Int)) = true ∧ Bx W (w.heap.size + 1 + 1) #[.string last.2.data] 9) ∧ Bx W (w.heap.size + 1 + 1 + 1) #[.int .i64 0] 33) ∧ Below w.heap.size w W)
     (OwnFrom.and (Own.from (fun s A B row hs hg hr => ⟨⟨⟨hs.1.1.1, bx_own hs.1.1.2 hg hr⟩, bx_own hs.1.2.1 hg hr, bx_own hs.1.2.2 hg hr⟩, bx_own hs.2 hg hr⟩) _) (OwnFrom.and (ownFrom_below (Nat.le_refl _) (by omega)) (Own.from (fun s A B row hs hg hr => bx_own hs hg hr) _)))
     (fun c => OwnFrom.and (Own.from (fun s A B row hs hg hr => by obtain ⟨⟨hc, ini, last, e1, e2, e3, e4⟩, e5⟩ := hs; exact ⟨⟨hc, ini, last, e1, e2, e3, bx_own e4 hg hr⟩, bx_own e5 hg hr⟩) _) (ownFrom_below (Nat.le_refl _) (by omega)))
     ⟨⟨⟨⟨by simp, yI⟩, yS, yE⟩, yD⟩, hB0, yB⟩
     (fun x a' W => ∃ Bb, w1.heap.size < Bb ∧ Bx W Bb #[.int .i64 x.2.page, .string x.2.data] 84 ∧ a' = { tmps := #[.agg #[.int .i64 d.size, .slice (some ⟨pb, poff, none⟩) d.pages.length pc, .slice co d.cache.length cc, .int .i64 d.left], .int .i64 k, .pointer (some ⟨w.heap.size, 0, none⟩), .pointer (some ⟨w.heap.size + 1, 0, none⟩), .pointer (some ⟨w.heap.size + 1 + 1, 0, none⟩), .pointer (some ⟨w.heap.size + 1 + 1 + 1, 0, none⟩), undef, .pointer (some ⟨Bb, 0, none⟩), .bool false, .agg #[.int .i64 d.size, .slice (some ⟨pb, poff, none⟩) d.pages.length pc, .slice co d.cache.length cc, .int .i64 d.left], .int .i64 (chk d), .bool false, .bool (decide ((k : Int) < 0)), .int .i64 k, .bool (decide ((k : Int) < 0)), .bool (decide ((k : Int) < 0)), .int .i64 k, .pointer (some ⟨w.heap.size, 1, none⟩), .slice (some ⟨pb, poff, none⟩) d.pages.length pc, .int .i64 d.pages.length, .bool false, .bool (decide ((k : Int) < 0)), .pointer (some ⟨w.heap.size, 2, none⟩), .slice co d.cache.length cc, .func (.func 69) #[] #[.pointer (some ⟨w1.heap.size, 0, none⟩)], .int .i64 x.1, .agg #[.int .i64 x.2.page, .string x.2.data], undef, undef, undef, undef, undef, undef, undef, undef, undef, undef, undef], defers := [] })
     (fun x a' X Y row s hs hg hr => by obtain ⟨Bb, e1, e2, e3⟩ := hs; exact ⟨Bb, e1, bx_own e2 hg (fun r e => (hr r e).2), e3⟩)
     ?assign ?body ?done ?stop
    case assign =>
     rintro l pre x W K ⟨⟨⟨⟨hp, b2⟩, b3, b4⟩, b1⟩, hB, b5⟩ hK
     have l5 := b5.lt
     gi_wp2
     exact hK _ _ ((KeepsOthers.alloc _ _).from _) ((Below.refl _ W).alloc (by omega) _) ⟨⟨⟨⟨hp, b2.alloc _⟩, b3.alloc _, b4.alloc _⟩, b1.alloc _⟩, hB.alloc hB.size _, b5.alloc _⟩ ⟨W.heap.size, l5, Bx.new W _ _, rfl⟩
    case body =>
     rintro l pre x a' W hl ⟨r, hr⟩ ⟨⟨⟨⟨hp, b2⟩, b3, b4⟩, b1⟩, hB, b5⟩ ⟨Bb, hBb, bX, rfl⟩ hlt
     have cI := b2.cell 0; have cS := b3.cell 0; have cE := b4.cell 0
     have cX := bX.cell 0; have cX' := bX.cell 1
     have fS := b3.free 0; have fE := b4.free 0
     have lS := b3.lt; have lE := b4.lt
     simp at cI cS cE cX cX'
     cases hx : (x.2.page == (k : Int))
     ·
      gi_wp2
      exact ⟨KeepsFrom.refl _ _, Below.refl _ _, ⟨⟨⟨fun p hp' => (List.mem_append.1 hp').elim (hp p) (fun e => by simp at e; subst e; exact hx), b2⟩, b3, b4⟩, b1⟩, hB, b5⟩
     ·
      gi_wp2
      exact ⟨((KeepsOthers.setCell _ _ _).trans (KeepsOthers.setCell _ _ _)).from _, ⟨⟨rfl, pre, x, rfl, hp, hx, (b3.set 0 (.string x.2.data)).setO (by simp) _⟩, (b4.setO (a := ⟨w.heap.size + 1 + 1, 0, none⟩) (by simp) _).set 0 (.int .i64 0)⟩,
       below_set1 (b := w.heap.size + 1 + 1 + 1) (below_set1 (b := w.heap.size + 1 + 1) hB (by omega)) (by omega)⟩
    case done =>
     rintro D ys W hD rfl ⟨⟨⟨⟨hp, b2⟩, b3, b4⟩, b1⟩, hB, b5⟩ hK
     have hl := lastW_all hp d.pages[k]
     have cD1 := b1.cell 1; have cI := b2.cell 0; have cS := b3.cell 0; have cE := b4.cell 0
     have fS := b3.free 0; have fE := b4.free 0
     have lS := b3.lt; have lE := b4.lt
     have hcell : W.cell? ⟨pb, poff + k, none⟩ = some (.string d.pages[k]) := by rw [hB.cell (World.block_lt_of_cell? w _ hcell0)]; exact hcell0
     simp at cD1 cI cS cE
     gi_wp2
     have hK' := ((KeepsOthers.setCell W ⟨w.heap.size + 1 + 1, 0, none⟩ (.string d.pages[k])).trans (KeepsOthers.setCell _ ⟨w.heap.size + 1 + 1 + 1, 0, none⟩ (.int .i64 0))).same D _ hK rfl
     have hB' : Below w.heap.size w ((W.setCell ⟨w.heap.size + 1 + 1, 0, none⟩ (.string d.pages[k])).setCell ⟨w.heap.size + 1 + 1 + 1, 0, none⟩ (.int .i64 0)) := below_set1 (b := w.heap.size + 1 + 1 + 1) (below_set1 (b := w.heap.size + 1 + 1) hB (by omega)) (by omega)
     refine ⟨by simp, .inl ⟨_, _, rfl, run_takeDeferred hK', ?_⟩⟩
     have c5 := ((bx_own ((b3.set 0 (.string d.pages[k])).setO (a := ⟨w.heap.size + 1 + 1 + 1, 0, none⟩) (by simp) (.int .i64 0)) (grownBy_putObj' _ D (.deferred none)) (fun r e => by cases e; exact ⟨_, hK', rfl⟩))).cell 0
     have c6 := ((bx_own ((b4.setO (a := ⟨w.heap.size + 1 + 1, 0, none⟩) (by simp) (.string d.pages[k])).set 0 (.int .i64 0)) (grownBy_putObj' _ D (.deferred none)) (fun r e => by cases e; exact ⟨_, hK', rfl⟩))).cell 0
     simp at c5 c6
     refine ⟨.tuple #[.string d.pages[k], .int .i64 0], ?_, by rw [contentD, hl], hB'.trans (belowK_b (w := w) (Nat.le_refl _) _ D _ _ (by omega) hK' rfl rfl)⟩
     simp [results, Tryd.f24, go_sem, c5, c6]
    case stop =>
     rintro D c pre W hD ⟨j, hj, rfl⟩ ⟨⟨⟨rfl, ini, last, e1, e2, e3, b3⟩, b4⟩, hB⟩ hK
     gi_wp2
     refine ⟨by simp, .inl ⟨_, _, rfl, run_takeDeferred hK, ?_⟩⟩
     have c5 := (bx_own b3 (grownBy_putObj' _ D (.deferred none)) (fun r e => by cases e; exact ⟨_, hK, rfl⟩)).cell 0
     have c6 := (bx_own b4 (grownBy_putObj' _ D (.deferred none)) (fun r e => by cases e; exact ⟨_, hK, rfl⟩)).cell 0
     simp at c5 c6
     obtain ⟨j', rfl⟩ : ∃ j', j = j' + 1 := by
      cases j with
      | zero => simp [upto] at e1
      | succ j' => exact ⟨j', rfl⟩
     rw [upto_succ] at e1
     obtain ⟨rfl, e5⟩ := List.append_inj' e1 rfl
     obtain rfl : bkF d.cache j' = last := by simpa using e5
     refine ⟨.tuple #[.string (bkF d.cache j').2.data, .int .i64 0], ?_, by rw [contentD, lastW_at (by omega) e2 e3], hB.trans (belowK_b (w := w) (Nat.le_refl _) W D _ _ (by omega) hK rfl rfl)⟩
     simp [results, Tryd.f24, go_sem, c5, c6]
   ·
    rw [dif_neg hk] at hres
    subst hres
    gi_wp2
    refine ⟨.tuple #[.string ByteArray.empty, .int .i64 2], ?_, rfl, below_set1 (b := w.heap.size + 1 + 1 + 1) (below_set1 (b := w.heap.size + 1 + 1) hB1 (by omega)) (by omega)⟩
    simp [results, Tryd.f24, go_sem, cS, cE]
    all_goals first | rfl | omega
 ·
  rw [if_pos (by simpa using hz)] at hres
  subst hres
  gi_wp2
  refine ⟨.tuple #[.string ByteArray.empty, .int .i64 1], ?_, rfl, below_set1 (b := w.heap.size + 1 + 1 + 1) (below_set1 (b := w.heap.size + 1 + 1) hB1 (by omega)) (by omega)⟩
  simp [results, Tryd.f24, go_sem, cS, cE]
  all_goals first | rfl | omega
end Go.Proofs.YtghikgjknhjjgaaDoor
namespace Go.Proofs.YtghikgjknhjjgaaDoor
set_option maxRecDepth 100000
open Go.RowKit
def IntsAt (S : Nat → Prop) (w : World) (o : Option Addr) (l : List Int) : Prop :=
 ∀ i (h : i < l.length), ∃ b off, o = some ⟨b, off, none⟩ ∧ w.cell? ⟨b, off + i, none⟩ = some (.int .i64 l[i]) ∧ S b
theorem IntsAt.of_row {S : Nat → Prop} {w : World} {o : Option Addr} {l : List Int} (h : RowAt S w o (l.map (.int .i64))) : IntsAt S w o l := by
 intro i hi
 obtain ⟨b, off, e, hc, hs⟩ := h i (by simpa using hi)
 exact ⟨b, off, e, by simpa using hc, hs⟩
theorem IntsAt.row {S : Nat → Prop} {w : World} {o : Option Addr} {l : List Int} (h : IntsAt S w o l) : RowAt S w o (l.map (.int .i64)) := by
 intro i hi
 obtain ⟨b, off, e, hc, hs⟩ := h i (by simpa using hi)
 exact ⟨b, off, e, by simpa using hc, hs⟩
theorem IntsAt.below {S : Nat → Prop} {w w' : World} {o : Option Addr} {l : List Int} (h : IntsAt S w o l) (hb : Below w.heap.size w w') : IntsAt S w' o l := .of_row (h.row.below hb)
theorem IntsAt.same {S : Nat → Prop} {w w' : World} {o : Option Addr} {l : List Int} (h : IntsAt S w o l) (hb : Same S w w') : IntsAt S w' o l := .of_row (h.row.same hb)
set_option maxHeartbeats 400000 in
theorem disk_taken (l : List Int) (o : Option Addr) (c k : Nat) (s : Int) (hs : 0 ≤ s) (hs' : s ≤ 140737488351232) (_hl : l.length ≤ 140737488351232) (_hk : k ≤ 140737488351232) (w : World) {S : Nat → Prop} (hi : IntsAt S w o l) :
  Calls Tryd.prog 35 #[.slice o l.length c, .int .i64 k, .int .i64 s] w fun e w' => e = .returned (.int .i64 (takenI l k s)) ∧ w = w' := by
 unfold takenI
 by_cases hlt : k < l.length
 ·
  obtain ⟨b, off, rfl, hcell, _⟩ := hi k hlt
  rw [dif_pos hlt]
  have hb := shareI_bd l[k] s hs
  unfold shareI at *
  go_enter Tryd.func35, Tryd.ntmps35
  go_wp2
  all_goals go_ret
  all_goals exact ⟨rfl, rfl⟩
 ·
  rw [dif_neg hlt]
  go_enter Tryd.func35, Tryd.ntmps35
  go_wp2
  all_goals go_ret
  all_goals exact ⟨rfl, rfl⟩
theorem opD_ok {d : Dsk} {po co : Option Addr} {pc cc : Nat} (h : DskOk d po co pc cc) : DskOk (opD d) po co pc cc := by
 refine ⟨h.slp, h.slc, h.pages, h.cache, h.strs, h.datas, ?_⟩
 have := h.left
 simp only [opD]
 split <;> omega
set_option maxHeartbeats 400000 in
theorem disk_power (d : Dsk) (v : Value) (w : World) {S : Nat → Prop} (hD : DskR S w v d) :
  Calls Tryd.prog 60 #[v] w (RetDB S w (if d.left = 0 then d else opD d) (!(d.left == 0))) := by
 obtain ⟨po, pc, co, cc, rfl, hp, hc, ok⟩ := hD
 have hl := ok.left
 cases h0 : (d.left == 0)
 ·
  rw [if_neg (by simpa using h0)]
  have hok := opD_ok ok
  by_cases h1 : 0 < d.left
  all_goals
   go_enter Tryd.func60, Tryd.ntmps60
   go_wp2
   refine bodyPost_ret (v := .tuple #[.agg #[.int .i64 (opD d).size, .slice po d.pages.length pc, .slice co d.cache.length cc, .int .i64 (opD d).left], .bool true]) (by simp [results, Tryd.results60, go_sem, opD, h1] <;> omega) rfl ?_
   exact ⟨_, rfl, ⟨po, pc, co, cc, rfl, (hp.below (((Below.refl _ _).alloc (Nat.le_refl _) _).alloc (by simp) _)).mono (fun _ => .inl), (hc.below (((Below.refl _ _).alloc (Nat.le_refl _) _).alloc (by simp) _)).mono (fun _ => .inl), hok⟩, ((Below.refl _ _).alloc (Nat.le_refl _) _).alloc (by simp) _⟩
 ·
  rw [if_pos (by simpa using h0)]
  go_enter Tryd.func60, Tryd.ntmps60
  go_wp2
  refine bodyPost_ret (v := .tuple #[.agg #[.int .i64 d.size, .slice po d.pages.length pc, .slice co d.cache.length cc, .int .i64 d.left], .bool false]) (by simp [results, Tryd.results60, go_sem]) rfl ?_
  exact ⟨_, rfl, ⟨po, pc, co, cc, rfl, (hp.below (((Below.refl _ _).alloc (Nat.le_refl _) _).alloc (by simp) _)).mono (fun _ => .inl), (hc.below (((Below.refl _ _).alloc (Nat.le_refl _) _).alloc (by simp) _)).mono (fun _ => .inl), ok⟩, ((Below.refl _ _).alloc (Nat.le_refl _) _).alloc (by simp) _⟩
end Go.Proofs.YtghikgjknhjjgaaDoor
namespace Go.Proofs.YtghikgjknhjjgaaDoor
set_option maxRecDepth 100000
open Go.RowKit
theorem infoPW : (Tryd.prog.info? 84).map (fun i => (i.zero, i.size, i.bytes)) = some (some (.agg #[.int .i64 0, .string .empty]), 2, 24) := by kernel_rfl
set_option maxHeartbeats 1000000 in
theorem clone_pw (w : World) {S : Nat → Prop} (o : Option Addr) (l : List PW) (c : Nat) (hs : SlW o l.length c) (h : PWsAt S w o l) (hl : l.length ≤ 1000000) :
  Calls Tryd.prog 75 #[.slice o l.length c] w fun e w' => ∃ v, e = .returned v ∧ w'.ownsRow w.heap.size 84 2 v l.length (cellsPW l) ∧ Below w.heap.size w w' := by
 obtain ⟨i0, hi, hz0, hz1, hz2⟩ := info_parts infoPW
 have heql := fun (w : World) (a : Option Addr) (n c : Nat) => Lib.run_eql_slice_nil (P := Tryd.prog) w 28 84 a n c 0 0 Tryd.underlying28
 rcases hs with ⟨rfl, hn, rfl⟩ | ⟨a, rfl, hnc, hcm⟩
 ·
  have hl0 : l = [] := List.eq_nil_of_length_eq_zero hn
  subst hl0
  go_enter Tryd.func75, Tryd.ntmps75
  go_wp2
  go_ret
  exact ⟨_, rfl, World.ownsRow_nil _ _ _ _, Below.refl _ _⟩
 ·
  go_enter Tryd.func75, Tryd.ntmps75
  go_wp2_with (at_builtin; refine wpList_app rfl _ _ 28 rfl w.heap.size 84 i0 _ 2 24 Tryd.underlying28 hi hz0 hz1 hz2 rfl (by decide) _ 0 [] rfl (World.ownsRow_made w #[] 0 (Nat.le_refl _) (by simp [maxLen]) rfl) _ l.length c (cellsPW l) rfl (by intro e; cases e) (cellsPW_len l) (h.row.below ((Below.refl _ _).alloc (Nat.le_refl _) _)) (cellsPW_one l) (by unfold maxLen; omega) (by omega) (by simp) ?_; intro v' w1 hown hg)
  go_ret
  simp only [Nat.zero_add, List.nil_append] at hown
  exact ⟨_, rfl, hown, ((Below.refl _ _).alloc (Nat.le_refl _) _).grown hg (by simp) (by intro k hk; cases hk; exact Nat.le_refl _)⟩
theorem zero_ok : DskOk zeroD none none 0 0 := ⟨.inl ⟨rfl, rfl, rfl⟩, .inl ⟨rfl, rfl, rfl⟩, by simp [zeroD], by simp [zeroD], by simp [zeroD], by simp [zeroD], by simp [zeroD]⟩
theorem zero_DskR {S : Nat → Prop} (w : World) : DskR S w (.agg #[.int .i64 0, .slice none 0 0, .slice none 0 0, .int .i64 0]) zeroD :=
 ⟨none, 0, none, 0, rfl, by intro i h; simp [zeroD] at h, by intro i h; simp [zeroD] at h, zero_ok⟩
theorem writeD_ok {d : Dsk} {po co : Option Addr} {pc cc : Nat} (h : DskOk d po co pc cc) {co' : Option Addr} {cc' : Nat} {i : Int} {data : ByteArray} (hd : data.size ≤ 140737488351232) (hc : d.cache.length ≤ 1000000) (hs : SlW co' (d.cache.length + 1) cc') :
  DskOk { d with cache := d.cache ++ [⟨i, data⟩] } po co' pc cc' := by
 refine ⟨h.slp, by simpa using hs, h.pages, by simp; omega, h.strs, ?_, h.left⟩
 intro x hx
 simp at hx
 rcases hx with hx | rfl
 ·
  exact h.datas x hx
 ·
  exact hd
set_option maxHeartbeats 1000000 in
theorem disk_write_ok (d : Dsk) (v : Value) (i : Int) (data : ByteArray) (w : World) {S : Nat → Prop} (hS : InS S w) (hD : DskR S w v d) (hd : data.size ≤ 140737488351232) (hn : d.cache.length ≤ 1000000) (hz : (chk d != 0) = false) (g1 : decide (i < 0) = false) (g2 : decide ((d.pages.length : Int) ≤ i) = false) (g3 : ((data.size : Int) != d.size) = false) (g4 : (d.left == 0) = false) :
  Calls Tryd.prog 64 #[v, .int .i64 i, .string data] w (RetDE S w { opD d with cache := d.cache ++ [⟨i, data⟩] } 0) := by
 have hD0 := hD
 obtain ⟨po, pc, co, cc, rfl, hp, hc, ok⟩ := hD
 have ok1 := ok.pages
 have okW := Lib.hid ok
 clear ok hp hc
 obtain ⟨i0, hi, hz0, hz1, hz2⟩ := info_parts infoPW
 have hbw : ∀ o o', Below w.heap.size w ((w.alloc o).alloc o') := fun o o' => ((Below.refl _ _).alloc (Nat.le_refl _) _).alloc (by simp) _
 have hpw : ∀ (W : World) (v : Value), DskR S W v d → Calls Tryd.prog 60 #[v] W (RetDB S W (opD d) true) := fun W v h => by have := disk_power d v W h; rw [if_neg (by simpa using g4), g4] at this; exact this
 go_enter Tryd.func64, Tryd.ntmps64
 go_wp2_with fail
 refine (disk_check d _ _ (hD0.below (hbw _ _))).mono ?_
 rintro e w1 ⟨rfl, hb1⟩
 have xA := ((Bx.new w _ _).alloc _).belowAll hb1
 have xR := (Bx.new (w.alloc _) _ _).belowAll hb1
 rw [World.size_alloc] at xR
 have cA := xA.cell
 have fA := xA.free
 have cR := xR.cell
 have fR := xR.free
 have hB : Below w.heap.size w w1 := (hbw _ _).trans (hb1.mono (by simp; omega))
 have hlA := xA.lt
 have hlR := xR.lt
 go_wp2_with fail
 refine (hpw _ _ ((hD0.below (hbw _ _)).below hb1)).mono ?_
 rintro e w2 ⟨v2, rfl, hD2, hb2⟩
 have xA2 := xA.belowAll hb2
 have xR2 := xR.belowAll hb2
 have hB2 : Below w.heap.size w w2 := hB.trans (hb2.mono (by omega))
 clear cA fA cR fR
 have hE2 := hD2
 obtain ⟨po2, pc2, co2, cc2, rfl, hp2, hc2, ok2⟩ := hD2
 have cA := xA2.cell
 have fA := xA2.free
 have cR := xR2.cell
 have fR := xR2.free
 have hlA2 := xA2.lt
 have hlR2 := xR2.lt
 have nA : ¬ Gr S w1 w2 w.heap.size := by rintro (h | h); exact absurd (hS _ h) (by omega); omega
 have nR : ¬ Gr S w1 w2 (w.heap.size + 1) := by rintro (h | h); exact absurd (hS _ h) (by omega); omega
 go_wp2_with fail
 refine (clone_pw _ _ d.cache _ ok2.slc (hc2.same ((Same.refl _ _).set4 nA)) hn).mono ?_
 rintro e w3 ⟨v3, rfl, hown, hb3⟩
 have xA3 := xA2.set4.belowAll hb3
 have xR3 := (xR2.setO4 (b' := w.heap.size) (by simp)).belowAll hb3
 have hB3 := (below_set4 (b := w.heap.size) hB2 (Nat.le_refl _)).trans (hb3.mono (by simp; omega))
 have hp3 := (hp2.same ((Same.refl _ _).set4 nA)).below hb3
 clear cA fA cR fR
 have cA := xA3.cell
 have fA := xA3.free
 have cR := xR3.cell
 have fR := xR3.free
 have hz3 : w2.heap.size ≤ w3.heap.size := by have := hb3.size; simpa using this
 simp only [World.size_setCell] at hown
 go_wp2_with (at_builtin; refine wpList_app rfl _ _ 28 rfl w2.heap.size 84 i0 _ 2 24 Tryd.underlying28 hi hz0 hz1 hz2 rfl (by decide) _ d.cache.length (cellsPW d.cache) rfl (hown.alloc _) _ 1 1 [.int .i64 i, .string data] rfl (by intro e; cases e) rfl (RowAt.bx (Bx.new w3 _ _)) (by simp [Value.oneCell']) (by unfold maxLen; omega) (by omega) (by simp; omega) ?_; intro v4 w4 hown4 hg4; clear cA fA cR fR; obtain ⟨o4, c4, rfl, hs4, hr4, ho4⟩ := ownsRow_at hown4; have xA4 := (xA3.alloc _).grown hg4 (by intro e; have := (hown.lt _ e.symm).1; omega); have xR4 := (xR3.alloc _).grown hg4 (by intro e; have := (hown.lt _ e.symm).1; omega); have cA := xA4.cell; have fA := xA4.free; have cR := xR4.cell; have fR := xR4.free)
 have hz4 : w3.heap.size + 1 ≤ w4.heap.size := by have := hg4.size; simpa using this
 have hB4 : Below w.heap.size w w4 := ((hB3.alloc (by omega) _).grown hg4 (by simp; omega) (by intro k e; have := (hown.lt _ e).1; omega))
 refine bodyPost_ret (v := .tuple #[.agg #[.int .i64 (opD d).size, .slice po2 (opD d).pages.length pc2, .slice o4 (d.cache.length + 1) c4, .int .i64 (opD d).left], .int .i64 0]) (by simp [results, Tryd.results64, go_sem, cR]) rfl ?_
 refine ⟨_, rfl, ⟨po2, pc2, o4, c4, by simp, ?_, ?_, writeD_ok ok2 hd hn hs4⟩, ?_⟩
 ·
  have hI : InS (Gr S w1 w2) w3 := fun b h => by rcases h with h | h; exact Nat.lt_of_lt_of_le (hS _ h) (by omega); omega
  have hs : Same (Gr S w1 w2) (w3.alloc _) w4 := Same.of_grown hg4 (fun b h => by have := hI b h; simp; omega) (fun b e h => by have := (hown.lt _ e).1; rcases h with h | h; exact absurd (hS _ h) (by omega); omega)
  refine StrsAt.mono (S := Gr S w1 w2) ?_ (fun b h => by rcases h with h | h; exact .inl h; exact Gr.new (by omega) (by simp only [World.size_setCell]; omega))
  exact (hp3.below ((Below.refl _ _).alloc (Nat.le_refl _) _)).same ((hs.set1 nA).set4 nR)
 ·
  refine PWsAt.mono (S := fun b => w2.heap.size ≤ b ∧ b < w4.heap.size) ?_ (fun b h => Gr.new (by omega) (by simp only [World.size_setCell]; omega))
  exact (PWsAt.of_row (l := d.cache ++ [⟨i, data⟩]) (by rw [cellsPW_app]; exact hr4)).same (((Same.refl _ _).set1 (b := w.heap.size) (by omega)).set4 (b := w.heap.size + 1) (by omega))
 ·
  exact below_set4 (b := w.heap.size + 1) (below_set1 (b := w.heap.size) hB4 (Nat.le_refl _)) (by omega)
set_option maxHeartbeats 1000000 in
theorem disk_write_lost (d : Dsk) (v : Value) (i : Int) (data : ByteArray) (w : World) {S : Nat → Prop} (hS : InS S w) (hD : DskR S w v d) (_hd : data.size ≤ 140737488351232) (_hn : d.cache.length ≤ 1000000) (hz : (chk d != 0) = false) (g1 : decide (i < 0) = false) (g2 : decide ((d.pages.length : Int) ≤ i) = false) (g3 : ((data.size : Int) != d.size) = false) (g4 : (d.left == 0) = true) :
  Calls Tryd.prog 64 #[v, .int .i64 i, .string data] w (RetDE S w d 18) := by
 have hD0 := hD
 obtain ⟨po, pc, co, cc, rfl, hp, hc, ok⟩ := hD
 have ok1 := ok.pages
 have okW := Lib.hid ok
 clear ok hp hc
 obtain ⟨i0, hi, hz0, hz1, hz2⟩ := info_parts infoPW
 have hbw : ∀ o o', Below w.heap.size w ((w.alloc o).alloc o') := fun o o' => ((Below.refl _ _).alloc (Nat.le_refl _) _).alloc (by simp) _
 have hpw : ∀ (W : World) (v : Value), DskR S W v d → Calls Tryd.prog 60 #[v] W (RetDB S W d false) := fun W v h => by have := disk_power d v W h; rw [if_pos (by simpa using g4), g4] at this; exact this
 go_enter Tryd.func64, Tryd.ntmps64
 go_wp2_with fail
 refine (disk_check d _ _ (hD0.below (hbw _ _))).mono ?_
 rintro e w1 ⟨rfl, hb1⟩
 have xA := ((Bx.new w _ _).alloc _).belowAll hb1
 have xR := (Bx.new (w.alloc _) _ _).belowAll hb1
 rw [World.size_alloc] at xR
 have cA := xA.cell
 have fA := xA.free
 have cR := xR.cell
 have fR := xR.free
 have hB : Below w.heap.size w w1 := (hbw _ _).trans (hb1.mono (by simp; omega))
 have hlA := xA.lt
 have hlR := xR.lt
 go_wp2_with fail
 refine (hpw _ _ ((hD0.below (hbw _ _)).below hb1)).mono ?_
 rintro e w2 ⟨v2, rfl, hD2, hb2⟩
 have xA2 := xA.belowAll hb2
 have xR2 := xR.belowAll hb2
 have hB2 : Below w.heap.size w w2 := hB.trans (hb2.mono (by omega))
 clear cA fA cR fR
 have hE2 := hD2
 obtain ⟨po2, pc2, co2, cc2, rfl, hp2, hc2, ok2⟩ := hD2
 have cA := xA2.cell
 have fA := xA2.free
 have cR := xR2.cell
 have fR := xR2.free
 have hlA2 := xA2.lt
 have hlR2 := xR2.lt
 have nA : ¬ Gr S w1 w2 w.heap.size := by rintro (h | h); exact absurd (hS _ h) (by omega); omega
 have nR : ¬ Gr S w1 w2 (w.heap.size + 1) := by rintro (h | h); exact absurd (hS _ h) (by omega); omega
 go_wp2
 refine bodyPost_ret (v := .tuple #[.agg #[.int .i64 d.size, .slice po2 d.pages.length pc2, .slice co2 d.cache.length cc2, .int .i64 d.left], .int .i64 18]) (by simp [results, Tryd.results64, go_sem, cR]) rfl ?_
 refine ⟨_, rfl, (hE2.same ?_).mono ?_, ?_⟩
 ·
  exact ((Same.refl _ _).set4 nA).set4 nR
 ·
  rintro b (h | h)
  ·
   exact .inl h
  ·
   exact .inr (by simp; omega)
 ·
  exact below_set4 (b := w.heap.size + 1) (below_set4 (b := w.heap.size) hB2 (Nat.le_refl _)) (by omega)
set_option maxHeartbeats 1000000 in
theorem disk_write (d : Dsk) (v : Value) (i : Int) (data : ByteArray) (w : World) {S : Nat → Prop} (hS : InS S w) (hD : DskR S w v d) (hd : data.size ≤ 140737488351232) (hn : d.cache.length ≤ 1000000) :
  Calls Tryd.prog 64 #[v, .int .i64 i, .string data] w (RetDE S w (writeD d i data).1 (writeD d i data).2) := by
 have hD0 := hD
 obtain ⟨po, pc, co, cc, rfl, hp, hc, ok⟩ := hD
 have ok1 := ok.pages
 have okW := Lib.hid ok
 clear ok hp hc
 obtain ⟨i0, hi, hz0, hz1, hz2⟩ := info_parts infoPW
 have hbw : ∀ o o', Below w.heap.size w ((w.alloc o).alloc o') := fun o o' => ((Below.refl _ _).alloc (Nat.le_refl _) _).alloc (by simp) _
 unfold writeD
 cases hz : (chk d != 0)
 ·
  rw [if_neg (by simpa using hz)]
  cases g1 : decide (i < 0)
  ·
   cases g2 : decide ((d.pages.length : Int) ≤ i)
   ·
    rw [if_neg (by simp at g1 g2; omega)]
    cases g3 : ((data.size : Int) != d.size)
    ·
     rw [if_neg (by simpa using g3)]
     cases g4 : (d.left == 0)
     ·
      rw [if_neg (by simpa using g4)]
      exact disk_write_ok d _ i data w hS hD0 hd hn hz g1 g2 g3 g4
     ·
      rw [if_pos (by simpa using g4)]
      exact disk_write_lost d _ i data w hS hD0 hd hn hz g1 g2 g3 g4
    ·
     rw [if_pos (by simpa using g3)]
     go_enter Tryd.func64, Tryd.ntmps64
     go_wp2_with fail
     refine (disk_check d _ _ (hD0.below (hbw _ _))).mono ?_
     rintro e w1 ⟨rfl, hb1⟩
     have xA := ((Bx.new w _ _).alloc _).belowAll hb1
     have xR := (Bx.new (w.alloc _) _ _).belowAll hb1
     rw [World.size_alloc] at xR
     have cA := xA.cell
     have fA := xA.free
     have cR := xR.cell
     have fR := xR.free
     have hB : Below w.heap.size w w1 := (hbw _ _).trans (hb1.mono (by simp; omega))
     have hlA := xA.lt
     have hlR := xR.lt
     go_wp2
     refine bodyPost_ret (v := .tuple #[.agg #[.int .i64 0, .slice none 0 0, .slice none 0 0, .int .i64 0], .int .i64 10]) (by simp [results, Tryd.results64, go_sem, cR]) rfl ?_
     exact ⟨_, rfl, zero_DskR _, (by repeat (first | exact hB | (refine Below.setCell ?_ (by simp) _) | (refine Below.alloc ?_ (by simp; omega) _) | (refine Below.drewN ?_ _) | (refine Below.drew ?_)))⟩
   ·
    rw [if_pos (by simp at g1 g2; omega)]
    go_enter Tryd.func64, Tryd.ntmps64
    go_wp2_with fail
    refine (disk_check d _ _ (hD0.below (hbw _ _))).mono ?_
    rintro e w1 ⟨rfl, hb1⟩
    have xA := ((Bx.new w _ _).alloc _).belowAll hb1
    have xR := (Bx.new (w.alloc _) _ _).belowAll hb1
    rw [World.size_alloc] at xR
    have cA := xA.cell
    have fA := xA.free
    have cR := xR.cell
    have fR := xR.free
    have hB : Below w.heap.size w w1 := (hbw _ _).trans (hb1.mono (by simp; omega))
    have hlA := xA.lt
    have hlR := xR.lt
    go_wp2
    refine bodyPost_ret (v := .tuple #[.agg #[.int .i64 0, .slice none 0 0, .slice none 0 0, .int .i64 0], .int .i64 2]) (by simp [results, Tryd.results64, go_sem, cR]) rfl ?_
    exact ⟨_, rfl, zero_DskR _, (by repeat (first | exact hB | (refine Below.setCell ?_ (by simp) _) | (refine Below.alloc ?_ (by simp; omega) _) | (refine Below.drewN ?_ _) | (refine Below.drew ?_)))⟩
  ·
   rw [if_pos (by simp at g1; omega)]
   go_enter Tryd.func64, Tryd.ntmps64
   go_wp2_with fail
   refine (disk_check d _ _ (hD0.below (hbw _ _))).mono ?_
   rintro e w1 ⟨rfl, hb1⟩
   have xA := ((Bx.new w _ _).alloc _).belowAll hb1
   have xR := (Bx.new (w.alloc _) _ _).belowAll hb1
   rw [World.size_alloc] at xR
   have cA := xA.cell
   have fA := xA.free
   have cR := xR.cell
   have fR := xR.free
   have hB : Below w.heap.size w w1 := (hbw _ _).trans (hb1.mono (by simp; omega))
   have hlA := xA.lt
   have hlR := xR.lt
   go_wp2
   refine bodyPost_ret (v := .tuple #[.agg #[.int .i64 0, .slice none 0 0, .slice none 0 0, .int .i64 0], .int .i64 2]) (by simp [results, Tryd.results64, go_sem, cR]) rfl ?_
   exact ⟨_, rfl, zero_DskR _, (by repeat (first | exact hB | (refine Below.setCell ?_ (by simp) _) | (refine Below.alloc ?_ (by simp; omega) _) | (refine Below.drewN ?_ _) | (refine Below.drew ?_)))⟩
 ·
  rw [if_pos (by simpa using hz)]
  go_enter Tryd.func64, Tryd.ntmps64
  go_wp2_with fail
  refine (disk_check d _ _ (hD0.below (hbw _ _))).mono ?_
  rintro e w1 ⟨rfl, hb1⟩
  have xA := ((Bx.new w _ _).alloc _).belowAll hb1
  have xR := (Bx.new (w.alloc _) _ _).belowAll hb1
  rw [World.size_alloc] at xR
  have cA := xA.cell
  have fA := xA.free
  have cR := xR.cell
  have fR := xR.free
  have hB : Below w.heap.size w w1 := (hbw _ _).trans (hb1.mono (by simp; omega))
  have hlA := xA.lt
  have hlR := xR.lt
  go_wp2
  refine bodyPost_ret (v := .tuple #[.agg #[.int .i64 0, .slice none 0 0, .slice none 0 0, .int .i64 0], .int .i64 1]) (by simp [results, Tryd.results64, go_sem, cR]) rfl ?_
  exact ⟨_, rfl, zero_DskR _, (by repeat (first | exact hB | (refine Below.setCell ?_ (by simp) _) | (refine Below.alloc ?_ (by simp; omega) _) | (refine Below.drewN ?_ _) | (refine Below.drew ?_)))⟩
end Go.Proofs.YtghikgjknhjjgaaDoor
namespace Go.Proofs.YtghikgjknhjjgaaDoor
set_option maxRecDepth 100000
open Go.RowKit
theorem infoStr : (Tryd.prog.info? 9).map (fun i => (i.zero, i.size, i.bytes)) = some (some (.string .empty), 1, 16) := by kernel_rfl
theorem infoU8 : (Tryd.prog.info? 5).map (fun i => (i.zero, i.size, i.bytes)) = some (some (.int .u8 0), 1, 1) := by kernel_rfl
def zerosB (n : Nat) : ByteArray := ⟨(List.replicate n 0).toArray⟩
theorem newD_ok {p : Nat} {s : Int} {z : ByteArray} {o : Option Addr} {c : Nat} (hs : SlW o p c) (hp : p ≤ 2000) (hz : z.size ≤ 512) : DskOk ⟨s, List.replicate p z, [], -1⟩ o none c 0 := by
 refine ⟨by simpa using hs, .inl ⟨rfl, rfl, rfl⟩, by simp; omega, by simp, ?_, by simp, by simp⟩
 intro x hx
 simp at hx
 rw [hx.2]; omega
theorem repeatL_zero (n : Nat) : Lib.repeatL [0] n = List.replicate n 0 := by
 induction n with
 | zero => rfl
 | succ n ih => simp [Lib.repeatL, ih, List.replicate_succ]
theorem repeat_zero (n : Nat) (hn : n ≤ 1000000) (w : World) :
  Calls Tryd.prog 49 #[.string { data := #[0] }, .int .i64 n] w fun e w' => e = .returned (.string (zerosB n)) ∧ Below w.heap.size w w' := by
 have h := Tryd.strings_Repeat { data := #[0] } n w (by omega) (by show 1 * n ≤ _; omega)
 rw [show ({ data := #[0] } : ByteArray).data.toList = [0] from rfl, repeatL_zero] at h
 exact h
set_option maxHeartbeats 1000000 in
theorem disk_new_ok (p s : Nat) (w : World) {S : Nat → Prop} (hr : rangedB p s = true) :
  Calls Tryd.prog 25 #[.int .i64 p, .int .i64 s] w (RetDE S w ⟨s, List.replicate p (zerosB s), [], -1⟩ 0) := by
 obtain ⟨i0, hi, hz0, hz1, hz2⟩ := info_parts infoStr
 have hb : p ≤ 2000 ∧ s ≤ 512 := by simp [rangedB] at hr; omega
 rcases rangedB_tests hr with ⟨a1, a2, a3, a4, h⟩ | ⟨_, h⟩ | ⟨_, _, h⟩ | ⟨_, _, _, h⟩ | ⟨_, _, _, _, h⟩
 rotate_left
 ·
  cases h
 ·
  cases h
 ·
  cases h
 ·
  cases h
 clear h
 obtain ⟨z, ez⟩ : ∃ z, zerosB s = z := ⟨_, rfl⟩
 have hrep : ∀ W : World, Calls Tryd.prog 49 #[.string { data := #[0] }, .int .i64 s] W fun e w' => e = .returned (.string z) ∧ Below W.heap.size W w' := fun W => ez ▸ repeat_zero s (by omega) W
 have ezh := Lib.hid ez
 clear ez
 go_enter Tryd.func25, Tryd.ntmps25
 go_wp2
 clear a1 a2 a3 a4
 go_loopw [25] (fun i wr => ∃ (k : Nat) (v : Value), k ≤ p ∧ i = .int .i64 k ∧ wr.ownsRow (w.heap.size + 2) 9 1 v k (List.replicate k (.string z)) ∧ Bx wr w.heap.size #[.int .i64 0, .slice none 0 0, .slice none 0 0, .int .i64 0] 30 ∧ Bx wr (w.heap.size + 1) #[.int .i64 s, v, .slice none 0 0, .int .i64 (-1)] 30 ∧ Below w.heap.size w wr) (fun i _ => p - (intOf i).toNat)
 case atStart => exact ⟨0, _, Nat.zero_le _, rfl, World.ownsRow_nil _ _ _ _, (Bx.new w _ _).alloc _, by simpa using Bx.new (w.alloc _) _ _, ((Below.refl _ _).alloc (Nat.le_refl _) _).alloc (by simp) _⟩
 case round =>
  obtain ⟨k, v, hk, rfl, hown, xR, xD, hB⟩ := hrel
  have hlD := xD.lt
  have cR := xR.cell
  have fR := xR.free
  have cD := xD.cell
  have fD := xD.free
  by_cases hlt : k < p
  ·
   go_wp2
   go_region_law (first
    | (refine step_app rfl (.tmp 28) (.tmp 31) 27 rfl (w.heap.size + 2) 9 i0 _ 1 16 Tryd.underlying27 hi hz0 hz1 hz2 rfl (by decide) v k _ rfl (hown2.alloc _) _ 1 1 [.string z] rfl (by intro e; cases e) rfl (RowAt.bx (Bx.new w2 _ _)) (by simp [Value.oneCell']) (by unfold maxLen; omega) (by omega) (by simp; omega) ?_; intro v3 w3 hown3 hg3; clear cR2 fR2 cD2 fD2; obtain ⟨o3, c3, rfl, hs3, hr3, ho3⟩ := ownsRow_at hown3; have xR3 := (xR2.alloc _).grown hg3 (by intro e; have := (hown2.lt _ e.symm).1; omega); have xD3 := (xD2.alloc _).grown hg3 (by intro e; have := (hown2.lt _ e.symm).1; omega); have cR3 := xR3.cell; have fR3 := xR3.free; have cD3 := xD3.cell; have fD3 := xD3.free)
    | (go_simp; go_at_call 49; refine (hrep _).mono ?_; rintro e w2 ⟨rfl, hb2⟩; have xR2 := xR.drew.belowAll hb2; have xD2 := xD.drew.belowAll hb2; have hown2 := ownsRow_belowAll hown.drew hb2; have hB2 := hB.drew.trans (hb2.mono hB.size); have hl2 := xD2.lt; clear cR fR cD fD; have cR2 := xR2.cell; have fR2 := xR2.free; have cD2 := xD2.cell; have fD2 := xD2.free))
   all_goals
    have hB3 : Below w.heap.size w w3 := (hB2.alloc (by omega) _).grown hg3 (by simp; omega) (by intro j e; have := (hown2.lt _ e).1; omega)
    go_wp2
    go_roundw
    case rel =>
     refine ⟨k + 1, _, by omega, by go_num, by rw [List.replicate_succ']; exact ownsRow_setB hown3 (by omega) _, xR3.setO (by simp) _, by simpa using xD3.set 1 _, below_set1 hB3 (by omega)⟩
    case measure => simp [intOf]; omega
  ·
   obtain rfl : k = p := by omega
   obtain ⟨o2, c2, rfl, hs2, hr2, ho2⟩ := ownsRow_at hown
   go_wp2
   refine bodyPost_ret (v := .tuple #[.agg #[.int .i64 s, .slice o2 k c2, .slice none 0 0, .int .i64 (-1)], .int .i64 0]) (by simp [results, Tryd.results25, go_sem, cR]) rfl ?_
   refine ⟨_, rfl, ⟨o2, c2, none, 0, by simp, ?_, by intro i h; simp at h, newD_ok (by simpa using hs2) hb.1 (by simp [zerosB, ByteArray.size]; exact hb.2)⟩, below_set4 (b := w.heap.size) hB (Nat.le_refl _)⟩
   refine StrsAt.mono (S := fun b => w.heap.size + 2 ≤ b ∧ b < wr.heap.size) ?_ (fun b h => Gr.new (by omega) (by simp only [World.size_setCell]; omega))
   exact (StrsAt.of_row (by rw [show zerosB s = z from ezh.out]; simpa using hr2)).same ((Same.refl _ _).set4 (b := w.heap.size) (by omega))
set_option maxHeartbeats 1000000 in
theorem disk_new (p s : Int) (w : World) {S : Nat → Prop} :
  Calls Tryd.prog 25 #[.int .i64 p, .int .i64 s] w (RetDE S w (newD p s).1 (newD p s).2) := by
 unfold newD
 cases hr : rangedB p s
 ·
  rw [if_neg (by simp)]
  rcases rangedB_tests hr with ⟨_, _, _, _, h⟩ | ⟨a1, _⟩ | ⟨a1, a2, _⟩ | ⟨a1, a2, a3, _⟩ | ⟨a1, a2, a3, a4, _⟩
  ·
   cases h
  all_goals
   go_enter Tryd.func25, Tryd.ntmps25
   go_wp2
   refine bodyPost_ret (v := .tuple #[.agg #[.int .i64 0, .slice none 0 0, .slice none 0 0, .int .i64 0], .int .i64 2]) (by simp [results, Tryd.results25, go_sem]) rfl ?_
   exact ⟨_, rfl, zero_DskR _, by repeat (first | exact Below.refl _ _ | (refine Below.setCell ?_ (by simp) _) | (refine Below.alloc ?_ (by simp) _))⟩
 ·
  rw [if_pos rfl]
  have hb : 1 ≤ p ∧ 1 ≤ s := by simp [rangedB] at hr; omega
  obtain ⟨p, rfl⟩ := Int.eq_ofNat_of_zero_le (a := p) (by omega)
  obtain ⟨s, rfl⟩ := Int.eq_ofNat_of_zero_le (a := s) (by omega)
  exact disk_new_ok p s w hr
end Go.Proofs.YtghikgjknhjjgaaDoor
namespace Go.Proofs.YtghikgjknhjjgaaDoor
set_option maxRecDepth 100000
open Go.RowKit
theorem crashP_step {picks : List Int} {size : Int} {l : List PW} {k : Nat} (h : k < l.length) (ps : List ByteArray) :
  crashP picks size k (l.drop k) ps = crashP picks size (k + 1) (l.drop (k + 1)) (ps.set l[k].page.toNat (tear (takenI picks k size).toNat l[k].data (ps.getD l[k].page.toNat ByteArray.empty))) := by
 rw [List.drop_eq_getElem_cons h, crashP]
theorem tear_size {n : Nat} {a b : ByteArray} (h1 : n ≤ a.size) (h2 : a.size = b.size) : (tear n a b).size = b.size := by
 unfold tear
 rw [ByteArray.size_append, ByteArray.size_extract, ByteArray.size_extract]
 omega
theorem crash_ok {d : Dsk} {ps : List ByteArray} {o : Option Addr} {c : Nat} (hs : SlW o ps.length c) (hp : ps.length ≤ 2000) (hz : ∀ s ∈ ps, (s.size : Int) ≤ 512) : DskOk ⟨d.size, ps, [], -1⟩ o none c 0 := by
 refine ⟨hs, .inl ⟨rfl, rfl, rfl⟩, by simp; omega, by simp, ?_, by simp, by simp⟩
 intro x hx
 have := hz x hx
 omega
set_option maxHeartbeats 2000000 in
theorem disk_crash_ok (d : Dsk) (v : Value) (picks : List Int) (qo : Option Addr) (qc : Nat) (w : World) {S T : Nat → Prop} (_hS : InS S w) (hD : DskR S w v d) (hq : IntsAt T w qo picks) (hql : picks.length ≤ 1000000) (hn : d.cache.length ≤ 1000000) (hz : chk d = 0) :
  Calls Tryd.prog 16 #[v, .slice qo picks.length qc] w (RetD S w ⟨d.size, crashP picks d.size 0 d.cache d.pages, [], -1⟩) := by
 obtain ⟨v1, v2, v3, v4⟩ := chk_zero hz
 have hr := rangedB_true v1
 have hz0 : (chk d != 0) = false := by simp [hz]
 have hD0 := hD
 obtain ⟨po, pc, co, cc, rfl, hp, hc, ok⟩ := hD
 have ok1 := ok.pages
 obtain ⟨i0, hi, hz0', hz1, hz2⟩ := info_parts infoStr
 have hbw : ∀ o o', Below w.heap.size w ((w.alloc o).alloc o') := fun o o' => ((Below.refl _ _).alloc (Nat.le_refl _) _).alloc (by simp) _
 go_enter Tryd.func16, Tryd.ntmps16
 go_wp2_with fail
 refine (disk_check d _ _ (hD0.below (hbw _ _))).mono ?_
 rintro e w1 ⟨rfl, hb1⟩
 have xA := ((Bx.new w _ _).alloc _).belowAll hb1
 have xR := (Bx.new (w.alloc _) _ _).belowAll hb1
 rw [World.size_alloc] at xR
 have cA := xA.cell
 have fA := xA.free
 have cR := xR.cell
 have fR := xR.free
 have hB : Below w.heap.size w w1 := (hbw _ _).trans (hb1.mono (by simp; omega))
 have hlR := xR.lt
 have hlA := xA.lt
 have hp1 := (hp.below (hbw _ _)).below hb1
 have hv2 := Lib.hid v2
 have hv3 := Lib.hid v3
 have hp2000 : d.pages.length ≤ 2000 := by omega
 have hs512 : 1 ≤ d.size ∧ d.size ≤ 512 := hr.2.2
 clear v2 v3 hr
 go_wp2_with (first
  | (refine wpList_makeB rfl (.tmp 15) (.tmp 15) 27 rfl 9 i0 _ 16 Tryd.underlying27 hi hz0' hz1 hz2 rfl d.pages.length rfl rfl (by omega) (by omega) ?_; intro w2 xG hg2 hz2'; have xA2 := xA.grown hg2 (by simp); have xR2 := xR.grown hg2 (by simp); have hB2 := hB.grown hg2 (by omega) (by intro k e; cases e); have hp2 := hp1.below ((Below.refl _ _).grown hg2 (Nat.le_refl _) (by intro k e; cases e)); clear cA fA cR fR; have cA := xA2.cell; have fA := xA2.free; have hlA2 := xA2.lt)
  | (refine wpList_copyB rfl (.tmp 17) (.tmp 19) _ _ rfl 9 Tryd.underlying27 (by rw [hi]; simp [hz1]) w1.heap.size d.pages.length d.pages.length pc po (List.replicate d.pages.length (.string .empty)) (d.pages.map .string) 9 rfl rfl xG (by simp) (by simp) hp2.row (strs_one _) ?_; intro w3 xG3 hg3; have xA3 := xA2.grown hg3 (fun e => by have e := Option.some.inj e; omega); have xR3 := xR2.grown hg3 (fun e => by have e := Option.some.inj e; omega); have hB3 := hB2.grown hg3 (by omega) (by intro k e; cases e; omega); clear cA fA; have cA := xA3.cell; have fA := xA3.free; have hlA3 := xA3.lt))
 have hnB := Lib.hid hB3
 go_loopw [24] (fun q wr => ∃ (k : Nat) (ps : List ByteArray), k ≤ d.cache.length ∧ q = .int .i64 k ∧ ps.length = d.pages.length ∧ (∀ s ∈ ps, (s.size : Int) = d.size) ∧ crashP picks d.size k (d.cache.drop k) ps = crashP picks d.size 0 d.cache d.pages ∧ Bx wr w1.heap.size (ps.map Value.string).toArray 9 ∧ Bx wr w.heap.size #[.int .i64 d.size, .slice po d.pages.length pc, .slice co d.cache.length cc, .int .i64 d.left] 30 ∧ Bx wr (w.heap.size + 1) #[.int .i64 0, .slice none 0 0, .slice none 0 0, .int .i64 0] 30 ∧ Below w.heap.size w wr) (fun q _ => d.cache.length - (intOf q).toNat)
 case atStart => exact ⟨0, d.pages, Nat.zero_le _, rfl, rfl, hv2.out, rfl, xG3, xA3, xR3, hB3⟩
 case round =>
  clear cA fA xA2 xA3 xR2 xR3 xG xG3 hg2 hg3 hB2 hB3 hp2 hp1 hlA2 hlA3
  obtain ⟨k, ps, hk, rfl, hpl, hps0, hq0, xG, xA, xR, hB⟩ := hrel
  have hq1 := Lib.hid hq0
  have hps := Lib.hid hps0
  have hplh := Lib.hid hpl
  clear hq0 hps0 hpl
  have cA := xA.cell
  have fA := xA.free
  have hlG := xG.lt
  have hlA' := xA.lt
  by_cases hlt : k < d.cache.length
  ·
   obtain ⟨b, off, rfl, hcell0, hcell1, _⟩ := hc k hlt
   have hcell : wr.cell? ⟨b, off + k * 2, none⟩ = some (.int .i64 d.cache[k].page) := by rw [hB.cell (World.block_lt_of_cell? w _ hcell0)]; exact hcell0
   have hcell' : wr.cell? ⟨b, off + k * 2 + 1, none⟩ = some (.string d.cache[k].data) := by rw [hB.cell (World.block_lt_of_cell? w _ hcell1)]; exact hcell1
   have hbl : b < wr.heap.size := World.block_lt_of_cell? wr _ hcell
   obtain ⟨x1, x2, x3⟩ := hv3.out d.cache[k] (List.getElem_mem hlt)
   generalize hx : d.cache[k] = x at *
   obtain ⟨xp, xd⟩ := x
   simp only at x1 x2 x3 hcell hcell'
   obtain ⟨pi, rfl⟩ := Int.eq_ofNat_of_zero_le x1
   have hpi : pi < ps.length := by rw [hplh.out]; omega
   have gcell : wr.cell? ⟨w1.heap.size, pi, none⟩ = some (.string ps[pi]) := by rw [xG.cell]; simp [hpi]
   have gfree : wr.frozen? ⟨w1.heap.size, pi, none⟩ = false := xG.free pi
   have hsz := hps.out ps[pi] (List.getElem_mem hpi)
   obtain ⟨t1, t2⟩ := takenI_bd picks k d.size (by omega)
   obtain ⟨t, ht⟩ := Int.eq_ofNat_of_zero_le t1
   have htk : ∀ W, IntsAt T W qo picks → Calls Tryd.prog 35 #[.slice qo picks.length qc, .int .i64 k, .int .i64 d.size] W fun e w' => e = .returned (.int .i64 t) ∧ W = w' := fun W h => ht ▸ disk_taken picks qo qc k d.size (by omega) (by omega) (by omega) (by omega) W h
   have hqW : IntsAt T wr qo picks := hq.below hB
   rw [ht] at t1 t2
   have hth := Lib.hid ht
   have hxh := Lib.hid hx
   have hszh := Lib.hid hsz
   have x3h := Lib.hid x3
   have u1 : t ≤ xd.size := by omega
   have u2 : t ≤ ps[pi].size := by omega
   have u3 : ¬ 9223372036854775807 < ps[pi].size := by omega
   clear ht hx hsz x3 hcell0 hcell1
   go_wp2_with (go_at_call 35; refine (htk _ (hqW.below ((Below.refl _ _).alloc (Nat.le_refl _) _))).mono ?_; rintro e w' ⟨rfl, rfl⟩)
   refine wp_region_still_tail 16 (by kernel_rfl) (by kernel_rfl) ?_
   simp only [List.take_succ_cons, List.take_zero, List.drop_succ_cons, List.drop_zero, World.drew_eq]
   repeat still_step
   refine wpStill_nil ?_
   go_wp2
   go_roundw
   case rel =>
    have e1 : ps.getD ((pi : Int)).toNat ByteArray.empty = ps[pi] := by simp [hpi]
    refine ⟨k + 1, ps.set pi (tear t xd ps[pi]), by omega, by go_num, by rw [List.length_set]; exact hplh.out, ?_, ?_, ?_, (xA.setO (by simp; omega) _).alloc _, (xR.setO (by simp; omega) _).alloc _, ((below_set1 (b := w1.heap.size) hB (by omega)).alloc (by simp; omega) _).drew⟩
    ·
     intro s hs
     rcases List.mem_or_eq_of_mem_set hs with hs | rfl
     ·
      exact hps.out s hs
     ·
      rw [tear_size (by omega) (by have := x3h.out; have := hszh.out; omega)]; exact hszh.out
    ·
     rw [← hq1.out, crashP_step hlt, hxh.out]
     simp only
     rw [e1, hth.out]
     simp
    ·
     have := (xG.set pi (Value.string (tear t xd ps[pi]))).alloc (.cells #[Value.int IntKind.i64 pi, Value.string xd] 84)
     simpa [List.map_set, tear] using this.drew
   case measure => simp [intOf]; omega
  ·
   obtain rfl : k = d.cache.length := by omega
   have hps' : Hid (crashP picks d.size 0 d.cache d.pages = ps) := by unfold Hid; rw [← hq1.out, List.drop_length]; rfl
   have cR := xR.cell
   have fR := xR.free
   have hlR' := xR.lt
   go_wp2
   refine bodyPost_ret (v := .agg #[.int .i64 d.size, .slice (some ⟨w1.heap.size, 0, none⟩) d.pages.length d.pages.length, .slice none 0 0, .int .i64 (-1)]) (by simp [results, Tryd.results16, go_sem, cR]) rfl ?_
   rw [hps'.out]
   refine ⟨_, rfl, ⟨some ⟨w1.heap.size, 0, none⟩, d.pages.length, none, 0, by simp only [hplh.out, List.length_nil], ?_, by intro i h; simp at h, crash_ok (.inr ⟨_, rfl, by rw [hplh.out]; exact Nat.le_refl _, by simp [maxLen]; omega⟩) (by rw [hplh.out]; exact hp2000) (fun s hs => by have := hps.out s hs; omega)⟩, ?_⟩
   ·
    refine StrsAt.mono (S := (· = w1.heap.size)) ?_ (fun b h => Gr.new (by omega) (by simp; omega))
    exact (StrsAt.of_row (by simpa using RowAt.bx xG)).same (((((Same.refl _ _).set1 (b := w.heap.size) (by omega)).set1 (b := w.heap.size) (by omega)).set1 (b := w.heap.size) (by omega)).set4 (b := w.heap.size + 1) (by omega))
   ·
    exact below_set4 (b := w.heap.size + 1) (below_set1 (b := w.heap.size) (below_set1 (b := w.heap.size) (below_set1 (b := w.heap.size) hB (by omega)) (by omega)) (by omega)) (by omega)
set_option maxHeartbeats 1000000 in
theorem disk_crash (d : Dsk) (v : Value) (picks : List Int) (qo : Option Addr) (qc : Nat) (w : World) {S T : Nat → Prop} (hS : InS S w) (hD : DskR S w v d) (hq : IntsAt T w qo picks) (hql : picks.length ≤ 1000000) (hn : d.cache.length ≤ 1000000) :
  Calls Tryd.prog 16 #[v, .slice qo picks.length qc] w (RetD S w (crashD d picks)) := by
 unfold crashD
 cases hz : (chk d != 0)
 ·
  rw [if_neg (by simpa using hz)]
  exact disk_crash_ok d v picks qo qc w hS hD hq hql hn (by simpa using hz)
 ·
  rw [if_pos (by simpa using hz)]
  have hD0 := hD
  obtain ⟨po, pc, co, cc, rfl, hp, hc, ok⟩ := hD
  have hbw : ∀ o o', Below w.heap.size w ((w.alloc o).alloc o') := fun o o' => ((Below.refl _ _).alloc (Nat.le_refl _) _).alloc (by simp) _
  go_enter Tryd.func16, Tryd.ntmps16
  go_wp2_with fail
  refine (disk_check d _ _ (hD0.below (hbw _ _))).mono ?_
  rintro e w1 ⟨rfl, hb1⟩
  have xR := (Bx.new (w.alloc _) _ _).belowAll hb1
  rw [World.size_alloc] at xR
  have cR := xR.cell
  have fR := xR.free
  have hB : Below w.heap.size w w1 := (hbw _ _).trans (hb1.mono (by simp; omega))
  go_wp2
  refine bodyPost_ret (v := .agg #[.int .i64 0, .slice none 0 0, .slice none 0 0, .int .i64 0]) (by simp [results, Tryd.results16, go_sem, cR]) rfl ?_
  exact ⟨_, rfl, zero_DskR _, below_set4 (b := w.heap.size + 1) hB (by omega)⟩
end Go.Proofs.YtghikgjknhjjgaaDoor
