/- disk.Read (layer 40) for every disk and index: the pair 'readD' of the disk. -/
import Derived.Test.YtjbcagijfodfgaaDBack
import Derived.Test.YtjbcagijfodfgaaDChk
namespace Go.Proofs.Ytjbcagijfodfgaa
open Go.RowKit Go.Shelf
attribute [local go_sem] Oper.semAt_some

theorem bx_own {A B : World} {row : Option Nat} {b : Nat} {cs : Array Value} {t : TypeId} (hs : Bx A b cs t) (hg : A.grownBy B row) (hr : ∀ r, row = some r → ∃ o : Obj, A.heap[r]? = some o ∧ o.isCells = false) : Bx B b cs t := by
  refine hs.grown hg fun e => ?_
  obtain ⟨o, ho, hc⟩ := hr b e.symm
  unfold Bx at hs
  rw [hs] at ho
  cases ho
  cases hc
theorem bkF_mem {l : List PW} {k : Nat} (hk : k ≤ l.length) {x : PW} (hx : x ∈ l.drop (l.length - k)) : ∃ p ∈ upto (bkF l) k, p.2 = x := by
  obtain ⟨m, hm, rfl⟩ := List.mem_iff_getElem.1 hx
  have hm' : m < k := by simp at hm; omega
  refine ⟨bkF l (k - 1 - m), List.mem_map.2 ⟨k - 1 - m, List.mem_range.2 (by omega), rfl⟩, ?_⟩
  have e : l.length - 1 - (k - 1 - m) = l.length - k + m := by omega
  simp [bkF, e]
  rw [List.getElem?_eq_getElem (by omega)]; rfl
theorem lastW_none {i : Int} {l : List PW} (h : ∀ x ∈ l, (x.page == i) = false) (s : ByteArray) : lastW i l s = s := by
  induction l generalizing s with
  | nil => rfl
  | cons x l ih =>
    rw [lastW, if_neg (by simpa using h x (by simp)), ih (fun y hy => h y (by simp [hy]))]
theorem lastW_app {i : Int} (a b : List PW) (s : ByteArray) : lastW i (a ++ b) s = lastW i b (lastW i a s) := by
  induction a generalizing s with
  | nil => rfl
  | cons x a ih => rw [List.cons_append, lastW, lastW, ih]
theorem lastW_all {i : Int} {l : List PW} (h : ∀ p ∈ upto (bkF l) l.length, (p.2.page == i) = false) (s : ByteArray) : lastW i l s = s :=
  lastW_none (fun x hx => by obtain ⟨p, hp, rfl⟩ := bkF_mem (Nat.le_refl l.length) (x := x) (by simpa using hx); exact h p hp) s
theorem lastW_at {i : Int} {l : List PW} {k : Nat} (hk : k < l.length) (h : ∀ p ∈ upto (bkF l) k, (p.2.page == i) = false) (hx : ((bkF l k).2.page == i) = true) (s : ByteArray) : lastW i l s = (bkF l k).2.data := by
  have e : l = l.take (l.length - 1 - k) ++ (l[l.length - 1 - k] :: l.drop (l.length - k)) := by
    rw [show l.length - k = l.length - 1 - k + 1 by omega, ← List.drop_eq_getElem_cons, List.take_append_drop]
  have e2 : (bkF l k).2 = l[l.length - 1 - k] := by simp [bkF, List.getElem?_eq_getElem (show l.length - 1 - k < l.length by omega)]
  rw [e2] at hx ⊢
  rw [show lastW i l s = lastW i (l.take (l.length - 1 - k) ++ (l[l.length - 1 - k] :: l.drop (l.length - k))) s by rw [← e], lastW_app, lastW, if_pos (by simpa using hx)]
  exact lastW_none (fun x hx => by obtain ⟨p, hp, rfl⟩ := bkF_mem (Nat.le_of_lt hk) hx; exact h p hp) _

set_option maxRecDepth 100000 in
set_option maxHeartbeats 2000000 in
theorem disk_read (d : Dsk) (v : Value) (i : Int) (w : World) {S : Nat → Prop} (hS : InS S w) (hD : DskR S w v d) :
    Calls Try.prog 20 #[v, .int .i64 i] w fun e w' => e = .returned (.tuple #[.string (readD d i).1, .int .i64 (readD d i).2]) ∧ Below w.heap.size w w' := by
  have hD0 := hD
  obtain ⟨po, pc, co, cc, rfl, hp, hc, ok⟩ := hD
  have ok1 := ok.pages
  have ok2 := ok.cache
  have hcb : ∀ k (h : k < d.pages.length), ∃ b off, po = some ⟨b, off, none⟩ ∧ w.cell? ⟨b, off + k, none⟩ = some (.string d.pages[k]) := fun k h => by
    obtain ⟨b, off, e, h1, _⟩ := hp k h; exact ⟨b, off, e, h1⟩
  obtain ⟨n, hn⟩ : ∃ n, 9 ≤ n := ⟨9, Nat.le_refl _⟩
  refine (callsIn_wide (n := n)).1 ?_
  have hro : Fence.wide.round = none := rfl
  have h1 : 1 ≤ n := by omega
  refine callsIn_of_wp_marks Try.func20 rfl trivial ?_ hro
  simp only [Try.ntmps20, List.size_toArray, List.length_cons, List.length_nil, Nat.reduceAdd, Nat.reduceSub, Array.replicate_succ, Array.replicate_zero, List.push_toArray, List.append_toArray, List.nil_append, List.cons_append]
  generalize hres : readD d i = res
  unfold readD at hres
  have hbw : ∀ o1 o2 o3 o4, Below w.heap.size w ((((w.alloc o1).alloc o2).alloc o3).alloc o4) := fun o1 o2 o3 o4 =>
    ((((Below.refl _ _).alloc (Nat.le_refl _) _).alloc (by simp) _).alloc (by simp; omega) _).alloc (by simp; omega) _
  gi_wp2_with (refine ⟨trivial, ?_⟩; gi_at_call 16; refine (callsIn_wide.2 (disk_check d _ _ (hD0.below (hbw _ _ _ _)))).mono ?_)
  rintro e w1 ⟨rfl, hb⟩
  have xD := ((((Bx.new w #[.int .i64 d.size, .slice po d.pages.length pc, .slice co d.cache.length cc, .int .i64 d.left] 25).alloc (.cells #[.int .i64 i] 3)).alloc (.cells #[.string ⟨#[]⟩] 9)).alloc (.cells #[.int .i64 0] 28)).belowAll hb
  have xI := (((Bx.newAt (w.alloc (.cells #[.int .i64 d.size, .slice po d.pages.length pc, .slice co d.cache.length cc, .int .i64 d.left] 25)) #[.int .i64 i] 3 (w.heap.size + 1) (by simp)).alloc (.cells #[.string ⟨#[]⟩] 9)).alloc (.cells #[.int .i64 0] 28)).belowAll hb
  have xS := ((Bx.newAt ((w.alloc (.cells #[.int .i64 d.size, .slice po d.pages.length pc, .slice co d.cache.length cc, .int .i64 d.left] 25)).alloc (.cells #[.int .i64 i] 3)) #[.string ⟨#[]⟩] 9 (w.heap.size + 1 + 1) (by simp)).alloc (.cells #[.int .i64 0] 28)).belowAll hb
  have xE := (Bx.newAt (((w.alloc (.cells #[.int .i64 d.size, .slice po d.pages.length pc, .slice co d.cache.length cc, .int .i64 d.left] 25)).alloc (.cells #[.int .i64 i] 3)).alloc (.cells #[.string ⟨#[]⟩] 9)) #[.int .i64 0] 28 (w.heap.size + 1 + 1 + 1) (by simp)).belowAll hb
  have hB1 : Below w.heap.size w w1 := (hbw _ _ _ _).trans (hb.mono (by simp; omega))
  have hsz : w.heap.size + 4 ≤ w1.heap.size := by have := hb.size; simp at this; omega
  clear hb
  have cD0 := xD.cell 0; have cD1 := xD.cell 1; have cD2 := xD.cell 2; have cD3 := xD.cell 3
  have cI := xI.cell 0; have cS := xS.cell 0; have cE := xE.cell 0
  have fS := xS.free 0; have fE := xE.free 0
  have lS := xS.lt; have lE := xE.lt; have lD := xD.lt; have lI := xI.lt
  simp at cD0 cD1 cD2 cD3 cI cS cE
  cases hz : (chk d != 0)
  · rw [if_neg (by simpa using hz)] at hres
    by_cases hneg : i < 0
    · rw [if_pos hneg] at hres
      subst hres
      gi_wp2
      refine ⟨.tuple #[.string ByteArray.empty, .int .i64 2], ?_, rfl, below_set1 (b := w.heap.size + 1 + 1 + 1) (below_set1 (b := w.heap.size + 1 + 1) hB1 (by omega)) (by omega)⟩
      simp [results, Try.f20, go_sem, cS, cE]
      all_goals first | rfl | omega
    · rw [if_neg hneg] at hres
      obtain ⟨k, rfl⟩ := Int.eq_ofNat_of_zero_le (Int.not_lt.1 hneg)
      rw [Int.toNat_natCast] at hres
      by_cases hk : k < d.pages.length
      · rw [dif_pos hk] at hres
        subst hres
        obtain ⟨pb, poff, rfl, hcell0⟩ := hcb k hk
        gi_wp2_with (refine ⟨trivial, ?_⟩; gi_at_call 31; refine (back_in Fence.wide _ trivial hro _ _ _ _).mono ?_; rintro e w' ⟨rfl, rfl⟩)
        obtain ⟨W0, hW0⟩ : ∃ W0, w1.alloc (.cells #[.slice co d.cache.length cc] 23) = W0 := ⟨_, rfl⟩
        have yB : Bx W0 w1.heap.size #[.slice co d.cache.length cc] 23 := by rw [← hW0]; exact Bx.new _ _ _
        have yD := xD.alloc (.cells #[.slice co d.cache.length cc] 23); rw [hW0] at yD
        have yI := xI.alloc (.cells #[.slice co d.cache.length cc] 23); rw [hW0] at yI
        have yS := xS.alloc (.cells #[.slice co d.cache.length cc] 23); rw [hW0] at yS
        have yE := xE.alloc (.cells #[.slice co d.cache.length cc] 23); rw [hW0] at yE
        have hB0 : Below w.heap.size w W0 := by rw [← hW0]; exact hB1.alloc (by omega) _
        have hc0 : PWsAt S W0 co d.cache := hc.below hB0
        have hbS : ∀ b, S b → b < w1.heap.size + 1 := fun b h => by have := hS b h; omega
        have hs0 : W0.heap.size = w1.heap.size + 1 := by rw [← hW0]; simp
        rw [hW0]
        clear hW0 xD xI xS xE cD0 cD1 cD2 cD3 cI cS cE fS fE lS lE lD lI
        refine wpIn_rangeFunc_ownH hro h1 (gf := 43) (lb := #[.pointer (some ⟨w1.heap.size, 0, none⟩)]) rfl trivial (enters_of Try.func43 (by kernel_rfl) rfl)
          (back_stops Fence.wide (n - 1) trivial hro (by omega) w1.heap.size (w1.heap.size + 1) cc co d.cache ok2 hbS W0 (by omega) (by omega) (yB.cell 0) hc0) belowK_t (belowK_b (by omega)) (Below.refl _ _) (fun _ => rfl)
          (fun pre W => ((((∀ p ∈ pre, (p.2.page == (k : Int)) = false) ∧ Bx W (w.heap.size + 1) #[.int .i64 k] 3) ∧ Bx W (w.heap.size + 1 + 1) #[.string ⟨#[]⟩] 9 ∧ Bx W (w.heap.size + 1 + 1 + 1) #[.int .i64 0] 28) ∧ Bx W w.heap.size #[.int .i64 d.size, .slice (some ⟨pb, poff, none⟩) d.pages.length pc, .slice co d.cache.length cc, .int .i64 d.left] 25) ∧ Below w.heap.size w W ∧ Bx W w1.heap.size #[.slice co d.cache.length cc] 23)
          (fun c pre W => ((c = .ret ∧ ∃ ini last, pre = ini ++ [last] ∧ (∀ p ∈ ini, (p.2.page == (k : Int)) = false) ∧ (last.2.page == (k : Int)) = true ∧ Bx W (w.heap.size + 1 + 1) #[.string last.2.data] 9) ∧ Bx W (w.heap.size + 1 + 1 + 1) #[.int .i64 0] 28) ∧ Below w.heap.size w W)
          (OwnFrom.and (Own.from (fun s A B row hs hg hr => ⟨⟨⟨hs.1.1.1, bx_own hs.1.1.2 hg hr⟩, bx_own hs.1.2.1 hg hr, bx_own hs.1.2.2 hg hr⟩, bx_own hs.2 hg hr⟩) _) (OwnFrom.and (ownFrom_below (Nat.le_refl _) (by omega)) (Own.from (fun s A B row hs hg hr => bx_own hs hg hr) _)))
          (fun c => OwnFrom.and (Own.from (fun s A B row hs hg hr => by obtain ⟨⟨hc, ini, last, e1, e2, e3, e4⟩, e5⟩ := hs; exact ⟨⟨hc, ini, last, e1, e2, e3, bx_own e4 hg hr⟩, bx_own e5 hg hr⟩) _) (ownFrom_below (Nat.le_refl _) (by omega)))
          ⟨⟨⟨⟨by simp, yI⟩, yS, yE⟩, yD⟩, hB0, yB⟩
          (fun x a' W => ∃ Bb, w1.heap.size < Bb ∧ Bx W Bb #[.int .i64 x.2.page, .string x.2.data] 45 ∧ a' = { tmps := #[.agg #[.int .i64 d.size, .slice (some ⟨pb, poff, none⟩) d.pages.length pc, .slice co d.cache.length cc, .int .i64 d.left], .int .i64 k, .pointer (some ⟨w.heap.size, 0, none⟩), .pointer (some ⟨w.heap.size + 1, 0, none⟩), .pointer (some ⟨w.heap.size + 1 + 1, 0, none⟩), .pointer (some ⟨w.heap.size + 1 + 1 + 1, 0, none⟩), undef, .pointer (some ⟨Bb, 0, none⟩), .bool false, .agg #[.int .i64 d.size, .slice (some ⟨pb, poff, none⟩) d.pages.length pc, .slice co d.cache.length cc, .int .i64 d.left], .int .i64 (chk d), .bool false, .bool (decide ((k : Int) < 0)), .int .i64 k, .bool (decide ((k : Int) < 0)), .bool (decide ((k : Int) < 0)), .int .i64 k, .pointer (some ⟨w.heap.size, 1, none⟩), .slice (some ⟨pb, poff, none⟩) d.pages.length pc, .int .i64 d.pages.length, .bool false, .bool (decide ((k : Int) < 0)), .pointer (some ⟨w.heap.size, 2, none⟩), .slice co d.cache.length cc, .func (.func 43) #[] #[.pointer (some ⟨w1.heap.size, 0, none⟩)], .int .i64 x.1, .agg #[.int .i64 x.2.page, .string x.2.data], undef, undef, undef, undef, undef, undef, undef, undef, undef, undef, undef], defers := [] })
          (fun x a' X Y row s hs hg hr => by obtain ⟨Bb, e1, e2, e3⟩ := hs; exact ⟨Bb, e1, bx_own e2 hg (fun r e => (hr r e).2), e3⟩)
          ?assign ?body ?done ?stop
        case assign =>
          rintro l pre x W K ⟨⟨⟨⟨hp, b2⟩, b3, b4⟩, b1⟩, hB, b5⟩ hK
          have l5 := b5.lt
          gi_wp2
          exact hK _ _ ((KeepsOthers.alloc _ _).from _) ((Below.refl _ W).alloc (by omega) _) ⟨⟨⟨⟨hp, b2.alloc _⟩, b3.alloc _, b4.alloc _⟩, b1.alloc _⟩, hB.alloc hB.size _, b5.alloc _⟩ ⟨W.heap.size, l5, Bx.new W _ _, rfl⟩
        case body =>
          rintro l pre x a' W hl ⟨r, hr⟩ ⟨⟨⟨⟨hp, b2⟩, b3, b4⟩, b1⟩, hB, b5⟩ ⟨Bb, hBb, bX, rfl⟩ hlt
          have cI := b2.cell 0; have cS := b3.cell 0; have cE := b4.cell 0
          have cX := bX.cell 0; have cX' := bX.cell 1
          have fS := b3.free 0; have fE := b4.free 0
          have lS := b3.lt; have lE := b4.lt
          simp at cI cS cE cX cX'
          cases hx : (x.2.page == (k : Int))
          · gi_wp2
            exact ⟨KeepsFrom.refl _ _, Below.refl _ _, ⟨⟨⟨fun p hp' => (List.mem_append.1 hp').elim (hp p) (fun e => by simp at e; subst e; exact hx), b2⟩, b3, b4⟩, b1⟩, hB, b5⟩
          · gi_wp2
            exact ⟨((KeepsOthers.setCell _ _ _).trans (KeepsOthers.setCell _ _ _)).from _, ⟨⟨rfl, pre, x, rfl, hp, hx, (b3.set 0 (.string x.2.data)).setO (by simp) _⟩, (b4.setO (a := ⟨w.heap.size + 1 + 1, 0, none⟩) (by simp) _).set 0 (.int .i64 0)⟩,
              below_set1 (b := w.heap.size + 1 + 1 + 1) (below_set1 (b := w.heap.size + 1 + 1) hB (by omega)) (by omega)⟩
        case done =>
          rintro D ys W hD rfl ⟨⟨⟨⟨hp, b2⟩, b3, b4⟩, b1⟩, hB, b5⟩ hK
          have hl := lastW_all hp d.pages[k]
          have cD1 := b1.cell 1; have cI := b2.cell 0; have cS := b3.cell 0; have cE := b4.cell 0
          have fS := b3.free 0; have fE := b4.free 0
          have lS := b3.lt; have lE := b4.lt
          have hcell : W.cell? ⟨pb, poff + k, none⟩ = some (.string d.pages[k]) := by rw [hB.cell (World.block_lt_of_cell? w _ hcell0)]; exact hcell0
          simp at cD1 cI cS cE
          gi_wp2
          have hK' := ((KeepsOthers.setCell W ⟨w.heap.size + 1 + 1, 0, none⟩ (.string d.pages[k])).trans (KeepsOthers.setCell _ ⟨w.heap.size + 1 + 1 + 1, 0, none⟩ (.int .i64 0))).same D _ hK rfl
          have hB' : Below w.heap.size w ((W.setCell ⟨w.heap.size + 1 + 1, 0, none⟩ (.string d.pages[k])).setCell ⟨w.heap.size + 1 + 1 + 1, 0, none⟩ (.int .i64 0)) := below_set1 (b := w.heap.size + 1 + 1 + 1) (below_set1 (b := w.heap.size + 1 + 1) hB (by omega)) (by omega)
          refine ⟨by simp, .inl ⟨_, _, rfl, run_takeDeferred hK', ?_⟩⟩
          have c5 := ((bx_own ((b3.set 0 (.string d.pages[k])).setO (a := ⟨w.heap.size + 1 + 1 + 1, 0, none⟩) (by simp) (.int .i64 0)) (grownBy_putObj' _ D (.deferred none)) (fun r e => by cases e; exact ⟨_, hK', rfl⟩))).cell 0
          have c6 := ((bx_own ((b4.setO (a := ⟨w.heap.size + 1 + 1, 0, none⟩) (by simp) (.string d.pages[k])).set 0 (.int .i64 0)) (grownBy_putObj' _ D (.deferred none)) (fun r e => by cases e; exact ⟨_, hK', rfl⟩))).cell 0
          simp at c5 c6
          refine ⟨.tuple #[.string d.pages[k], .int .i64 0], ?_, by rw [contentD, hl], hB'.trans (belowK_b (w := w) (Nat.le_refl _) _ D _ _ (by omega) hK' rfl rfl)⟩
          simp [results, Try.f20, go_sem, c5, c6]
        case stop =>
          rintro D c pre W hD ⟨j, hj, rfl⟩ ⟨⟨⟨rfl, ini, last, e1, e2, e3, b3⟩, b4⟩, hB⟩ hK
          gi_wp2
          refine ⟨by simp, .inl ⟨_, _, rfl, run_takeDeferred hK, ?_⟩⟩
          have c5 := (bx_own b3 (grownBy_putObj' _ D (.deferred none)) (fun r e => by cases e; exact ⟨_, hK, rfl⟩)).cell 0
          have c6 := (bx_own b4 (grownBy_putObj' _ D (.deferred none)) (fun r e => by cases e; exact ⟨_, hK, rfl⟩)).cell 0
          simp at c5 c6
          obtain ⟨j', rfl⟩ : ∃ j', j = j' + 1 := by
            cases j with
            | zero => simp [upto] at e1
            | succ j' => exact ⟨j', rfl⟩
          rw [upto_succ] at e1
          obtain ⟨rfl, e5⟩ := List.append_inj' e1 rfl
          obtain rfl : bkF d.cache j' = last := by simpa using e5
          refine ⟨.tuple #[.string (bkF d.cache j').2.data, .int .i64 0], ?_, by rw [contentD, lastW_at (by omega) e2 e3], hB.trans (belowK_b (w := w) (Nat.le_refl _) W D _ _ (by omega) hK rfl rfl)⟩
          simp [results, Try.f20, go_sem, c5, c6]
      · rw [dif_neg hk] at hres
        subst hres
        gi_wp2
        refine ⟨.tuple #[.string ByteArray.empty, .int .i64 2], ?_, rfl, below_set1 (b := w.heap.size + 1 + 1 + 1) (below_set1 (b := w.heap.size + 1 + 1) hB1 (by omega)) (by omega)⟩
        simp [results, Try.f20, go_sem, cS, cE]
        all_goals first | rfl | omega
  · rw [if_pos (by simpa using hz)] at hres
    subst hres
    gi_wp2
    refine ⟨.tuple #[.string ByteArray.empty, .int .i64 1], ?_, rfl, below_set1 (b := w.heap.size + 1 + 1 + 1) (below_set1 (b := w.heap.size + 1 + 1) hB1 (by omega)) (by omega)⟩
    simp [results, Try.f20, go_sem, cS, cE]
    all_goals first | rfl | omega
end Go.Proofs.Ytjbcagijfodfgaa
