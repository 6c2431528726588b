/- What (*answer).add works on. (*answer).add: ranges that are listed. -/
import Derived.Test.YtebgopdmeghmhaaGreatRcAcc
import Derived.Test.YtebgopdmeghmhaaGreatLazyFrom
import Derived.Test.YtebgopdmeghmhaaGreatRcMap
import Derived.Test.YtebgopdmeghmhaaGreatRcDesc
namespace Go.Proofs.YtebgopdmeghmhaaGreat
open Go.RowKit

def Off (g : Nat) (vr vw vg : Value) (b : Nat) : Prop := b ≠ g ∧ vr.ownBlock ≠ some b ∧ vw.ownBlock ≠ some b ∧ vg.ownBlock ≠ some b
structure AddSt (w0 w : World) (base g rb : Nat) (cs : Array Value) (vr vw vg : Value) (R : List Rg) (W G : List (List UInt8)) (vi : Value) (ids : List (List UInt8)) (ov : Value) (o : List (List UInt8)) : Prop where
  x : Bx w g #[vr, vw, vg] 52
  a : Acc w base vr vw vg R W G
  r : Bx w rb cs 41
  i : DigR (Off g vr vw vg) w vi ids
  o : DigR (Off g vr vw vg) w ov o
  b : Below g w0 w
  n : Off g vr vw vg rb
  lg : g < base
  lb : base ≤ w.heap.size
section
variable {w0 w w' : World} {base g rb : Nat} {cs : Array Value} {vr vw vg v' vi ov : Value} {R : List Rg} {W G ids o : List (List UInt8)}
theorem AddSt.below (h : AddSt w0 w base g rb cs vr vw vg R W G vi ids ov o) (hb : Below w.heap.size w w') : AddSt w0 w' base g rb cs vr vw vg R W G vi ids ov o :=
  ⟨h.x.belowAll hb, h.a.below hb, h.r.belowAll hb, h.i.below hb, h.o.below hb, h.b.trans (hb.mono (Nat.le_of_lt (Nat.lt_of_lt_of_le h.lg h.lb))), h.n, h.lg, Nat.le_trans h.lb hb.size⟩
/-- what lies elsewhere, over an append and a store into the block -/
theorem DigR.off {F F' : Nat → Prop} {row : Option Nat} {v u : Value} {l : List (List UInt8)} {k : Nat} (h : DigR F w v l) (hg : w.grownBy w' row) (hF : ∀ b, row = some b → ¬ F b) (hg' : ∀ b, F b → b ≠ g) (hF' : ∀ b, F b → b < w.heap.size → F' b) : DigR F' (w'.setCell ⟨g, k, none⟩ u) v l := by
  have h1 := h.lt.far hg fun b e hb => hF b e hb.1
  exact (h1.same fun b hb => Below.heap_setCell w' ⟨g, k, none⟩ u b fun e => hg' b hb.1 e).mono fun b hb => hF' b hb.1 hb.2
theorem AddSt.addW {X : List (List UInt8)} (h : AddSt w0 w base g rb cs vr vw vg R W G vi ids ov o) (ho : w'.ownsRow base 39 32 v' (W.length + X.length) ((digC W).flatten ++ (digC X).flatten)) (hX : Dok X)
    (hg : w.grownBy w' vw.ownBlock) (hk : ∀ k, v'.ownBlock = some k → vw.ownBlock = some k ∨ k = w.heap.size) : AddSt w0 (w'.setCell ⟨g, 1, none⟩ v') base g rb cs vr v' vg R (W ++ X) G vi ids ov o := by
  have hne : ∀ b, vw.ownBlock = some b → base ≤ b := fun b e => (h.a.ws.lt e).1
  have hgz := h.x.lt
  have hlg := h.lg
  have up : ∀ b, Off g vr vw vg b → b < w.heap.size → Off g vr v' vg b := fun b hb hlt => ⟨hb.1, hb.2.1, fun e => by
    rcases hk b e with h1 | h1
    · exact hb.2.2.1 h1
    · omega, hb.2.2.2⟩
  refine ⟨?_, (h.a.addW ho hX hg hk).set h.lg _, ?_, h.i.off hg (fun b e hb => hb.2.2.1 e) (fun b hb => hb.1) up, h.o.off hg (fun b e hb => hb.2.2.1 e) (fun b hb => hb.1) up, ?_, up _ h.n h.r.lt, h.lg, by have := hg.size; have := h.lb; simp; omega⟩
  · have h1 := (h.x.grown hg (fun e => by have := hne g e.symm; omega)).set 1 v'
    simpa using h1
  · exact (h.r.grown hg (fun e => h.n.2.2.1 e.symm)).setO (a := ⟨g, 1, none⟩) h.n.1 _
  · exact (h.b.grown hg (Nat.le_of_lt hgz) (fun k e => by have := hne k e; omega)).setCell (p := ⟨g, 1, none⟩) (Nat.le_refl _) _
theorem AddSt.addG {X : List (List UInt8)} (h : AddSt w0 w base g rb cs vr vw vg R W G vi ids ov o) (ho : w'.ownsRow base 39 32 v' (G.length + X.length) ((digC G).flatten ++ (digC X).flatten)) (hX : Dok X)
    (hg : w.grownBy w' vg.ownBlock) (hk : ∀ k, v'.ownBlock = some k → vg.ownBlock = some k ∨ k = w.heap.size) : AddSt w0 (w'.setCell ⟨g, 2, none⟩ v') base g rb cs vr vw v' R W (G ++ X) vi ids ov o := by
  have hne : ∀ b, vg.ownBlock = some b → base ≤ b := fun b e => (h.a.gs.lt e).1
  have hgz := h.x.lt
  have hlg := h.lg
  have up : ∀ b, Off g vr vw vg b → b < w.heap.size → Off g vr vw v' b := fun b hb hlt => ⟨hb.1, hb.2.1, hb.2.2.1, fun e => by
    rcases hk b e with h1 | h1
    · exact hb.2.2.2 h1
    · omega⟩
  refine ⟨?_, (h.a.addG ho hX hg hk).set h.lg _, ?_, h.i.off hg (fun b e hb => hb.2.2.2 e) (fun b hb => hb.1) up, h.o.off hg (fun b e hb => hb.2.2.2 e) (fun b hb => hb.1) up, ?_, up _ h.n h.r.lt, h.lg, by have := hg.size; have := h.lb; simp; omega⟩
  · have h1 := (h.x.grown hg (fun e => by have := hne g e.symm; omega)).set 2 v'
    simpa using h1
  · exact (h.r.grown hg (fun e => h.n.2.2.2 e.symm)).setO (a := ⟨g, 2, none⟩) h.n.1 _
  · exact (h.b.grown hg (Nat.le_of_lt hgz) (fun k e => by have := hne k e; omega)).setCell (p := ⟨g, 2, none⟩) (Nat.le_refl _) _
theorem AddSt.addR {X : List Rg} {xs vs : List Value} (h : AddSt w0 w base g rb cs vr vw vg R W G vi ids ov o) (hvs : vs.length = R.length) (hd : ∀ i (h : i < R.length), DigR (Far base vr vw vg) w (vs.getD i (.slice none 0 0)) R[i].ids)
    (ho : w'.ownsRow base 41 99 v' (R.length + X.length) ((rgsC R vs).flatten ++ (rgsC X xs).flatten)) (hX : ∀ r ∈ X, r.ok) (hxs : xs.length = X.length)
    (hdx : ∀ i (h : i < X.length), DigR (Far base vr vw vg) w (xs.getD i (.slice none 0 0)) X[i].ids)
    (hg : w.grownBy w' vr.ownBlock) (hk : ∀ k, v'.ownBlock = some k → vr.ownBlock = some k ∨ k = w.heap.size) : AddSt w0 (w'.setCell ⟨g, 0, none⟩ v') base g rb cs v' vw vg (R ++ X) W G vi ids ov o := by
  have hne : ∀ b, vr.ownBlock = some b → base ≤ b := fun b e => (h.a.rs.lt e).1
  have hgz := h.x.lt
  have hlg := h.lg
  have up : ∀ b, Off g vr vw vg b → b < w.heap.size → Off g v' vw vg b := fun b hb hlt => ⟨hb.1, fun e => by
    rcases hk b e with h1 | h1
    · exact hb.2.1 h1
    · omega, hb.2.2.1, hb.2.2.2⟩
  refine ⟨?_, (h.a.addR hvs hd ho hX hxs hdx hg hk).set h.lg _, ?_, h.i.off hg (fun b e hb => hb.2.1 e) (fun b hb => hb.1) up, h.o.off hg (fun b e hb => hb.2.1 e) (fun b hb => hb.1) up, ?_, up _ h.n h.r.lt, h.lg, by have := hg.size; have := h.lb; simp; omega⟩
  · have h1 := (h.x.grown hg (fun e => by have := hne g e.symm; omega)).set 0 v'
    simpa using h1
  · exact (h.r.grown hg (fun e => h.n.2.1 e.symm)).setO (a := ⟨g, 0, none⟩) h.n.1 _
  · exact (h.b.grown hg (Nat.le_of_lt hgz) (fun k e => by have := hne k e; omega)).setCell (p := ⟨g, 0, none⟩) (Nat.le_refl _) _
end
end Go.Proofs.YtebgopdmeghmhaaGreat
namespace Go.Proofs.YtebgopdmeghmhaaGreat
open Go.RowKit

def AddP (w : World) (base g : Nat) (R : List Rg) (W G : List (List UInt8)) (r : Rg) (o : List (List UInt8)) (e : Ending) (w' : World) : Prop :=
  e = .returned (.tuple #[]) ∧ ∃ vr vw vg, Bx w' g #[vr, vw, vg] 52 ∧ Acc w' base vr vw vg (R ++ partR r o) (W ++ partW r o) (G ++ partG r o) ∧ Below g w w'
theorem Off.shift {w : World} {base g : Nat} {vr vw vg : Value} {R : List Rg} {W G : List (List UInt8)} (h : Acc w base vr vw vg R W G) (hg : g < w.heap.size) : Off g vr vw vg w.heap.size :=
  ⟨by omega, fun e => by have := (h.rs.lt e).2; omega, fun e => by have := (h.ws.lt e).2; omega, fun e => by have := (h.gs.lt e).2; omega⟩
theorem AddSt.start {w : World} {base g : Nat} {cs : Array Value} {vr vw vg vi ov : Value} {R : List Rg} {W G ids o : List (List UInt8)} (hx : Bx w g #[vr, vw, vg] 52) (hA : Acc w base vr vw vg R W G)
    (hri : DigR (Off g vr vw vg) w vi ids) (ho : DigR (Off g vr vw vg) w ov o) (hg : g < base) (hbase : base ≤ w.heap.size) (q : Obj) (hb : Bx (w.alloc q) w.heap.size cs 41) : AddSt w (w.alloc q) base g w.heap.size cs vr vw vg R W G vi ids ov o :=
  ⟨hx.alloc q, hA.below (Below.one w q), hb, hri.below (Below.one w q), ho.below (Below.one w q), (Below.one w q).mono (Nat.le_of_lt hx.lt), Off.shift hA hx.lt, hg, by simp; omega⟩
theorem DgO.shape {w : World} {base : Nat} {v : Value} {l : List (List UInt8)} (h : DgO w base v l) : ∃ o c, v = .slice o l.length c ∧ RowAt (fun b => base ≤ b ∧ b < w.heap.size) w o (digC l).flatten ∧ (o = none → l.length = 0 ∧ c = 0) := by
  have hd := h.dig
  obtain ⟨o, c, rfl⟩ : ∃ o c, v = .slice o l.length c := by obtain ⟨⟨o, c, e, _⟩, _⟩ := hd; rw [digC_size] at e; exact ⟨o, c, e⟩
  exact ⟨o, c, rfl, hd.row.1, hd.row.2⟩
set_option maxRecDepth 100000 in
set_option maxHeartbeats 4000000 in
theorem rc_add_listed (w : World) (base g : Nat) (vr vw vg : Value) (R : List Rg) (W G : List (List UInt8)) (r : Rg) (vi ov : Value) (o : List (List UInt8))
    (hx : Bx w g #[vr, vw, vg] 52) (hg : g < base) (hbase : base ≤ w.heap.size) (hA : Acc w base vr vw vg R W G) (hr : r.ok) (hri : DigR (Off g vr vw vg) w vi r.ids) (ho : DigR (Off g vr vw vg) w ov o)
    (hml : r.ids.length ≤ 1000000) (hmo : o.length ≤ 1000000) (hW : W.length ≤ 1000000000) (hG : G.length ≤ 1000000000) (hl : r.listed = true) :
    Calls Tryz.prog 27 #[.pointer (some ⟨g, 0, none⟩), r.V vi, ov] w (AddP w base g R W G r o) := by
  obtain ⟨oi, ci, rfl⟩ : ∃ o c, vi = .slice o r.ids.length c := by obtain ⟨⟨o, c, e, _⟩, _⟩ := hri; rw [digC_size] at e; exact ⟨o, c, e⟩
  obtain ⟨oo, co, rfl⟩ : ∃ q c, ov = .slice q o.length c := by obtain ⟨⟨o, c, e, _⟩, _⟩ := ho; rw [digC_size] at e; exact ⟨o, c, e⟩
  have hb1 := Below.one w (.cells (r.cells (.slice oi r.ids.length ci)).toArray 41)
  have xr := Bx.new w (r.cells (.slice oi r.ids.length ci)).toArray 41
  have hA1 := AddSt.start hx hA hri ho hg hbase (.cells (r.cells (.slice oi r.ids.length ci)).toArray 41) xr
  have hRr : (w.alloc (.cells (r.cells (.slice oi r.ids.length ci)).toArray 41)).rangeAt w.heap.size 0 (r.cells (.slice oi r.ids.length ci)) := by simpa using xr.range
  have c64 : (w.alloc (.cells (r.cells (.slice oi r.ids.length ci)).toArray 41)).cell? ⟨w.heap.size, 64, none⟩ = some (.bool r.listed) := by simpa using Rg.listed_at hr hRr
  have c98 : (w.alloc (.cells (r.cells (.slice oi r.ids.length ci)).toArray 41)).cell? ⟨w.heap.size, 98, none⟩ = some (.slice oi r.ids.length ci) := by simpa using Rg.ids_at hr hRr
  have H1 := Lib.hid hA1
  have lr := xr.lt
  obtain ⟨cs, hcs⟩ : ∃ cs, (r.cells (.slice oi r.ids.length ci)).toArray = cs := ⟨_, rfl⟩
  have Hcs := Lib.hid hcs
  have Hr := Lib.hid hr
  rw [hl] at c64
  obtain ⟨idg, hidg, hzd, hsd, hbyd⟩ := info_parts infoDg
  have Hi := Lib.hid (And.intro hidg (And.intro hzd (And.intro hsd hbyd)))
  have Hpart : Hid (partR r o = [] ∧ partW r o = withoutD r.ids o ∧ partG r o = withoutD o r.ids) := Lib.hid (by unfold partR partW partG; rw [hl]; exact ⟨rfl, rfl, rfl⟩)
  have Hlen1 : Hid ((withoutD r.ids o).length ≤ 1000000) := Lib.hid (Nat.le_trans (List.length_filter_le _ _) hml)
  have Hlen2 : Hid ((withoutD o r.ids).length ≤ 1000000) := Lib.hid (Nat.le_trans (List.length_filter_le _ _) hmo)
  unfold Rg.V
  rw [hcs] at hb1 c64 c98 H1 lr ⊢
  obtain ⟨n, hn⟩ : ∃ n, o.length = n := ⟨_, rfl⟩
  have Hn := Lib.hid hn
  rw [hn] at H1 hmo ⊢
  obtain ⟨m, hm⟩ : ∃ m, r.ids.length = m := ⟨_, rfl⟩
  have Hm := Lib.hid hm
  rw [hm] at H1 hml c98 Hcs
  clear hx hA hri ho xr hRr hcs hr hl hn hm hA1 hidg hzd hsd hbyd hg hbase
  go_enter Tryz.func27, Tryz.ntmps27
  go_wp2
  generalize w.alloc (.cells cs 41) = w1 at *
  have cQ := Lat.cells w1
  have lg := H1.out.x.lt
  have g1 : w1.cell? ⟨g, 1, none⟩ = some vw := by rw [H1.out.x.cell]; rfl
  refine wp_region_move0 (by kernel_rfl) (.tmp 0) (.pointer (some ⟨g, 0, none⟩)) rfl rfl rfl (by kernel_rfl) (by kernel_rfl) (by kernel_rfl) (fun _ _ _ h => h) ?_
  simp only [Act.put, List.setIfInBounds_toArray, List.set_cons_zero, List.set_cons_succ]
  refine wpAny_lz (W0 := w1) 1 9 4 #[true, true, true, true, true, true, true, true, true, false, false, false, false] (fun i => if i = 2 then some (annK (.pointer (some ⟨g, 0, none⟩))) else if i = 8 then some ⟨fun q => q.x 0, fun q X => DgO X w1.heap.size (q.x 0) (withoutD r.ids o)⟩ else none) (by rfl) (by decide) (by rfl) (by rfl) (by kernel_rfl) (Below.refl _ _).drew ?_
  simp only [List.drop_succ_cons, List.drop_zero, List.take_succ_cons, List.take_zero]
  refine LW.block 1 2 (by rfl) (by kernel_rfl) (by kernel_rfl) ?_
  simp only [List.take_succ_cons, List.take_zero, List.drop_succ_cons, List.drop_zero]
  repeat (first | go_big_quiet_skip | (go_big_quiet_want; go_big_quiet_op; go_big_quiet_on))
  refine wpQuiet_nil ?_
  refine LW.lzy _ (by rfl) (by rfl) ?_ ?_
  · intro yL _
    exact lz_value ((by rfl))
  intro _
  simp only [Act.put, List.setIfInBounds_toArray, List.set_cons_zero, List.set_cons_succ]
  (try simp only [annK])
  refine LW.block 5 8 (by rfl) (by kernel_rfl) (by kernel_rfl) ?_
  simp only [List.take_succ_cons, List.take_zero, List.drop_succ_cons, List.drop_zero]
  repeat (first | go_big_quiet_skip | (go_big_quiet_want; go_big_quiet_op; go_big_quiet_on))
  refine wpQuiet_nil ?_
  refine LW.lzy _ (by rfl) (by rfl) ?_ ?_
  · intro yL _
    unfold lzAt
    go_simp
    have hI := H1.out.i.below yL.h
    have hO := H1.out.o.below yL.h
    refine Calls.mono (rc_without yL.w _ _ r.ids o hI hO (by rw [Hm.out]; exact hml) (by rw [Hn.out]; exact hmo)) fun e w' ⟨u, he, ho, hb⟩ => ⟨u, he, hb, fun _ => u, rfl, fun w'' hb2 => (ho.lower yL.h.size).below hb2⟩
  intro q8
  simp only [Act.put, List.setIfInBounds_toArray, List.set_cons_zero, List.set_cons_succ]
  refine LW.done ?_
  intro W' hG'
  have ho8 : DgO W' w1.heap.size (q8.x 0) (withoutD r.ids o) := hG'.get 8 rfl rfl
  have H2 := Lib.hid (H1.out.below hG'.below)
  generalize q8.x 0 = v8 at *
  obtain ⟨a8, c8, rfl, hrow8, hn8⟩ := ho8.shape
  have Hrow8 := Lib.hid hrow8
  have Hfl8 := Lib.hid (digC_flat ho8.2)
  have Hok8 := Lib.hid ho8.2
  clear hG' ho8 hrow8 cQ g1
  refine wpAny_ready (rs := [9]) (by kernel_rfl) (by simp) ?_
  refine AllReady.cons rfl (fun K hK => ?_) AllReady.nil
  refine wp_appK (.tmp 47) (.tmp 51) 22 rfl base 39 idg _ 32 32 Tryz.underlying22 Hi.out.1 Hi.out.2.1 Hi.out.2.2.1 Hi.out.2.2.2 (by simp [Value.cells]) (by decide) vw W.length (digC W).flatten rfl H2.out.a.ws.1 a8 (withoutD r.ids o).length c8 (digC (withoutD r.ids o)).flatten rfl hn8 Hfl8.out Hrow8.out (digC_one _) (by have := Hlen1.out; unfold maxLen; omega) (by have := Hlen1.out; omega) H2.out.lb ?_
  intro v5 w5 ho5 hg5 hk5
  refine hK _ _ ?_
  clear hK K
  have H3 := Lib.hid (H2.out.addW ho5 Hok8.out hg5 hk5)
  have x5 : Bx w5 g #[vr, vw, vg] 52 := H2.out.x.grown hg5 (fun e => by have := (H2.out.a.ws.lt e.symm).1; have := H2.out.lg; omega)
  obtain ⟨o5, m5, c5, rfl⟩ := ownsRow_slice ho5
  have d1 : w5.cell? ⟨g, 1, none⟩ = some vw := by rw [x5.cell]; rfl
  have f1 : w5.frozen? ⟨g, 1, none⟩ = false := x5.free 1
  clear ho5 hg5 hk5 x5 H2 hn8
  refine wpAny_ready (rs := [10]) (by kernel_rfl) (by simp) ?_
  refine AllReady.cons rfl (fun K hK => ?_) AllReady.nil
  go_simp
  refine hK _ _ ?_
  clear hK K
  refine wpAny_ready (rs := [11]) (by kernel_rfl) (by simp) ?_
  refine AllReady.cons rfl (fun K hK => ?_) AllReady.nil
  go_simp
  refine hK _ _ ?_
  clear hK K
  refine wpAny_ready (rs := [12]) (by kernel_rfl) (by simp) ?_
  refine AllReady.cons rfl (fun K hK => ?_) AllReady.nil
  go_simp
  refine hK _ _ ?_
  clear hK K
  refine wpAny_done (by kernel_rfl) ?_ _
  clear d1 f1 Hrow8 Hfl8 Hok8
  go_wp2
  generalize hw6 : w5.setCell ⟨g, 1, none⟩ (.slice o5 m5 c5) = w6 at *
  clear hw6
  have cQ := Lat.cells w6
  have lg := H3.out.x.lt
  have lr6 := H3.out.r.lt
  have g2 : w6.cell? ⟨g, 2, none⟩ = some vg := by rw [H3.out.x.cell]; rfl
  have c98 : w6.cell? ⟨w.heap.size, 98, none⟩ = some (.slice oi m ci) := by
    have h98 := Rg.ids_at (w := w6) (b := w.heap.size) (o := 0) Hr.out (vi := .slice oi m ci) (by have := H3.out.r.range; rw [← Hcs.out] at this; simpa using this)
    simpa using h98
  refine wp_region_move0 (by kernel_rfl) (.tmp 0) (.pointer (some ⟨g, 0, none⟩)) rfl rfl rfl (by kernel_rfl) (by kernel_rfl) (by kernel_rfl) (fun _ _ _ h => h) ?_
  simp only [Act.put, List.setIfInBounds_toArray, List.set_cons_zero, List.set_cons_succ]
  refine wpAny_lz (W0 := w6) 1 9 4 #[true, true, true, true, true, true, true, true, true, false, false, false, false] (fun i => if i = 2 then some (annK (.pointer (some ⟨g, 0, none⟩))) else if i = 8 then some ⟨fun q => q.x 0, fun q X => DgO X w6.heap.size (q.x 0) (withoutD o r.ids)⟩ else none) (by rfl) (by decide) (by rfl) (by rfl) (by kernel_rfl) (Below.refl _ _).drew ?_
  simp only [List.drop_succ_cons, List.drop_zero, List.take_succ_cons, List.take_zero]
  refine LW.block 1 2 (by rfl) (by kernel_rfl) (by kernel_rfl) ?_
  simp only [List.take_succ_cons, List.take_zero, List.drop_succ_cons, List.drop_zero]
  repeat (first | go_big_quiet_skip | (go_big_quiet_want; go_big_quiet_op; go_big_quiet_on))
  refine wpQuiet_nil ?_
  refine LW.lzy _ (by rfl) (by rfl) ?_ ?_
  · intro yL _
    exact lz_value ((by rfl))
  intro _
  simp only [Act.put, List.setIfInBounds_toArray, List.set_cons_zero, List.set_cons_succ]
  (try simp only [annK])
  refine LW.block 5 8 (by rfl) (by kernel_rfl) (by kernel_rfl) ?_
  simp only [List.take_succ_cons, List.take_zero, List.drop_succ_cons, List.drop_zero]
  repeat (first | go_big_quiet_skip | (go_big_quiet_want; go_big_quiet_op; go_big_quiet_on))
  refine wpQuiet_nil ?_
  refine LW.lzy _ (by rfl) (by rfl) ?_ ?_
  · intro yL _
    unfold lzAt
    go_simp
    have hI := H3.out.i.below yL.h
    have hO := H3.out.o.below yL.h
    refine Calls.mono (rc_without yL.w _ _ o r.ids hO hI (by rw [Hn.out]; exact hmo) (by rw [Hm.out]; exact hml)) fun e w' ⟨u, he, ho, hb⟩ => ⟨u, he, hb, fun _ => u, rfl, fun w'' hb2 => (ho.lower yL.h.size).below hb2⟩
  intro q8
  simp only [Act.put, List.setIfInBounds_toArray, List.set_cons_zero, List.set_cons_succ]
  refine LW.done ?_
  intro W2 hG'
  have ho8 : DgO W2 w6.heap.size (q8.x 0) (withoutD o r.ids) := hG'.get 8 rfl rfl
  have H4 := Lib.hid (H3.out.below hG'.below)
  generalize q8.x 0 = v9 at *
  obtain ⟨a9, c9, rfl, hrow8, hn8⟩ := ho8.shape
  have Hrow8 := Lib.hid hrow8
  have Hfl8 := Lib.hid (digC_flat ho8.2)
  have Hok8 := Lib.hid ho8.2
  clear hG' ho8 hrow8 cQ g2 c98
  refine wpAny_ready (rs := [9]) (by kernel_rfl) (by simp) ?_
  refine AllReady.cons rfl (fun K hK => ?_) AllReady.nil
  refine wp_appK (.tmp 59) (.tmp 63) 22 rfl base 39 idg _ 32 32 Tryz.underlying22 Hi.out.1 Hi.out.2.1 Hi.out.2.2.1 Hi.out.2.2.2 (by simp [Value.cells]) (by decide) vg G.length (digC G).flatten rfl H4.out.a.gs.1 a9 (withoutD o r.ids).length c9 (digC (withoutD o r.ids)).flatten rfl hn8 Hfl8.out Hrow8.out (digC_one _) (by have := Hlen2.out; unfold maxLen; omega) (by have := Hlen2.out; omega) H4.out.lb ?_
  intro v7 w7 ho5 hg5 hk5
  refine hK _ _ ?_
  clear hK K
  have H5 := Lib.hid (H4.out.addG ho5 Hok8.out hg5 hk5)
  have x5 := H4.out.x.grown hg5 (fun e => by have := (H4.out.a.gs.lt e.symm).1; have := H4.out.lg; omega)
  obtain ⟨o7, m7, c7, rfl⟩ := ownsRow_slice ho5
  have d1 : w7.cell? ⟨g, 2, none⟩ = some vg := by rw [x5.cell]; rfl
  have f1 : w7.frozen? ⟨g, 2, none⟩ = false := x5.free 2
  clear ho5 hg5 hk5 x5 H4 hn8
  refine wpAny_ready (rs := [10]) (by kernel_rfl) (by simp) ?_
  refine AllReady.cons rfl (fun K hK => ?_) AllReady.nil
  go_simp
  refine hK _ _ ?_
  clear hK K
  refine wpAny_ready (rs := [11]) (by kernel_rfl) (by simp) ?_
  refine AllReady.cons rfl (fun K hK => ?_) AllReady.nil
  go_simp
  refine hK _ _ ?_
  clear hK K
  refine wpAny_ready (rs := [12]) (by kernel_rfl) (by simp) ?_
  refine AllReady.cons rfl (fun K hK => ?_) AllReady.nil
  go_simp
  refine hK _ _ ?_
  clear hK K
  refine wpAny_done (by kernel_rfl) ?_ _
  clear d1 f1 Hrow8 Hfl8 Hok8
  go_wp2
  go_end0
  refine ⟨rfl, _, _, _, H5.out.x, ?_, H5.out.b⟩
  have h5 := H5.out.a
  rw [Hpart.out.1, Hpart.out.2.1, Hpart.out.2.2, List.append_nil]
  exact h5
end Go.Proofs.YtebgopdmeghmhaaGreat
