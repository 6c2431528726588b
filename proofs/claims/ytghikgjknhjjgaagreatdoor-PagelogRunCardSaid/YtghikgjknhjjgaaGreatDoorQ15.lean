/- Operations of a disk: pagelog.write, its function, pagelog.perform = perfP. pagelog.next: the operations that write the next header. pagelog.pages: the operations that write bytes into the area. pagelog.finish = finL. -/
import Derived.Test.YtghikgjknhjjgaaGreatDoorQ14
import Derived.Test.YtghikgjknhjjgaaGreatDoorQ08
import Derived.Test.YtghikgjknhjjgaaGreatDoorQ07
import Derived.Test.YtghikgjknhjjgaaGreatDoorQ11
namespace Go.Proofs.YtghikgjknhjjgaaGreatDoor
set_option maxRecDepth 100000
open Go.RowKit Go.Shelf
/-- the value v is the operation o -/
def OpV (w : World) (v : Value) : DOp → Prop
 | .wr i data => ∃ bi bd, v = .func (.func 83) #[] #[.pointer (some ⟨bi, 0, none⟩), .pointer (some ⟨bd, 0, none⟩)] ∧ Bx w bi #[.int .i64 i] 3 ∧ Bx w bd #[.string data] 9 ∧ data.size ≤ 140737488351232
 | .fl => v = .func (.func 32) #[] #[]
theorem OpV.below {w w' : World} {v : Value} {o : DOp} (h : OpV w v o) (hb : Below w.heap.size w w') : OpV w' v o := by
 cases o with
 | wr i data =>
  obtain ⟨bi, bd, e, h1, h2, h3⟩ := h
  exact ⟨bi, bd, e, h1.belowAll hb, h2.belowAll hb, h3⟩
 | fl => exact h
/-- operations in a slice -/
def OpsAt (w : World) (o : Option Addr) (ops : List DOp) : Prop := ∀ j (h : j < ops.length), ∃ b off u, o = some ⟨b, off, none⟩ ∧ w.cell? ⟨b, off + j, none⟩ = some u ∧ OpV w u ops[j]
theorem OpsAt.below {w w' : World} {o : Option Addr} {ops : List DOp} (h : OpsAt w o ops) (hb : Below w.heap.size w w') : OpsAt w' o ops := by
 intro j hj
 obtain ⟨b, off, u, ho, hc, hu⟩ := h j hj
 exact ⟨b, off, u, ho, by rw [hb.cell (World.block_lt_of_cell? w _ hc)]; exact hc, hu.below hb⟩
def RetVE (w : World) (d : Dsk) (er : Int) (e : Ending) (w' : World) : Prop := ∃ v, e = .returned (.tuple #[v, .int .i64 er]) ∧ DskV w' v d ∧ Below w.heap.size w w'
theorem pl_write (i : Int) (data : ByteArray) (w : World) (hd : data.size ≤ 140737488351232) :
  Calls Tryz.prog 53 #[.int .i64 i, .string data] w fun e w' => ∃ v, e = .returned v ∧ OpV w' v (.wr i data) ∧ Below w.heap.size w w' := by
 have hmf : ∀ (fn : Fn) (first cap : Array Value) (w : World), (Instr.makeFunc fn first cap).run Tryz.prog w = .ok (.func fn first cap) w := fun _ _ _ _ => rfl
 go_enter Tryz.func53, Tryz.ntmps53
 go_wp2
 go_ret
 exact ⟨_, rfl, ⟨_, _, rfl, (Bx.new _ _ _).alloc _, Bx.newAt _ _ _ _ (by simp), hd⟩, (Below.one _ _).alloc (by simp) _⟩
set_option maxHeartbeats 800000 in
theorem pl_write1 (d : Dsk) (v : Value) (bi bd : Nat) (i : Int) (data : ByteArray) (w : World) (hD : DskV w v d) (h1 : Bx w bi #[.int .i64 i] 3) (h2 : Bx w bd #[.string data] 9) (hd : data.size ≤ 140737488351232) (hn : d.cache.length ≤ 1000000) :
  Calls Tryz.prog 83 #[v, .pointer (some ⟨bi, 0, none⟩), .pointer (some ⟨bd, 0, none⟩)] w (RetVE w (writeD d i data).1 (writeD d i data).2) := by
 have hD0 := hD
 obtain ⟨po, pc, co, cc, rfl⟩ := hD.agg
 obtain ⟨N, hN⟩ : ∃ N, w.heap.size = N := ⟨_, rfl⟩
 obtain ⟨W0, hW0⟩ : ∃ W0, (w.alloc (.cells (dC d po co pc cc) 25)).alloc (.cells #[.int .i64 0, .slice none 0 0, .slice none 0 0, .int .i64 0] 25) = W0 := ⟨_, rfl⟩
 have x0 : Bx W0 N (dC d po co pc cc) 25 := by subst hW0 hN; exact (Bx.new w _ _).alloc _
 have x1 : Bx W0 (N + 1) #[.int .i64 0, .slice none 0 0, .slice none 0 0, .int .i64 0] 25 := by subst hW0 hN; exact Bx.newAt _ _ _ _ (by simp)
 have y1 : Bx W0 bi #[.int .i64 i] 3 := by subst hW0; exact (h1.alloc _).alloc _
 have y2 : Bx W0 bd #[.string data] 9 := by subst hW0; exact (h2.alloc _).alloc _
 have hB0 : Below w.heap.size w W0 := by subst hW0; exact (Below.one w _).alloc (by simp) _
 obtain ⟨A, er, he⟩ : ∃ A er, writeD d i data = (A, er) := ⟨_, _, rfl⟩
 have c0 := x0.cell
 have c1 := y1.cell 0
 have c2 := y2.cell 0
 have l0 := x0.lt
 have l1 := y1.lt
 have l2 := y2.lt
 simp at c1 c2
 have hcall := v_write d _ i data W0 (hD0.below hB0) hd hn he
 have Hcall := Lib.hid hcall
 clear hcall
 rw [he]
 go_enter Tryz.func83, Tryz.ntmps83
 go_wp2_with fail
 refine Hcall.out.mono ?_
 rintro e w1 ⟨v1, rfl, hN1, hb1⟩
 have z1 := x1.belowAll hb1
 have hB1 := btr hB0 hb1
 have hM1 := hN1
 obtain ⟨po1, pc1, co1, cc1, rfl⟩ := hN1.agg
 clear c0 c1 c2 l0 l1 l2 hW0
 have cX := z1.cell
 have lX := z1.lt
 have fX := z1.free
 have hNn : w.heap.size ≤ N + 1 := by omega
 have sB := below_set4 (b := N + 1) (v0 := .int .i64 A.size) (v1 := .slice po1 A.pages.length pc1) (v2 := .slice co1 A.cache.length cc1) (v3 := .int .i64 A.left) hB1 hNn
 have Z4 := z1.set4 (v0 := .int .i64 A.size) (v1 := .slice po1 A.pages.length pc1) (v2 := .slice co1 A.cache.length cc1) (v3 := .int .i64 A.left)
 have cZ := Z4.cell
 clear hNn
 have HB := Lib.hid sB
 have HM := Lib.hid (hM1.only z1 noS_dZ (Only.four (v0 := .int .i64 A.size) (v1 := .slice po1 A.pages.length pc1) (v2 := .slice co1 A.cache.length cc1) (v3 := .int .i64 A.left)))
 go_wp2
 refine bodyPost_ret (v := .tuple #[.agg #[.int .i64 A.size, .slice po1 A.pages.length pc1, .slice co1 A.cache.length cc1, .int .i64 A.left], .int .i64 er]) (by simp [results, Tryz.results83, go_sem, cZ]) rfl ?_
 exact ⟨_, rfl, HM.out, HB.out⟩
/-- an operation called through its value -/
theorem perfP_next {d : Dsk} {ops : List DOp} {k : Nat} (h : k < ops.length) : perfP d (ops.drop k) = if (opP d ops[k]).2 ≠ 0 then opP d ops[k] else perfP (opP d ops[k]).1 (ops.drop (k + 1)) := by
 rw [List.drop_eq_getElem_cons h, perfP]
theorem opP_cache {d : Dsk} {o : DOp} : (opP d o).1.cache.length ≤ d.cache.length + 1 := by
 cases o with
 | wr i data =>
  unfold opP
  rcases write_cases d i data with ⟨_, _, h⟩ | ⟨_, _, _, _, ⟨_, _, h⟩ | ⟨_, _, h⟩⟩
  ·
   simp only [h]; simp [zeroD]
  ·
   simp only [h]; omega
  ·
   simp only [h]; simp
 | fl =>
  unfold opP
  rcases flush_cases d with ⟨_, _, h⟩ | ⟨_, _, _, h⟩ | ⟨_, _, _, h⟩
  ·
   simp only [h]; simp [zeroD]
  ·
   simp only [h]; omega
  ·
   simp only [h]; simp
set_option maxRecDepth 100000 in
set_option maxHeartbeats 1000000 in
theorem pl_perform (d : Dsk) (v : Value) (ops : List DOp) (o : Option Addr) (c : Nat) (w : World) (hD : DskV w v d) (ho : OpsAt w o ops) (hn : d.cache.length + ops.length ≤ 1000000) :
  Calls Tryz.prog 52 #[v, .slice o ops.length c] w (RetVE w (perfP d ops).1 (perfP d ops).2) := by
 have hD0 := hD
 obtain ⟨po, pc, co, cc, rfl⟩ := hD.agg
 obtain ⟨N, hN⟩ : ∃ N, w.heap.size = N := ⟨_, rfl⟩
 obtain ⟨p, hp⟩ : ∃ p, perfP d ops = p := ⟨_, rfl⟩
 rw [hp]
 go_enter Tryz.func52, Tryz.ntmps52
 go_wp2
 have x0 : Bx ((w.alloc (.cells (dC d po co pc cc) 25)).alloc (.cells dZ 25)) N (dC d po co pc cc) 25 := by subst hN; exact (Bx.new w _ _).alloc _
 have x1 : Bx ((w.alloc (.cells (dC d po co pc cc) 25)).alloc (.cells dZ 25)) (N + 1) dZ 25 := by subst hN; exact Bx.newAt _ _ _ _ (by simp)
 have hB0 : Below w.heap.size w ((w.alloc (.cells (dC d po co pc cc) 25)).alloc (.cells dZ 25)) := (Below.one w _).alloc (by simp) _
 have hV0 := hD0.below hB0
 generalize ((w.alloc (.cells (dC d po co pc cc) 25)).alloc (.cells dZ 25)) = W0 at *
 go_loopw [12] (fun t wr => ∃ (k : Nat) (dk : Dsk) (po pc co cc : _), k ≤ ops.length ∧ t = .int .i64 k ∧ Below w.heap.size w wr ∧
  Bx wr N (dC dk po co pc cc) 25 ∧ Bx wr (N + 1) dZ 25 ∧ DskV wr (.agg (dC dk po co pc cc)) dk ∧ dk.cache.length ≤ d.cache.length + k ∧ perfP dk (ops.drop k) = p) (fun t _ => ops.length - (intOf t).toNat)
 case atStart => exact ⟨0, d, po, pc, co, cc, Nat.zero_le _, rfl, hB0, x0, x1, hV0, by omega, hp⟩
 case round =>
  clear x0 x1 hV0 hB0 hD0
  obtain ⟨k, dk, po, pc, co, cc, hk, rfl, hb, xX, xR, hV, hc, hpk⟩ := hrel
  have hz := hb.size
  have cX := xX.cell
  have lX := xX.lt
  have cR := xR.cell
  have lR := xR.lt
  have fR := xR.free
  by_cases hlt : k < ops.length
  ·
   rw [perfP_next hlt] at hpk
   obtain ⟨b, off, u, rfl, hcell, hu⟩ := ho.below hb k hlt
   obtain ⟨A, er, he⟩ : ∃ A er, opP dk ops[k] = (A, er) := ⟨_, _, rfl⟩
   have hAc := opP_cache (d := dk) (o := ops[k])
   rw [he] at hpk hAc
   have hlt' : (k : Int) < ops.length := by omega
   have hhd : (er ≠ 0 ∧ (A, er) = p) ∨ (er = 0 ∧ perfP A (ops.drop (k + 1)) = p) := by
    by_cases h : er = 0
    ·
     right; refine ⟨h, ?_⟩; rw [if_neg (by simp [h])] at hpk; exact hpk
    ·
     left; refine ⟨h, ?_⟩; rw [if_pos h] at hpk; exact hpk
   have Hhd := Lib.hid hhd
   clear hhd hpk
   cases hop : ops[k] with
   | wr i data =>
    rw [hop] at hu he
    obtain ⟨bi, bd, rfl, u1, u2, u3⟩ := hu
    have hcall := pl_write1 dk _ bi bd i data wr hV u1 u2 u3 (by omega)
    rw [show writeD dk i data = (A, er) from he] at hcall
    clear hop he
    go_wp2_with fail
    refine hcall.mono ?_
    rintro e w1 ⟨v1, rfl, hM1, hb1⟩
    have hM2 := hM1
    obtain ⟨po1, pc1, co1, cc1, rfl⟩ := hM1.agg
    have y0 := xX.belowAll hb1
    have y1 := xR.belowAll hb1
    have hB1 := btr hb hb1
    have hz1 := hB1.size
    clear cX lX cR lR fR xX xR hV hcell
    cases g : (er != 0)
    ·
     have ge : er = 0 := by simpa using g
     have hnext : perfP A (ops.drop (k + 1)) = p := by rcases Hhd.out with h | h; exact absurd ge h.1; exact h.2
     have Hn := Lib.hid hnext
     clear hnext Hhd
     have cX := y0.cell
     have lX := y0.lt
     have fX := y0.free
     have sB := below_set4 (b := N) (v0 := .int .i64 A.size) (v1 := .slice po1 A.pages.length pc1) (v2 := .slice co1 A.cache.length cc1) (v3 := .int .i64 A.left) hB1 (by omega)
     have hA : Below _ ((((w1.setCell ⟨N, 0, none⟩ (.int .i64 A.size)).setCell ⟨N, 1, none⟩ (.slice po1 A.pages.length pc1)).setCell ⟨N, 2, none⟩ (.slice co1 A.cache.length cc1)).setCell ⟨N, 3, none⟩ (.int .i64 A.left)) _ := Below.one _ (.cells (dC A po1 co1 pc1 cc1) 25)
     have hSB := Lib.hid (btr sB hA)
     have hSX := Lib.hid ((y0.set4 (v0 := .int .i64 A.size) (v1 := .slice po1 A.pages.length pc1) (v2 := .slice co1 A.cache.length cc1) (v3 := .int .i64 A.left)).belowAll hA)
     have hSR := Lib.hid ((y1.setO4 (b' := N) (v0 := .int .i64 A.size) (v1 := .slice po1 A.pages.length pc1) (v2 := .slice co1 A.cache.length cc1) (v3 := .int .i64 A.left) (by omega)).belowAll hA)
     have hSM := Lib.hid ((hM2.only y0 (noS_dC _ _ _ _ _) (Only.four (v0 := .int .i64 A.size) (v1 := .slice po1 A.pages.length pc1) (v2 := .slice co1 A.cache.length cc1) (v3 := .int .i64 A.left))).below hA)
     clear sB hA
     go_wp2
     go_roundw
     case rel => exact ⟨k + 1, A, po1, pc1, co1, cc1, by omega, by go_num, hSB.out, hSX.out, hSR.out, hSM.out, by omega, Hn.out⟩
     case measure => simp [intOf]; omega
    ·
     have gp : (A, er) = p := by rcases Hhd.out with h | h; exact h.2; rw [h.1] at g; cases g
     subst gp
     clear Hhd
     have cX := y0.cell
     have lX := y0.lt
     have fX := y0.free
     have cR := y1.cell
     have lR := y1.lt
     have fR := y1.free
     obtain ⟨Wf, hWf⟩ : ∃ Wf, (st4 (st4 w1 N (.int .i64 A.size) (.slice po1 A.pages.length pc1) (.slice co1 A.cache.length cc1) (.int .i64 A.left)) (N + 1) (.int .i64 A.size) (.slice po1 A.pages.length pc1) (.slice co1 A.cache.length cc1) (.int .i64 A.left)).alloc (.cells (dC A po1 co1 pc1 cc1) 25) = Wf := ⟨_, rfl⟩
     have zR : Bx Wf (N + 1) (dC A po1 co1 pc1 cc1) 25 := by subst hWf; exact ((y1.only only_st4 (by omega)).st4).alloc _
     have zB : Below w.heap.size w Wf := by subst hWf; exact (below_st4 (below_st4 hB1 (by omega)) (by omega)).alloc (by rw [size_st4, size_st4]; omega) _
     have zM : DskV Wf (.agg (dC A po1 co1 pc1 cc1)) A := by subst hWf; exact ((hM2.only y0 (noS_dC _ _ _ _ _) only_st4).only (y1.only only_st4 (by omega)) noS_dZ only_st4).below (Below.one _ _)
     have HWf := Lib.hid hWf
     have HB := Lib.hid zB
     have HM := Lib.hid zM
     clear hWf zB zM
     go_wp2
     have HW := HWf.out
     unfold st4 at HW
     rw [HW]
     have cZ := zR.cell
     refine bodyPost_ret (v := .tuple #[.agg (dC A po1 co1 pc1 cc1), .int .i64 er]) (by simp [results, Tryz.results52, go_sem, cZ]) rfl ?_
     exact ⟨_, rfl, HM.out, HB.out⟩
   | fl =>
    rw [hop] at hu he
    have hu : u = .func (.func 32) #[] #[] := hu
    subst hu
    have hcall := v_flush dk _ wr hV (A := A) (er := er) he
    clear hop he
    go_wp2_with fail
    refine hcall.mono ?_
    rintro e w1 ⟨v1, rfl, hM1, hb1⟩
    have hM2 := hM1
    obtain ⟨po1, pc1, co1, cc1, rfl⟩ := hM1.agg
    have y0 := xX.belowAll hb1
    have y1 := xR.belowAll hb1
    have hB1 := btr hb hb1
    have hz1 := hB1.size
    clear cX lX cR lR fR xX xR hV hcell
    cases g : (er != 0)
    ·
     have ge : er = 0 := by simpa using g
     have hnext : perfP A (ops.drop (k + 1)) = p := by rcases Hhd.out with h | h; exact absurd ge h.1; exact h.2
     have Hn := Lib.hid hnext
     clear hnext Hhd
     have cX := y0.cell
     have lX := y0.lt
     have fX := y0.free
     have sB := below_set4 (b := N) (v0 := .int .i64 A.size) (v1 := .slice po1 A.pages.length pc1) (v2 := .slice co1 A.cache.length cc1) (v3 := .int .i64 A.left) hB1 (by omega)
     have hA : Below _ ((((w1.setCell ⟨N, 0, none⟩ (.int .i64 A.size)).setCell ⟨N, 1, none⟩ (.slice po1 A.pages.length pc1)).setCell ⟨N, 2, none⟩ (.slice co1 A.cache.length cc1)).setCell ⟨N, 3, none⟩ (.int .i64 A.left)) _ := Below.one _ (.cells (dC A po1 co1 pc1 cc1) 25)
     have hSB := Lib.hid (btr sB hA)
     have hSX := Lib.hid ((y0.set4 (v0 := .int .i64 A.size) (v1 := .slice po1 A.pages.length pc1) (v2 := .slice co1 A.cache.length cc1) (v3 := .int .i64 A.left)).belowAll hA)
     have hSR := Lib.hid ((y1.setO4 (b' := N) (v0 := .int .i64 A.size) (v1 := .slice po1 A.pages.length pc1) (v2 := .slice co1 A.cache.length cc1) (v3 := .int .i64 A.left) (by omega)).belowAll hA)
     have hSM := Lib.hid ((hM2.only y0 (noS_dC _ _ _ _ _) (Only.four (v0 := .int .i64 A.size) (v1 := .slice po1 A.pages.length pc1) (v2 := .slice co1 A.cache.length cc1) (v3 := .int .i64 A.left))).below hA)
     clear sB hA
     go_wp2
     go_roundw
     case rel => exact ⟨k + 1, A, po1, pc1, co1, cc1, by omega, by go_num, hSB.out, hSX.out, hSR.out, hSM.out, by omega, Hn.out⟩
     case measure => simp [intOf]; omega
    ·
     have gp : (A, er) = p := by rcases Hhd.out with h | h; exact h.2; rw [h.1] at g; cases g
     subst gp
     clear Hhd
     have cX := y0.cell
     have lX := y0.lt
     have fX := y0.free
     have cR := y1.cell
     have lR := y1.lt
     have fR := y1.free
     obtain ⟨Wf, hWf⟩ : ∃ Wf, (st4 (st4 w1 N (.int .i64 A.size) (.slice po1 A.pages.length pc1) (.slice co1 A.cache.length cc1) (.int .i64 A.left)) (N + 1) (.int .i64 A.size) (.slice po1 A.pages.length pc1) (.slice co1 A.cache.length cc1) (.int .i64 A.left)).alloc (.cells (dC A po1 co1 pc1 cc1) 25) = Wf := ⟨_, rfl⟩
     have zR : Bx Wf (N + 1) (dC A po1 co1 pc1 cc1) 25 := by subst hWf; exact ((y1.only only_st4 (by omega)).st4).alloc _
     have zB : Below w.heap.size w Wf := by subst hWf; exact (below_st4 (below_st4 hB1 (by omega)) (by omega)).alloc (by rw [size_st4, size_st4]; omega) _
     have zM : DskV Wf (.agg (dC A po1 co1 pc1 cc1)) A := by subst hWf; exact ((hM2.only y0 (noS_dC _ _ _ _ _) only_st4).only (y1.only only_st4 (by omega)) noS_dZ only_st4).below (Below.one _ _)
     have HWf := Lib.hid hWf
     have HB := Lib.hid zB
     have HM := Lib.hid zM
     clear hWf zB zM
     go_wp2
     have HW := HWf.out
     unfold st4 at HW
     rw [HW]
     have cZ := zR.cell
     refine bodyPost_ret (v := .tuple #[.agg (dC A po1 co1 pc1 cc1), .int .i64 er]) (by simp [results, Tryz.results52, go_sem, cZ]) rfl ?_
     exact ⟨_, rfl, HM.out, HB.out⟩
  ·
   have hk' : ¬ ((k : Int) < ops.length) := by omega
   have gp : (dk, 0) = p := by rw [← hpk, List.drop_eq_nil_of_le (by omega), perfP]
   subst gp
   clear hpk
   have fX := xX.free
   obtain ⟨Wf, hWf⟩ : ∃ Wf, st4 wr (N + 1) (.int .i64 dk.size) (.slice po dk.pages.length pc) (.slice co dk.cache.length cc) (.int .i64 dk.left) = Wf := ⟨_, rfl⟩
   have zR : Bx Wf (N + 1) (dC dk po co pc cc) 25 := by subst hWf; exact xR.st4
   have zB : Below w.heap.size w Wf := by subst hWf; exact below_st4 hb (by omega)
   have zM : DskV Wf (.agg (dC dk po co pc cc)) dk := by subst hWf; exact hV.only xR noS_dZ only_st4
   have HWf := Lib.hid hWf
   have HB := Lib.hid zB
   have HM := Lib.hid zM
   clear hWf zB zM
   go_wp2
   have HW := HWf.out
   unfold st4 at HW
   rw [HW]
   have cZ := zR.cell
   refine bodyPost_ret (v := .tuple #[.agg (dC dk po co pc cc), .int .i64 0]) (by simp [results, Tryz.results52, go_sem, cZ]) rfl ?_
   exact ⟨_, rfl, HM.out, HB.out⟩
end Go.Proofs.YtghikgjknhjjgaaGreatDoor
namespace Go.Proofs.YtghikgjknhjjgaaGreatDoor
set_option maxRecDepth 100000
open Go.RowKit Go.Shelf
/-- a call that answers with an operation, within a drawn region -/
def annOp (o : DOp) : Ann := ⟨fun r => r.x 0, fun r W => OpV W (r.x 0) o⟩
def annOps (ops : List DOp) (n : Nat) : Ann := ⟨fun r => .slice (some ⟨r.lo, 0, none⟩) n n, fun r W => OpsAt W (some ⟨r.lo, 0, none⟩) ops⟩
theorem lz_op {f : FuncId} {args : Array Value} {o : DOp} {W : World} (h : Calls Tryz.prog f args W fun e w' => ∃ v, e = .returned v ∧ OpV w' v o ∧ Below W.heap.size W w') : Calls Tryz.prog f args W fun e w' => ∃ u, e = .returned u ∧ lzPost (annOp o) W u w' :=
 h.mono fun _ _ ⟨v, he, ho, hb⟩ => ⟨v, he, hb, fun _ => v, rfl, fun _ hb' => ho.below hb'⟩
theorem OpsAt.bx {w : World} {b : Nat} {vs : List Value} {ops : List DOp} {t : TypeId} (h : Bx w b vs.toArray t) (hv : vs.length = ops.length) (ho : ∀ j (h : j < ops.length) (h' : j < vs.length), OpV w vs[j] ops[j]) : OpsAt w (some ⟨b, 0, none⟩) ops := by
 intro j hj
 refine ⟨b, 0, vs[j]'(by omega), rfl, ?_, ho j hj (by omega)⟩
 rw [Nat.zero_add, h.cell]
 simp [show j < vs.length by omega]
set_option maxRecDepth 100000 in
set_option maxHeartbeats 1000000 in
theorem pl_next (l : Lg) (v : Value) (V n : Nat) (w : World) (hL : LgV w v l) (hV : l.ver = V) (hVb : V ≤ 1099511627776) (_hn : n ≤ 1099511627776) (hz : 24 ≤ l.disk.size) (hz2 : l.disk.size ≤ 512) (hf : 0 ≤ l.frm) (hf2 : l.frm ≤ 1000000) :
  Calls Tryz.prog 35 #[v, .int .i64 n] w fun e w' => ∃ b, e = .returned (.slice (some ⟨b, 0, none⟩) 2 2) ∧ OpsAt w' (some ⟨b, 0, none⟩) (nextL l n) ∧ Below w.heap.size w w' := by
 obtain ⟨⟨size, pages, cache, left⟩, frm, til, ver, recs⟩ := l
 simp only at hV hz hz2 hf hf2
 obtain ⟨z, rfl⟩ : ∃ z : Nat, size = z := ⟨size.toNat, by omega⟩
 subst hV
 obtain ⟨po, pc, co, cc, ro, rc, rfl, hD, hsl, hst⟩ := hL
 obtain ⟨N, hN⟩ : ∃ N, w.heap.size = N := ⟨_, rfl⟩
 have hnx : nextL ⟨⟨z, pages, cache, left⟩, frm, til, V, recs⟩ n = [.wr (frm + ((V : Int) + 1) % 2) (bs (hdrL z (V + 1) n)), .fl] := by
  unfold nextL
  simp only
  rw [Int.tmod_eq_emod_of_nonneg (by omega)]
  congr 3
 obtain ⟨k, hk⟩ : ∃ k : Int, ((V : Int) + 1) % 2 = k := ⟨_, rfl⟩
 have hk2 : 0 ≤ k ∧ k ≤ 1 := by omega
 rw [hk] at hnx
 rw [hnx]
 obtain ⟨W0, hW0⟩ : ∃ W0, w.alloc (.cells (lgC ⟨z, pages, cache, left⟩ po co pc cc frm til V ro recs.length rc) 27) = W0 := ⟨_, rfl⟩
 have x0 : Bx W0 N (lgC ⟨z, pages, cache, left⟩ po co pc cc frm til V ro recs.length rc) 27 := by subst hW0 hN; exact Bx.new w _ _
 have hB0 : Below w.heap.size w W0 := by subst hW0; exact Below.one w _
 have c0 := x0.cell
 have l0 := x0.lt
 have hhd := fun W => pl_header z (V + 1) n W (by omega) (by omega)
 obtain ⟨H, hH⟩ : ∃ H, bs (hdrL z (V + 1) n) = H := ⟨_, rfl⟩
 have hHs : H.size ≤ 1000 := by rw [← hH, bs_size]; simp [hdrL, num8]; omega
 simp only [hH, Int.natCast_add, Int.natCast_one] at hhd
 rw [hH]
 have Hhd := Lib.hid hhd
 clear hhd hH hnx hst hsl hD
 go_enter Tryz.func35, Tryz.ntmps35
 have cQ := Lat.cells W0
 go_wp2
 refine wp_region_lz 14 0 #[true, true, true, true, true, true, true, true, true, true, true, true, true, true] (fun i => if i = 10 then some (annK (.string H)) else if i = 11 then some (annOp (.wr (frm + k) H)) else if i = 12 then some (annOps [.wr (frm + k) H, .fl] 2) else none) (by kernel_rfl) (by rfl) (by rfl) (by kernel_rfl) ?_
 simp only [List.take_succ_cons, List.take_zero]
 refine LW.block 10 10 (by rfl) (by kernel_rfl) (by kernel_rfl) ?_
 simp only [List.take_succ_cons, List.take_zero, List.drop_succ_cons, List.drop_zero]
 repeat (first | go_big_quiet_skip | (go_big_quiet_want; go_big_quiet_op; go_big_quiet_on))
 refine wpQuiet_nil ?_
 refine LW.lzy _ (by rfl) (by rfl) ?_ ?_
 ·
  intro yL _
  unfold lzAt
  go_simp
  exact lz_constB (Hhd.out _)
 intro _
 simp only [Act.put, List.setIfInBounds_toArray, List.set_cons_zero, List.set_cons_succ]
 (try simp only [annK])
 refine LW.lzy _ (by rfl) (by rfl) ?_ ?_
 ·
  intro yL _
  unfold lzAt
  go_simp
  exact lz_op (pl_write _ _ _ (by omega))
 intro r11
 simp only [Act.put, List.setIfInBounds_toArray, List.set_cons_zero, List.set_cons_succ]
 refine LW.lzy _ (by rfl) (by rfl) ?_ ?_
 ·
  intro yL hf
  have hx : OpV yL.w (r11.x 0) (.wr (frm + k) H) := (hf 11 (by decide +kernel)).get (by rfl) (by rfl)
  have hx' := hx
  obtain ⟨bi, bd, e, _, _, _⟩ := hx
  have e' : (annOp (.wr (frm + k) H)).f r11 = .func (.func 83) #[] #[.pointer (some ⟨bi, 0, none⟩), .pointer (some ⟨bd, 0, none⟩)] := e
  rw [e']
  unfold lzAt
  go_simp
  refine ⟨Below.one _ _, fun _ => undef, rfl, fun w'' hb => ?_⟩
  have hX := (Bx.new yL.w #[.func (.func 83) #[] #[.pointer (some ⟨bi, 0, none⟩), .pointer (some ⟨bd, 0, none⟩)], .func (.func 32) #[] #[]] 77).belowAll hb
  refine OpsAt.bx (vs := [.func (.func 83) #[] #[.pointer (some ⟨bi, 0, none⟩), .pointer (some ⟨bd, 0, none⟩)], .func (.func 32) #[] #[]]) hX rfl ?_
  intro j h1 h2
  rcases j with _ | _ | j
  ·
   have := (hx'.below (Below.one _ _)).below hb
   rw [e] at this
   exact this
  ·
   exact rfl
  ·
   exact absurd h2 (by simp)
 intro r12
 simp only [Act.put, List.setIfInBounds_toArray, List.set_cons_zero, List.set_cons_succ]
 refine LW.block 1 14 (by rfl) (by kernel_rfl) (by kernel_rfl) ?_
 simp only [List.take_succ_cons, List.take_zero, List.drop_succ_cons, List.drop_zero]
 repeat (first | go_big_quiet_skip | (go_big_quiet_want; go_big_quiet_op; go_big_quiet_on))
 refine wpQuiet_nil ?_
 refine LW.done ?_
 intro w' hG
 have hR : OpsAt w' (some ⟨r12.lo, 0, none⟩) [.wr (frm + k) H, .fl] := hG.get 12 rfl rfl
 have HR := Lib.hid hR
 have hB := Lib.hid (btr hB0 hG.below)
 clear hR hG
 refine wpAny_done (by kernel_rfl) ?_ _
 simp only [annOps]
 go_wp2
 go_ret
 exact ⟨_, rfl, HR.out, by first | exact hB.out | (rw [← hN]; exact hB.out)⟩
end Go.Proofs.YtghikgjknhjjgaaGreatDoor
namespace Go.Proofs.YtghikgjknhjjgaaGreatDoor
set_option maxRecDepth 100000
open Go.RowKit Go.Shelf
/-- values that are operations, one by one -/
def OpL (w : World) (vs : List Value) (ops : List DOp) : Prop := vs.length = ops.length ∧ ∀ j (h : j < ops.length) (h' : j < vs.length), OpV w vs[j] ops[j]
theorem OpL.nil (w : World) : OpL w [] [] := ⟨rfl, fun j h => absurd h (by simp)⟩
theorem OpL.below {w w' : World} {vs : List Value} {ops : List DOp} (h : OpL w vs ops) (hb : Below w.heap.size w w') : OpL w' vs ops := ⟨h.1, fun j h1 h2 => (h.2 j h1 h2).below hb⟩
theorem OpL.app {w : World} {vs us : List Value} {ops ops' : List DOp} (h : OpL w vs ops) (k : OpL w us ops') : OpL w (vs ++ us) (ops ++ ops') := by
 refine ⟨by simp [h.1, k.1], fun j h1 h2 => ?_⟩
 by_cases hj : j < ops.length
 ·
  rw [List.getElem_append_left (by rw [h.1]; exact hj), List.getElem_append_left hj]
  exact h.2 j hj _
 ·
  rw [List.getElem_append_right (by rw [h.1]; omega), List.getElem_append_right (by omega)]
  simp only [h.1]
  exact k.2 _ (by simp at h1; omega) _
theorem OpV.kept {w w' : World} {v : Value} {o : DOp} (h : OpV w v o) (hk : ∀ (b : Nat) (cs : Array Value) (t : TypeId), (t = 3 ∨ t = 9) → Bx w b cs t → Bx w' b cs t) : OpV w' v o := by
 cases o with
 | wr i data =>
  obtain ⟨bi, bd, e, h1, h2, h3⟩ := h
  exact ⟨bi, bd, e, hk _ _ _ (.inl rfl) h1, hk _ _ _ (.inr rfl) h2, h3⟩
 | fl => exact h
theorem OpL.kept {w w' : World} {vs : List Value} {ops : List DOp} (h : OpL w vs ops) (hk : ∀ (b : Nat) (cs : Array Value) (t : TypeId), (t = 3 ∨ t = 9) → Bx w b cs t → Bx w' b cs t) : OpL w' vs ops := ⟨h.1, fun j h1 h2 => (h.2 j h1 h2).kept hk⟩
/-- over an append to a row of operations -/
theorem OpL.grown {w w' : World} {vs : List Value} {ops : List DOp} {base n : Nat} {v : Value} {xs : List Value} (h : OpL w vs ops) (ho : w.ownsRow base 77 1 v n xs) (hg : w.grownBy w' v.ownBlock) : OpL w' vs ops :=
 h.kept fun b cs t ht hx => hx.grown hg (fun e => by
  have := ownsRow_ne_bx ho hx (by rcases ht with rfl | rfl <;> decide)
  exact this e.symm)
theorem OpsAt.row {w : World} {o : Option Addr} {ops : List DOp} (h : OpsAt w o ops) : ∃ vs, RowAt (· < w.heap.size) w o vs ∧ OpL w vs ops := by
 by_cases hn : ops = []
 ·
  subst hn
  exact ⟨[], RowAt.nil _ _ _, OpL.nil w⟩
 ·
  have hp : 0 < ops.length := List.length_pos_iff.2 hn
  obtain ⟨b, off, u, rfl, _, _⟩ := h 0 hp
  have hall : ∀ j (hj : j < ops.length), w.cell? ⟨b, off + j, none⟩ = some ((w.cell? ⟨b, off + j, none⟩).getD undef) ∧ OpV w ((w.cell? ⟨b, off + j, none⟩).getD undef) ops[j] := by
   intro j hj
   obtain ⟨b', off', u, e, hc, hu⟩ := h j hj
   obtain ⟨rfl, rfl⟩ : b = b' ∧ off = off' := by simpa using e
   rw [hc]
   exact ⟨rfl, hu⟩
  refine ⟨(List.range ops.length).map fun j => (w.cell? ⟨b, off + j, none⟩).getD undef, ?_, by simp, ?_⟩
  ·
   intro j hj
   have hj' : j < ops.length := by simpa using hj
   refine ⟨b, off, rfl, ?_, World.block_lt_of_cell? w _ (hall j hj').1⟩
   rw [(hall j hj').1]
   simp
  ·
   intro j h1 h2
   simpa using (hall j h1).2
theorem OpsAt.of {w : World} {o : Option Addr} {S : Nat → Prop} {vs : List Value} {ops : List DOp} (hr : RowAt S w o vs) (hl : OpL w vs ops) : OpsAt w o ops := by
 intro j hj
 obtain ⟨b, off, e, hc, _⟩ := hr j (by rw [hl.1]; exact hj)
 exact ⟨b, off, _, e, hc, hl.2 j hj _⟩
/-- a row of the call's own that holds operations -/
def OpsOwn (w : World) (base : Nat) (v : Value) (ops : List DOp) : Prop := ∃ vs, w.ownsRow base 77 1 v ops.length vs ∧ OpL w vs ops
theorem OpsOwn.below {w w' : World} {base : Nat} {v : Value} {ops : List DOp} (h : OpsOwn w base v ops) (hb : Below w.heap.size w w') : OpsOwn w' base v ops := by
 obtain ⟨vs, h1, h2⟩ := h
 exact ⟨vs, ownsRow_belowAll h1 hb, h2.below hb⟩
theorem infoOp : (Tryz.prog.info? 77).map (fun i => (i.zero, i.size, i.bytes)) = some (some .nilFunc, 1, 8) := by kernel_rfl
theorem wrsP_cons (l : Lg) (f a : Nat) (s : List UInt8) (h : s ≠ []) : wrsP l (f + 1) a s =
  .wr (l.frm + 2 + (a / l.disk.size.toNat : Nat)) (bs ((pageL l.disk (l.frm + 2 + (a / l.disk.size.toNat : Nat))).take (a % l.disk.size.toNat) ++ s.take (l.disk.size.toNat - a % l.disk.size.toNat)
   ++ (pageL l.disk (l.frm + 2 + (a / l.disk.size.toNat : Nat))).drop (a % l.disk.size.toNat + min s.length (l.disk.size.toNat - a % l.disk.size.toNat))))
  :: wrsP l f (a + min s.length (l.disk.size.toNat - a % l.disk.size.toNat)) (s.drop (l.disk.size.toNat - a % l.disk.size.toNat)) := by
 cases s with
 | nil => exact absurd rfl h
 | cons c r => rw [wrsP]
theorem page_cut {P : List UInt8} {T B : ByteArray} {z k m : Nat} (hP : P.length = z) (hk : k < z) (hm : min T.size (z - k) = m) (hB : bs P = B) :
  ∃ D, bs (P.take k ++ T.data.toList.take (z - k) ++ P.drop (k + min T.data.toList.length (z - k))) = D ∧ D.size = z ∧ B.extract 0 k ++ T.extract 0 m ++ B.extract (k + m) z = D ∧ (T.extract m T.size).data.toList = T.data.toList.drop (z - k) := by
 have hlT : T.data.toList.length = T.size := len_size T
 obtain ⟨L, hL⟩ : ∃ L, P.take k ++ T.data.toList.take (z - k) ++ P.drop (k + min T.data.toList.length (z - k)) = L := ⟨_, rfl⟩
 have hLl : L.length = z := by
  rw [← hL]
  simp only [List.length_append, List.length_take, List.length_drop]
  omega
 have htk : T.data.toList.take (z - k) = T.data.toList.take m := by
  by_cases h : T.size ≤ z - k
  ·
   rw [List.take_of_length_le (by omega), List.take_of_length_le (by omega)]
  ·
   rw [show m = z - k by omega]
 refine ⟨bs L, by rw [hL], by rw [bs_size]; exact hLl, ?_, ?_⟩
 ·
  have hT : T.extract 0 m = bs (T.data.toList.take m) := by
   apply ByteArray.ext
   apply Array.ext'
   simp
  rw [hT, ← hL, ← hB, bs_cut, bs_cut, hlT, hm, htk, bs_app, bs_app, List.take_of_length_le (l := P.drop (k + m)) (by rw [List.length_drop]; omega)]
  rfl
 ·
  rw [cut_list, List.take_of_length_le (by rw [List.length_drop]; omega)]
  by_cases h : T.size ≤ z - k
  ·
   rw [List.drop_of_length_le (by omega), List.drop_of_length_le (by omega)]
  ·
   rw [show m = z - k by omega]
def szV : Value → Nat
 | .string s => s.size
 | _ => 0
set_option maxRecDepth 100000 in
set_option maxHeartbeats 1000000 in
theorem pl_pages (l : Lg) (v : Value) (a0 : Nat) (s0 : ByteArray) (w : World) (hL : LgV w v l) (hf : fitE l.disk l.frm l.til = 0) (hb : (a0 : Int) + s0.size ≤ areaN l.disk l.frm l.til) :
  Calls Tryz.prog 30 #[v, .int .i64 a0, .string s0] w fun e w' => ∃ v', e = .returned v' ∧ OpsOwn w' w.heap.size v' (wrsL l a0 s0.data.toList) ∧ Below w.heap.size w w' := by
 have hab := area_bd hf
 have hfz := fitE_zero hf
 obtain ⟨tot, htot⟩ : ∃ tot, wrsL l a0 s0.data.toList = tot := ⟨_, rfl⟩
 rw [htot]
 have htot0 : [] ++ wrsP l s0.data.toList.length a0 s0.data.toList = tot := htot
 clear htot
 obtain ⟨⟨size, pages, cache, left⟩, frm, til, ver, recs⟩ := l
 simp only at hab hfz hb hf
 obtain ⟨z, rfl⟩ : ∃ z : Nat, size = z := ⟨size.toNat, by omega⟩
 obtain ⟨po, pc, co, cc, ro, rc, rfl, hD, hsl, hst⟩ := hL
 obtain ⟨N, hN⟩ : ∃ N, w.heap.size = N := ⟨_, rfl⟩
 obtain ⟨io, hio, hz0, hs0, hby0⟩ := info_parts infoOp
 have Hio : Hid (Tryz.prog.info? 77 = some io ∧ io.zero = some .nilFunc ∧ io.size = 1 ∧ io.bytes = 8) := Lib.hid ⟨hio, hz0, hs0, hby0⟩
 have HD := Lib.hid hD
 have Hfz := Lib.hid hfz
 clear hst hsl hD hio hz0 hs0 hby0 hfz
 simp only at HD
 go_enter Tryz.func30, Tryz.ntmps30
 go_wp2
 have x0 : Bx (w.alloc (.cells (lgC ⟨z, pages, cache, left⟩ po co pc cc frm til ver ro recs.length rc) 27)) N (lgC ⟨z, pages, cache, left⟩ po co pc cc frm til ver ro recs.length rc) 27 := by subst hN; exact Bx.new w _ _
 have hB0 : Below w.heap.size w (w.alloc (.cells (lgC ⟨z, pages, cache, left⟩ po co pc cc frm til ver ro recs.length rc) 27)) := Below.one w _
 generalize (w.alloc (.cells (lgC ⟨z, pages, cache, left⟩ po co pc cc frm til ver ro recs.length rc) 27)) = W0 at *
 go_loopw [1, 2, 7] (fun ta ts tv wr => ∃ (a f : Nat) (T : ByteArray) (ops : List DOp), ta = .int .i64 a ∧ ts = .string T ∧ OpsOwn wr w.heap.size tv ops ∧ T.size ≤ f ∧ (a : Int) + T.size ≤ areaN ⟨z, pages, cache, left⟩ frm til ∧ ops.length ≤ a ∧
  ops ++ wrsP ⟨⟨z, pages, cache, left⟩, frm, til, ver, recs⟩ f a T.data.toList = tot ∧ Below w.heap.size w wr ∧ Bx wr N (lgC ⟨z, pages, cache, left⟩ po co pc cc frm til ver ro recs.length rc) 27) (fun _ ts _ _ => szV ts)
 case atStart => exact ⟨a0, s0.data.toList.length, s0, [], rfl, rfl, ⟨[], ⟨by simp, .inl ⟨rfl, rfl⟩⟩, OpL.nil _⟩, by rw [len_size]; exact Nat.le_refl _, hb, Nat.zero_le _, htot0, hB0, x0⟩
 case round =>
  clear x0 hB0 htot0 hb
  obtain ⟨a, f, T, ops, rfl, rfl, hown, hf1, hb, hol, htot, hB, xX⟩ := hrel
  by_cases hT0 : 0 < T.size
  ·
   have hne := nonempty_bytes hT0
   have hTl : T.data.toList ≠ [] := by intro e; rw [← len_size, e] at hT0; simp at hT0
   obtain ⟨f, rfl⟩ : ∃ g, f = g + 1 := ⟨f - 1, by omega⟩
   rw [wrsP_cons _ _ _ _ hTl] at htot
   simp only [Int.toNat_natCast] at htot
   obtain ⟨k, hk⟩ : ∃ k, a % z = k := ⟨_, rfl⟩
   obtain ⟨i, hi⟩ : ∃ i, a / z = i := ⟨_, rfl⟩
   have hki : (a : Int) % (z : Int) = k := by rw [← hk]; simp
   have hii : (a : Int) / (z : Int) = i := by rw [← hi]; simp
   have hz1 : 0 < z := by omega
   have cX := xX.cell
   have lX := xX.lt
   have hz0' : ¬ ((z : Int) = 0) := by omega
   go_wp2
   have hfr : 0 ≤ frm ∧ frm ≤ 2000 := by have h0 := Hfz.out; have h1 := rangedB_true (chk_zero h0.1).1; simp only at h0 h1; omega
   have hfr0 := hfr.1
   have hfr1 := hfr.2
   have hkz : k < z := by rw [← hk]; exact Nat.mod_lt _ hz1
   have hai : a = i * z + k := by rw [← hi, ← hk, Nat.mul_comm]; exact (Nat.div_add_mod a z).symm
   have hil : i ≤ 2000 := by
    have h24 : i * 24 ≤ i * z := Nat.mul_le_mul_left _ (by omega)
    have hq : i * z ≤ 2000 * z := by
     have h1 : (til - frm - 2) * (z : Int) ≤ 2000 * (z : Int) := Int.mul_le_mul_of_nonneg_right (by omega) (by omega)
     have h2 : (a : Int) + T.size ≤ (til - frm - 2) * (z : Int) := hb
     omega
    exact Nat.le_of_mul_le_mul_right hq hz1
   have hpl : (pageL ⟨z, pages, cache, left⟩ (frm + 2 + (i : Nat))).length = z := by
    have h2 : (a : Int) + T.size ≤ (til - frm - 2) * (z : Int) := hb
    have hm : (i : Int) < til - frm - 2 := by
     refine Int.lt_of_mul_lt_mul_right (a := (z : Int)) ?_ (by omega)
     omega
    have h0 := Hfz.out
    have := pageL_len (d := ⟨z, pages, cache, left⟩) h0.1 (i := frm + 2 + (i : Nat)) (by omega) (by have := h0.2.2.2.2.1; simp only at this ⊢; omega)
    simpa using this
   obtain ⟨P, hP⟩ : ∃ P, pageL ⟨z, pages, cache, left⟩ (frm + 2 + (i : Nat)) = P := ⟨_, rfl⟩
   obtain ⟨er, hrd⟩ : ∃ er, readD ⟨z, pages, cache, left⟩ (frm + 2 + (i : Nat)) = (bs P, er) := ⟨_, by rw [← hP]; unfold pageL; rw [bs_of]⟩
   rw [hi, hk, hP] at htot
   rw [hP] at hpl
   have hread := fun W (h : Below w.heap.size w W) => v_read ⟨z, pages, cache, left⟩ _ (frm + 2 + (i : Nat)) W (HD.out.below h) hrd
   have Hread := Lib.hid hread
   have Hpl := Lib.hid hpl
   have Htot := Lib.hid htot
   have Hb := Lib.hid hb
   have Hab := Lib.hid hab
   clear hread hpl htot hb hP hrd hai hab
   go_quiet (fail)
   go_wp2_with fail
   refine (Hread.out _ (Below.drewN hB _)).mono ?_
   rintro e w1 ⟨rfl, hb1⟩
   have y0 := (xX.drewN _).belowAll hb1
   have hB1 := btr (Below.drewN hB _) hb1
   have hown1 := hown.below (Below.then (Below.drewN (Below.refl _ _) _) hb1 (by simp))
   clear cX lX hown xX hb1
   have cX := y0.cell
   have lX := y0.lt
   have hsub : (z : Int) - (k : Int) = ((z - k : Nat) : Int) := by omega
   obtain ⟨B, hBP⟩ : ∃ B, bs P = B := ⟨_, rfl⟩
   have hBz : B.size = z := by rw [← hBP, bs_size]; exact Hpl.out
   rw [hBP]
   go_wp2
   obtain ⟨m, hm⟩ : ∃ m, min T.size (z - k) = m := ⟨_, rfl⟩
   have hmT : m ≤ T.size := by rw [← hm]; exact Nat.min_le_left _ _
   have hmz : k + m ≤ z := by have := Nat.min_le_right T.size (z - k); omega
   have hm1 : 1 ≤ m := by omega
   have hz512 : z ≤ 512 := by have := Hab.out; omega
   have hw64 : wrap64 ((z - k : Nat) : Int) = ((z - k : Nat) : Int) := IntWalk.wrap64_in _ (by omega)
   have hmi : min (T.size : Int) ((z - k : Nat) : Int) = m := by omega
   simp only [hki, hw64, hmi]
   obtain ⟨D, hD0, hDz, hDD, hdr⟩ := page_cut (T := T) (B := B) Hpl.out hkz hm hBP
   have Htot2 : Hid (ops ++ .wr (frm + 2 + i) D :: wrsP ⟨⟨z, pages, cache, left⟩, frm, til, ver, recs⟩ f (a + m) ((T.extract m T.size).data.toList) = tot) := by
    refine Lib.hid ?_
    rw [← Htot.out, hD0, hdr, len_size, hm]
   clear hki hw64 hmi hsub hii hk hi
   refine wp_region_lz 17 2 #[true, true, true, true, true, true, true, true, true, true, true, true, true, true, true, true, true, false, false] (fun j => if j = 15 then some (annOp (.wr (frm + 2 + i) D)) else if j = 16 then some (annOps [.wr (frm + 2 + i) D] 1) else none) (by kernel_rfl) (by rfl) (by rfl) (by kernel_rfl) ?_
   simp only [List.take_succ_cons, List.take_zero]
   have hTi : T.size ≤ 2000000 := by have := Hb.out; have := Hab.out; omega
   have hal : a ≤ 1024000 := by have := Hb.out; have := Hab.out; omega
   refine LW.block 15 15 (by rfl) (by kernel_rfl) (by kernel_rfl) ?_
   simp only [List.take_succ_cons, List.take_zero, List.drop_succ_cons, List.drop_zero]
   repeat (first | go_big_quiet_skip | (go_big_quiet_want; go_big_quiet_op; go_big_quiet_on))
   refine wpQuiet_nil ?_
   refine LW.lzy _ (by rfl) (by rfl) ?_ ?_
   ·
    intro yL _
    unfold lzAt
    go_simp
    exact lz_op (pl_write _ _ _ (by omega))
   intro r15
   simp only [Act.put, List.setIfInBounds_toArray, List.set_cons_zero, List.set_cons_succ]
   refine LW.lzy _ (by rfl) (by rfl) ?_ ?_
   ·
    intro yL hf
    have hx : OpV yL.w (r15.x 0) (.wr (frm + 2 + i) D) := (hf 15 (by decide +kernel)).get (by rfl) (by rfl)
    have hx' := hx
    obtain ⟨bi, bd, e, _, _, _⟩ := hx
    have e' : (annOp (.wr (frm + 2 + i) D)).f r15 = .func (.func 83) #[] #[.pointer (some ⟨bi, 0, none⟩), .pointer (some ⟨bd, 0, none⟩)] := e
    rw [e']
    unfold lzAt
    go_simp
    refine ⟨Below.one _ _, fun _ => undef, rfl, fun w'' hb => ?_⟩
    have hX := (Bx.new yL.w #[.func (.func 83) #[] #[.pointer (some ⟨bi, 0, none⟩), .pointer (some ⟨bd, 0, none⟩)]] 77).belowAll hb
    refine OpsAt.bx (vs := [.func (.func 83) #[] #[.pointer (some ⟨bi, 0, none⟩), .pointer (some ⟨bd, 0, none⟩)]]) hX rfl ?_
    intro j h1 h2
    rcases j with _ | j
    ·
     have := (hx'.below (Below.one _ _)).below hb
     rw [e] at this
     exact this
    ·
     exact absurd h2 (by simp)
   intro r16
   simp only [Act.put, List.setIfInBounds_toArray, List.set_cons_zero, List.set_cons_succ]
   refine LW.done ?_
   intro w2 hG
   have hR : OpsAt w2 (some ⟨r16.lo, 0, none⟩) [.wr (frm + 2 + i) D] := hG.get 16 rfl rfl
   obtain ⟨us, hus, hul⟩ := hR.row
   have hG2 := hG.below
   obtain ⟨vs, hv1, hv2⟩ := hown1.below hG2
   have y2 := y0.belowAll hG2
   have hB2 := btr hB1 hG2
   have hz2 := hB2.size
   have hul1 : us.length = 1 := hul.1
   have hone : ∀ u ∈ us, u.oneCell' = true := by
    intro u hu
    obtain ⟨j, hj, rfl⟩ := List.getElem_of_mem hu
    have h1 : j < 1 := by omega
    obtain rfl : j = 0 := by omega
    obtain ⟨bi, bd, e, _⟩ := hul.2 0 (by simp) hj
    rw [e]
    rfl
   clear hR hG cX lX hG2
   simp only [annOps, annOp]
   refine wpAny_ready (rs := [17]) (by kernel_rfl) (by simp) ?_
   refine AllReady.cons rfl (fun K hK => ?_) AllReady.nil
   refine wp_app (.tmp 44) (.tmp 60) 58 rfl w.heap.size 77 io _ 1 8 Tryz.underlying58 Hio.out.1 Hio.out.2.1 Hio.out.2.2.1 Hio.out.2.2.2 rfl (by decide) u7 ops.length vs rfl hv1 (some ⟨r16.lo, 0, none⟩) 1 1 us rfl (fun h => by cases h) (by omega) hus hone (by unfold maxLen; omega) (by omega) hz2 ?_
   intro v5 w5 ho5 hg5
   refine hK _ _ ?_
   clear hK K
   refine wpAny_ready (rs := [18]) (by kernel_rfl) (by simp) ?_
   refine AllReady.cons rfl (fun K hK => ?_) AllReady.nil
   go_simp
   refine hK _ _ ?_
   clear hK K
   refine wpAny_done (by kernel_rfl) ?_ _
   have hul5 : OpL w5 (vs ++ us) (ops ++ [.wr (frm + 2 + i) D]) := (OpL.app hv2 hul).grown hv1 hg5
   have y5 := y2.grown hg5 (fun e => ownsRow_ne_bx hv1 y2 (by decide) e.symm)
   have hB5 := hB2.grown hg5 hz2 (fun b e => (hv1.lt b e).1)
   have hown5 : OpsOwn w5 w.heap.size v5 (ops ++ [.wr (frm + 2 + i) D]) := ⟨vs ++ us, by rw [List.length_append]; exact ho5, hul5⟩
   have Hown5 := Lib.hid hown5
   have HB5 := Lib.hid hB5
   have Hy5 := Lib.hid y5
   clear ho5 hg5 hul5 y5 hB5 hown5 hv1 hv2 hul hus y2 hB2 hown1 y0 hB1 hB hz2 hDD
   have hbm : (a : Int) + (m : Int) ≤ 1024000 := by have := Hb.out; have := Hab.out; omega
   go_wp2
   go_quiet (fail)
   go_wp2
   go_roundw
   case rel =>
    refine ⟨a + m, f, T.extract m T.size, ops ++ [.wr (frm + 2 + i) D], by go_num, rfl, OpsOwn.below Hown5.out (Below.drewN (Below.refl _ _) _), ?_, ?_, ?_, ?_, Below.drewN HB5.out _, Hy5.out.drewN _⟩
    ·
     simp; omega
    ·
     have := Hb.out; simp; omega
    ·
     simp; omega
    ·
     rw [List.append_assoc]; exact Htot2.out
   case measure => simp [szV]; omega
  ·
   have hT0' : T.size = 0 := by omega
   have hem := empty_bytes hT0'
   have hTn : T.data.toList = [] := List.eq_nil_of_length_eq_zero (by rw [len_size]; exact hT0')
   rw [hTn, wrsP_nil, List.append_nil] at htot
   subst htot
   clear hTn
   have HO := Lib.hid hown
   have HB := Lib.hid hB
   clear hown hB
   go_wp2
   go_ret
   exact ⟨_, rfl, HO.out, by first | exact HB.out | (rw [← hN]; exact HB.out)⟩
end Go.Proofs.YtghikgjknhjjgaaGreatDoor
namespace Go.Proofs.YtghikgjknhjjgaaGreatDoor
set_option maxRecDepth 100000
open Go.RowKit Go.Shelf
set_option maxRecDepth 100000 in
set_option maxHeartbeats 1000000 in
theorem pl_finish (l : Lg) (v : Value) (recs : List ByteArray) (ro' : Option Addr) (rc' : Nat) (ops : List DOp) (oo : Option Addr) (oc : Nat) (w : World) (hL : LgV w v l) (hsl' : SlW ro' recs.length rc') (hst' : StrsAt (· < w.heap.size) w ro' recs)
  (ho : OpsAt w oo ops) (hn : l.disk.cache.length + ops.length ≤ 1000000) (hv0 : 0 ≤ l.ver) (hv1 : l.ver ≤ 1099511627776) :
  Calls Tryz.prog 33 #[v, .slice ro' recs.length rc', .slice oo ops.length oc] w (RetLE w (finL l recs ops).1 (finL l recs ops).2) := by
 obtain ⟨po, pc, co, cc, ro, rc, rfl, hD, hsl, hst⟩ := hL
 obtain ⟨d, frm, til, ver, recs0⟩ := l
 simp only at hD hsl hst hn hv0 hv1
 obtain ⟨N, hN⟩ : ∃ N, w.heap.size = N := ⟨_, rfl⟩
 obtain ⟨W0, hW0⟩ : ∃ W0, (w.alloc (.cells (lgC d po co pc cc frm til ver ro recs0.length rc) 27)).alloc (.cells lgZ 27) = W0 := ⟨_, rfl⟩
 have x0 : Bx W0 N (lgC d po co pc cc frm til ver ro recs0.length rc) 27 := by subst hW0 hN; exact (Bx.new w _ _).alloc _
 have x1 : Bx W0 (N + 1) lgZ 27 := by subst hW0 hN; exact Bx.newAt _ _ _ _ (by simp)
 have hB0 : Below w.heap.size w W0 := by subst hW0; exact (Below.one w _).alloc (by simp) _
 obtain ⟨A, er, he⟩ : ∃ A er, perfP d ops = (A, er) := ⟨_, _, rfl⟩
 have hp := pl_perform d _ ops oo oc W0 (hD.below hB0) (ho.below hB0) hn
 rw [he] at hp
 have Hp := Lib.hid hp
 have hfin : finL ⟨d, frm, til, ver, recs0⟩ recs ops = if er ≠ 0 then (⟨A, frm, til, ver, recs0⟩, er) else (⟨A, frm, til, ver + 1, recs⟩, 0) := by unfold finL; simp only; rw [he]
 obtain ⟨R, hR⟩ : ∃ R, finL ⟨d, frm, til, ver, recs0⟩ recs ops = R := ⟨_, rfl⟩
 rw [hR] at hfin ⊢
 have HR := Lib.hid hfin
 have Hst := Lib.hid hst
 have Hst' := Lib.hid hst'
 have Hsl := Lib.hid hsl
 have Hsl' := Lib.hid hsl'
 clear hp he hfin hR hD ho hst hst' hsl hsl'
 have c0 := x0.cell
 have l0 := x0.lt
 go_enter Tryz.func33, Tryz.ntmps33
 go_wp2_with fail
 refine Hp.out.mono ?_
 rintro e w1 ⟨v1, rfl, hM1, hb1⟩
 have hM2 := hM1
 obtain ⟨po1, pc1, co1, cc1, rfl⟩ := hM1.agg
 have y0 := x0.belowAll hb1
 have y1 := x1.belowAll hb1
 have hB1 := btr hB0 hb1
 have hz1 := hB1.size
 clear c0 l0 x0 x1 hW0
 have c0 := y0.cell
 have l0 := y0.lt
 have f0 := y0.free
 have c1 := y1.cell
 have l1 := y1.lt
 have f1 := y1.free
 have hw : wrap64 (ver + 1) = ver + 1 := IntWalk.wrap64_in _ (by omega)
 cases g : (er != 0)
 ·
  have ge : er = 0 := by simpa using g
  subst ge
  have hLg : LgV w1 (.agg (lgC A po1 co1 pc1 cc1 frm til (ver + 1) ro' recs.length rc')) ⟨A, frm, til, ver + 1, recs⟩ := ⟨po1, pc1, co1, cc1, ro', rc', rfl, hM2, Hsl'.out, (Hst'.out.below hB1).mono fun b hb => Nat.lt_of_lt_of_le hb hz1⟩
  obtain ⟨Wa, hWa⟩ : ∃ Wa, (st4 w1 N (.int .i64 A.size) (.slice po1 A.pages.length pc1) (.slice co1 A.cache.length cc1) (.int .i64 A.left) |>.setCell ⟨N, 6, none⟩ (.int .i64 (ver + 1))).setCell ⟨N, 7, none⟩ (.slice ro' recs.length rc') = Wa := ⟨_, rfl⟩
  have hOa : Only N w1 Wa := by subst hWa; exact (only_st4.set 6 _).set 7 _
  have hBa : Below w.heap.size w Wa := by subst hWa; exact below_set1 (b := N) (below_set1 (b := N) (below_st4 hB1 (by omega)) (by omega)) (by omega)
  obtain ⟨Wf, hWf⟩ : ∃ Wf, (st8 Wa (N + 1) (.int .i64 A.size) (.slice po1 A.pages.length pc1) (.slice co1 A.cache.length cc1) (.int .i64 A.left) (.int .i64 frm) (.int .i64 til) (.int .i64 (ver + 1)) (.slice ro' recs.length rc')).alloc (.cells (dC A po1 co1 pc1 cc1) 25) = Wf := ⟨_, rfl⟩
  have ya := y1.only hOa (by omega)
  have zR : Bx Wf (N + 1) (lgC A po1 co1 pc1 cc1 frm til (ver + 1) ro' recs.length rc') 27 := by subst hWf; exact ya.set8.alloc _
  have zB : Below w.heap.size w Wf := by subst hWf; exact (below_set8 hBa (by omega)).alloc (by rw [size_set8]; have := hOa.1; omega) _
  have zL : LgV Wf (.agg (lgC A po1 co1 pc1 cc1 frm til (ver + 1) ro' recs.length rc')) ⟨A, frm, til, ver + 1, recs⟩ := by subst hWf; exact ((hLg.only y0 (noS_lg _ _ _ _ _ _ _ _ _ _ _ _ _ _) hOa).only ya (noS_lg _ _ _ _ _ _ _ _ _ _ _ _ _ _) Only.eight).below (Below.one _ _)
  have HWa := Lib.hid hWa
  have HWf := Lib.hid hWf
  have HB := Lib.hid zB
  have HL := Lib.hid zL
  clear hWf hWa zB zL ya hOa hBa hLg hM1 hM2 hB1 hB0 hb1
  go_wp2
  have HW := HWf.out
  rw [← HWa.out] at HW
  unfold st4 st8 at HW
  rw [HW]
  have cZ := zR.cell
  refine bodyPost_ret (v := .tuple #[.agg (lgC A po1 co1 pc1 cc1 frm til (ver + 1) ro' recs.length rc'), .int .i64 0]) (by simp [results, Tryz.results33, go_sem, cZ]) rfl ?_
  rw [HR.out, if_neg (by simp)]
  exact ⟨_, rfl, HL.out, HB.out⟩
 ·
  have ge : er ≠ 0 := by simpa using g
  have hLg : LgV w1 (.agg (lgC A po1 co1 pc1 cc1 frm til ver ro recs0.length rc)) ⟨A, frm, til, ver, recs0⟩ := ⟨po1, pc1, co1, cc1, ro, rc, rfl, hM2, Hsl.out, (Hst.out.below hB1).mono fun b hb => Nat.lt_of_lt_of_le hb hz1⟩
  obtain ⟨Wf, hWf⟩ : ∃ Wf, (st8 (st4 w1 N (.int .i64 A.size) (.slice po1 A.pages.length pc1) (.slice co1 A.cache.length cc1) (.int .i64 A.left)) (N + 1) (.int .i64 A.size) (.slice po1 A.pages.length pc1) (.slice co1 A.cache.length cc1) (.int .i64 A.left) (.int .i64 frm) (.int .i64 til) (.int .i64 ver) (.slice ro recs0.length rc)).alloc (.cells (dC A po1 co1 pc1 cc1) 25) = Wf := ⟨_, rfl⟩
  have ya := y1.only (r := N) (only_st4 (v0 := .int .i64 A.size) (v1 := .slice po1 A.pages.length pc1) (v2 := .slice co1 A.cache.length cc1) (v3 := .int .i64 A.left)) (by omega)
  have zR : Bx Wf (N + 1) (lgC A po1 co1 pc1 cc1 frm til ver ro recs0.length rc) 27 := by subst hWf; exact ya.set8.alloc _
  have zB : Below w.heap.size w Wf := by subst hWf; exact (below_set8 (below_st4 hB1 (by omega)) (by omega)).alloc (by rw [size_set8, size_st4]; omega) _
  have zL : LgV Wf (.agg (lgC A po1 co1 pc1 cc1 frm til ver ro recs0.length rc)) ⟨A, frm, til, ver, recs0⟩ := by subst hWf; exact ((hLg.only y0 (noS_lg _ _ _ _ _ _ _ _ _ _ _ _ _ _) only_st4).only ya (noS_lg _ _ _ _ _ _ _ _ _ _ _ _ _ _) Only.eight).below (Below.one _ _)
  have HWf := Lib.hid hWf
  have HB := Lib.hid zB
  have HL := Lib.hid zL
  clear hWf zB zL ya hLg hM1 hM2 hB1 hB0 hb1
  go_wp2
  have HW := HWf.out
  unfold st4 st8 at HW
  rw [HW]
  have cZ := zR.cell
  refine bodyPost_ret (v := .tuple #[.agg (lgC A po1 co1 pc1 cc1 frm til ver ro recs0.length rc), .int .i64 er]) (by simp [results, Tryz.results33, go_sem, cZ]) rfl ?_
  rw [HR.out, if_pos ge]
  exact ⟨_, rfl, HL.out, HB.out⟩
end Go.Proofs.YtghikgjknhjjgaaGreatDoor
