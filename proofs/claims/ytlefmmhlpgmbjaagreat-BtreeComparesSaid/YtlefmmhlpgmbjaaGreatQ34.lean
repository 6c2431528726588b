/- quiltref42.Same of two values of one index. -/
import Derived.Test.YtlefmmhlpgmbjaaGreatQ23
import Derived.Test.YtlefmmhlpgmbjaaGreatQ05
import Derived.Test.YtlefmmhlpgmbjaaGreatQ08
import Derived.Test.YtlefmmhlpgmbjaaGreatQ01
namespace Go.Proofs.YtlefmmhlpgmbjaaGreat
set_option maxRecDepth 100000
open Go.RowKit
set_option maxRecDepth 100000 in
set_option maxHeartbeats 2000000 in
theorem rb_SameX (x : Ix) (va vb : Value) (w : World) (ha : IxV w va x) (hb : IxV w vb x) :
  Calls Tryz.prog 19 #[va, vb] w fun e w' => e = .returned (.bool true) /\ Below w.heap.size w w' := by
 obtain ⟨po, pc, co, cc, fo, fc, rfl, hD, hs, hi⟩ := ha
 obtain ⟨qo, qc, ro, rc, so, sc, rfl, hE, hs2, hi2⟩ := hb
 obtain ⟨N, hN⟩ : ∃ N, w.heap.size = N := ⟨_, rfl⟩
 obtain ⟨W2, hW2⟩ : ∃ W2, (w.alloc (.cells (ixC x.disk po co pc cc x.frm x.til x.ver x.root fo x.free.length fc) 33)).alloc (.cells (ixC x.disk qo ro qc rc x.frm x.til x.ver x.root so x.free.length sc) 33) = W2 := ⟨_, rfl⟩
 have x0 : Bx W2 N (ixC x.disk po co pc cc x.frm x.til x.ver x.root fo x.free.length fc) 33 := by subst hW2 hN; exact (Bx.new w _ _).alloc _
 have x1 : Bx W2 (N + 1) (ixC x.disk qo ro qc rc x.frm x.til x.ver x.root so x.free.length sc) 33 := by subst hW2 hN; exact Bx.newAt _ _ _ _ (by simp)
 have hB2 : Below w.heap.size w W2 := by subst hW2; exact (Below.one w _).alloc (by simp) _
 have Hd := zhI (v_same x.disk _ _ W2 (hD.below hB2) (hE.below hB2))
 have Hi : ∀ W, Below w.heap.size w W -> Calls Tryz.prog 58 #[.slice fo x.free.length fc, .slice so x.free.length sc] W fun e w' => e = .returned (.bool true) /\ Below W.heap.size W w' := by
  intro W hb
  have := rb_sameInts x.free x.free fo so fc sc W (IntsAt.below hi hb) (IntsAt.below hi2 hb) (slw_len hs) (slw_len hs2)
  rwa [show decide (x.free = x.free) = true by simp] at this
 have HI := zhI Hi
 have e1 : (x.frm == x.frm) = true := by simp
 have e2 : (x.til == x.til) = true := by simp
 have e3 : (x.ver == x.ver) = true := by simp
 have e4 : (x.root == x.root) = true := by simp
 clear Hi hD hE hs hs2 hi hi2
 have c0 := x0.cell
 have l0 := x0.lt
 have c1 := x1.cell
 have l1 := x1.lt
 unfold ixC at c0 c1
 go_enter Tryz.func19, Tryz.ntmps19
 go_wp2_with fail
 refine Hd.out.mono ?_
 rintro e w3 ⟨rfl, hb3⟩
 have x0 := x0.belowAll hb3
 have x1 := x1.belowAll hb3
 have hB3 := btr hB2 hb3
 clear c0 l0 c1 l1 Hd
 have c0 := x0.cell
 have l0 := x0.lt
 have c1 := x1.cell
 have l1 := x1.lt
 unfold ixC at c0 c1
 go_wp2_with fail
 refine (HI.out _ hB3).mono ?_
 rintro e w4 ⟨rfl, hb4⟩
 have hB4 := btr hB3 hb4
 clear c0 l0 c1 l1 x0 x1 HI
 go_wp2
 go_ret
 exact ⟨rfl, hB4⟩
end Go.Proofs.YtlefmmhlpgmbjaaGreat
