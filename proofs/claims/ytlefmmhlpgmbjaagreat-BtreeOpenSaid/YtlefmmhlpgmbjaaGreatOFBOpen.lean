/- The statement of law BtreeOpen: for every input the call returns true, and the arguments read as before. No conditions. -/
import Derived.Test.YtlefmmhlpgmbjaaGreatRows
import Derived.Test.YtlefmmhlpgmbjaaGreatO31
import Derived.WalkKit
import Derived.ProofKit
import Derived.OpenShut
import Derived.Carry
import Derived.SizedLaws
import Derived.Test.YtlefmmhlpgmbjaaGreatO01
namespace Go.Proofs.YtlefmmhlpgmbjaaGreat.btreeOpen
set_option maxRecDepth 100000
open Go.ChangeShapes Go.WideShapes Go.ChangeAt Go.RowKit Go.Proofs.YtlefmmhlpgmbjaaGreat
theorem own : ownKnob Tryz.prog.godebug = none := by kernel_rfl
theorem laidOut : laidOutB Tryz.prog = true := by kernel_rfl
set_option maxRecDepth 100000 in
theorem lifted (os : Os) (started : os.Started) (H : Type) (enc : TypeId × Value -> H) :
  ReturnsInHanded {} Tryz.checked os 3 .any (Rows.btreeOpenSpec.pre6 enc Tryz.prog Tryz.f3 Rows.btreeOpenRow.domain false) (Rows.btreeOpenSpec.post enc Tryz.prog Tryz.f3 false true false false) := by
 refine returnsInHanded_of_change_sized (C := Tryz.checked) own started (by kernel_rfl) Tryz.func3
  (ChangeSpec.witness6 (enc := enc) (C := Tryz.checked) false ⟨#[], #[.agg #[.int .i64 0, .slice none 0 0, .slice none 0 0, .int .i64 0], .int .i64 0, .int .i64 0], []⟩ 8 (by kernel_rfl) (by kernel_rfl) (by kernel_rfl) (by kernel_rfl)) ?_
 intro W base args ds gs before hval0 hW _ hsz0 _;have hsz : (DataW.weightsEach Tryz.prog (Tryz.f3.params.toList ++ Rows.btreeOpenSpec.plain.varTypes Tryz.prog) (ds ++ gs)).all (· <= reachBytes) = true := hsz0;clear hsz0;have hval : ∀ (j : Nat) t v, Tryz.f3.params[j]? = some t -> args[j]? = some v -> Value.okWide Tryz.prog W .any base t v := hval0;have hW' := hW;obtain ⟨p, q, hA0, hV, rfl, _, _⟩ := hW;have hA : DataW.TrodAll enc Tryz.prog W 0 (fun _ => true) true Tryz.f3.params.toList args.toList ds p := hA0;rw [Tryz.params3] at hA hval hsz;obtain ⟨v0, vs0, d0, ds0, p0, q0, hargs, rfl, rfl, h0, r0⟩ := trodAll_cons hA;obtain ⟨v1, vs1, d1, ds1, p1, q1, rfl, rfl, rfl, h1, r1⟩ := trodAll_cons r0;obtain ⟨v2, vs2, d2, ds2, p2, q2, rfl, rfl, rfl, h2, r2⟩ := trodAll_cons r1;obtain ⟨rfl, rfl, rfl⟩ := trodAll_nil r2;obtain rfl : args = #[v0, v1, v2] := by cases args; simp_all
 obtain ⟨rfl, rfl⟩ := trodVars_none hV;clear hA0 hval0;simp only [List.append_nil] at hW';have hlt := fun x hx => hW'.lt x hx;have hsz' : ∀ j t d, #[25, 3, 3].toList[j]? = some t -> [d0, d1, d2][j]? = some d -> ∀ k ∈ DataW.weights Tryz.prog t d, k <= reachBytes := fun j t d ht hd k hk => of_decide_eq_true (List.all_eq_true.1 hsz k (DataW.weights_mem_each ht hd k hk));have hp0 : ∀ x ∈ p0, x.block < W.heap.size := fun x hx => hlt x (by simp [hx]);have hp1 : ∀ x ∈ p1, x.block < W.heap.size := fun x hx => hlt x (by simp [hx]);have hp2 : ∀ x ∈ p2, x.block < W.heap.size := fun x hx => hlt x (by simp [hx]);obtain ⟨x0, hD0⟩ := zj1 (hval 0 25 v0 rfl rfl) h0 (hsz' 0 _ _ rfl rfl);obtain ⟨x1, e1, _, _, w1⟩ := open_int Tryz.underlying3 (hval 1 3 v1 rfl rfl) h1;obtain ⟨x2, e2, _, _, w2⟩ := open_int Tryz.underlying3 (hval 2 3 v2 rfl rfl) h2;have hc : Calls Tryz.prog 3 #[v0, v1, v2] W fun e W' => e = .returned (.bool true) /\ Below W.heap.size W W' := by rw [e1, e2];exact zjr W x0 v0 hD0 x1 x2
 refine hc.mono fun e W' ⟨he, hb⟩ => ?_;subst he;refine ⟨_, rfl, _, _, _, [], (p0 ++ (p1 ++ (p2 ++ []))), [], hW', ?_, ?_, rfl, hb.frame _, fun h => by cases h⟩
 . exact trodAll_cons_mk (shut_bool Tryz.underlying4 _) trodAll_mk0
 . exact (trodAll_cons_mk (Below.trod laidOut (by kernel_rfl) (of_decide_eq_true (by kernel_rfl)) h0 hb hp0) (trodAll_cons_mk (Below.trod laidOut (by kernel_rfl) (of_decide_eq_true (by kernel_rfl)) h1 hb hp1) (trodAll_cons_mk (Below.trod laidOut (by kernel_rfl) (of_decide_eq_true (by kernel_rfl)) h2 hb hp2) trodAll_mk0)))
theorem proved : Rows.BtreeOpenSaid :=
 OpenClaim.holds_of_wide 3 Tryz.f3 rfl rfl rfl rfl rfl rfl rfl ⟨rfl, rfl, rfl, rfl, rfl⟩ rfl rfl rfl rfl rfl (by kernel_rfl) Tryz.func3 (by kernel_rfl)
  (of_decide_eq_true (by kernel_rfl)) (by unfold Func.isWrapper; first | (rw [if_pos (by decide +kernel)]; kernel_rfl) | (rw [if_neg (by decide +kernel)]; exact ⟨rfl, rfl⟩))
  (fun os started H enc _ => lifted os started H enc)
#print axioms proved
end Go.Proofs.YtlefmmhlpgmbjaaGreat.btreeOpen
