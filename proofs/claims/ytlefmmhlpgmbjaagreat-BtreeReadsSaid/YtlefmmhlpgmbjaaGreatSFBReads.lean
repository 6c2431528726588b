/- The statement of law BtreeReads: for every input the call returns true, and the arguments read as before. No conditions. -/
import Derived.Test.YtlefmmhlpgmbjaaGreatRows
import Derived.Test.YtlefmmhlpgmbjaaGreatS30
import Derived.WalkKit
import Derived.ProofKit
import Derived.OpenShut
import Derived.Carry
import Derived.SizedLaws
import Derived.Test.YtlefmmhlpgmbjaaGreatS01
namespace Go.Proofs.YtlefmmhlpgmbjaaGreat.btreeReads
set_option maxRecDepth 100000
open Go.ChangeShapes Go.WideShapes Go.ChangeAt Go.RowKit Go.Proofs.YtlefmmhlpgmbjaaGreat
theorem own : ownKnob Tryz.prog.godebug = none := by kernel_rfl
theorem laidOut : laidOutB Tryz.prog = true := by kernel_rfl
set_option maxRecDepth 100000 in
theorem lifted (os : Os) (started : os.Started) (H : Type) (enc : TypeId × Value -> H) :
  ReturnsInHanded {} Tryz.checked os 4 .any (Rows.btreeReadsSpec.pre6 enc Tryz.prog Tryz.f4 Rows.btreeReadsRow.domain false) (Rows.btreeReadsSpec.post enc Tryz.prog Tryz.f4 false true false false) := by
 refine returnsInHanded_of_change_sized (C := Tryz.checked) own started (by kernel_rfl) Tryz.func4
  (ChangeSpec.witness6 (enc := enc) (C := Tryz.checked) false ⟨#[], #[.agg #[.int .i64 0, .slice none 0 0, .slice none 0 0, .int .i64 0, .int .i64 0, .int .i64 0, .int .i64 0, .int .i64 0, .slice none 0 0], .string ⟨#[]⟩, .string ⟨#[]⟩], []⟩ 8 (by kernel_rfl) (by kernel_rfl) (by kernel_rfl) (by kernel_rfl)) ?_
 intro W base args ds gs before hval0 hW _ hsz0 _;have hsz : (DataW.weightsEach Tryz.prog (Tryz.f4.params.toList ++ Rows.btreeReadsSpec.plain.varTypes Tryz.prog) (ds ++ gs)).all (· <= reachBytes) = true := hsz0;clear hsz0;have hval : ∀ (j : Nat) t v, Tryz.f4.params[j]? = some t -> args[j]? = some v -> Value.okWide Tryz.prog W .any base t v := hval0;have hW' := hW;obtain ⟨p, q, hA0, hV, rfl, _, _⟩ := hW;have hA : DataW.TrodAll enc Tryz.prog W 0 (fun _ => true) true Tryz.f4.params.toList args.toList ds p := hA0;rw [Tryz.params4] at hA hval hsz;obtain ⟨v0, vs0, d0, ds0, p0, q0, hargs, rfl, rfl, h0, r0⟩ := trodAll_cons hA;obtain ⟨v1, vs1, d1, ds1, p1, q1, rfl, rfl, rfl, h1, r1⟩ := trodAll_cons r0;obtain ⟨v2, vs2, d2, ds2, p2, q2, rfl, rfl, rfl, h2, r2⟩ := trodAll_cons r1;obtain ⟨rfl, rfl, rfl⟩ := trodAll_nil r2;obtain rfl : args = #[v0, v1, v2] := by cases args; simp_all
 obtain ⟨rfl, rfl⟩ := trodVars_none hV;clear hA0 hval0;simp only [List.append_nil] at hW';have hlt := fun x hx => hW'.lt x hx;have hsz' : ∀ j t d, #[33, 9, 9].toList[j]? = some t -> [d0, d1, d2][j]? = some d -> ∀ k ∈ DataW.weights Tryz.prog t d, k <= reachBytes := fun j t d ht hd k hk => of_decide_eq_true (List.all_eq_true.1 hsz k (DataW.weights_mem_each ht hd k hk));have hp0 : ∀ x ∈ p0, x.block < W.heap.size := fun x hx => hlt x (by simp [hx]);have hp1 : ∀ x ∈ p1, x.block < W.heap.size := fun x hx => hlt x (by simp [hx]);have hp2 : ∀ x ∈ p2, x.block < W.heap.size := fun x hx => hlt x (by simp [hx]);obtain ⟨x0, hD0⟩ := zi2 (hval 0 33 v0 rfl rfl) h0 (hsz' 0 _ _ rfl rfl);obtain ⟨x1, e1, l1⟩ := zio (hval 1 9 v1 rfl rfl) h1 (hsz' 1 _ _ rfl rfl);obtain ⟨x2, e2, l2⟩ := zio (hval 2 9 v2 rfl rfl) h2 (hsz' 2 _ _ rfl rfl);have hc : Calls Tryz.prog 4 #[v0, v1, v2] W fun e W' => e = .returned (.bool true) /\ Below W.heap.size W W' := by rw [e1, e2];exact zhK W x0 v0 hD0 x1 x2
 refine hc.mono fun e W' ⟨he, hb⟩ => ?_;subst he;refine ⟨_, rfl, _, _, _, [], (p0 ++ (p1 ++ (p2 ++ []))), [], hW', ?_, ?_, rfl, hb.frame _, fun h => by cases h⟩
 . exact trodAll_cons_mk (shut_bool Tryz.underlying4 _) trodAll_mk0
 . exact (trodAll_cons_mk (Below.trod laidOut (by kernel_rfl) (of_decide_eq_true (by kernel_rfl)) h0 hb hp0) (trodAll_cons_mk (Below.trod laidOut (by kernel_rfl) (of_decide_eq_true (by kernel_rfl)) h1 hb hp1) (trodAll_cons_mk (Below.trod laidOut (by kernel_rfl) (of_decide_eq_true (by kernel_rfl)) h2 hb hp2) trodAll_mk0)))
theorem proved : Rows.BtreeReadsSaid :=
 OpenClaim.holds_of_wide 4 Tryz.f4 rfl rfl rfl rfl rfl rfl rfl ⟨rfl, rfl, rfl, rfl, rfl⟩ rfl rfl rfl rfl rfl (by kernel_rfl) Tryz.func4 (by kernel_rfl)
  (of_decide_eq_true (by kernel_rfl)) (by unfold Func.isWrapper; first | (rw [if_pos (by decide +kernel)]; kernel_rfl) | (rw [if_neg (by decide +kernel)]; exact ⟨rfl, rfl⟩))
  (fun os started H enc _ => lifted os started H enc)
#print axioms proved
end Go.Proofs.YtlefmmhlpgmbjaaGreat.btreeReads
