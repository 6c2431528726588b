/- The statement of law BtreeElsewhere: for every input the call returns true, and the arguments read as before. No conditions. -/
import Derived.Test.YtlefmmhlpgmbjaaGreatRows
import Derived.Test.YtlefmmhlpgmbjaaGreatQ37
import Derived.Test.YtlefmmhlpgmbjaaGreatQ30
import Derived.WalkKit
import Derived.ProofKit
import Derived.OpenShut
import Derived.Carry
import Derived.SizedLaws
import Derived.Test.YtlefmmhlpgmbjaaGreatQ01
namespace Go.Proofs.YtlefmmhlpgmbjaaGreat.btreeElsewhere
set_option maxRecDepth 100000
open Go.ChangeShapes Go.WideShapes Go.ChangeAt Go.RowKit Go.Proofs.YtlefmmhlpgmbjaaGreat
theorem own : ownKnob Tryz.prog.godebug = none := by kernel_rfl
theorem laidOut : laidOutB Tryz.prog = true := by kernel_rfl
set_option maxRecDepth 100000 in
theorem lifted (os : Os) (started : os.Started) (H : Type) (enc : TypeId × Value -> H) :
  ReturnsInHanded {} Tryz.checked os 10 .any (Rows.btreeElsewhereSpec.pre6 enc Tryz.prog Tryz.f10 Rows.btreeElsewhereRow.domain false) (Rows.btreeElsewhereSpec.post enc Tryz.prog Tryz.f10 false true false false) := by
 refine returnsInHanded_of_change_sized (C := Tryz.checked) own started (by kernel_rfl) Tryz.func10
  (ChangeSpec.witness6 (enc := enc) (C := Tryz.checked) false ⟨#[], #[.agg #[.int .i64 0, .int .i64 0, .int .i64 0, .slice none 0 0]], []⟩ 8 (by kernel_rfl) (by kernel_rfl) (by kernel_rfl) (by kernel_rfl)) ?_
 intro W base args ds gs before hval0 hW _ hsz0 _
 have hsz : (DataW.weightsEach Tryz.prog (Tryz.f10.params.toList ++ Rows.btreeElsewhereSpec.plain.varTypes Tryz.prog) (ds ++ gs)).all (· <= reachBytes) = true := hsz0
 clear hsz0
 have hval : ∀ (j : Nat) t v, Tryz.f10.params[j]? = some t -> args[j]? = some v -> Value.okWide Tryz.prog W .any base t v := hval0
 have hW' := hW
 obtain ⟨p, q, hA0, hV, rfl, _, _⟩ := hW
 have hA : DataW.TrodAll enc Tryz.prog W 0 (fun _ => true) true Tryz.f10.params.toList args.toList ds p := hA0
 rw [Tryz.params10] at hA hval hsz
 obtain ⟨v0, vs0, d0, ds0, p0, q0, hargs, rfl, rfl, h0, r0⟩ := trodAll_cons hA
 obtain ⟨rfl, rfl, rfl⟩ := trodAll_nil r0
 obtain rfl : args = #[v0] := by cases args; simp_all
 obtain ⟨rfl, rfl⟩ := trodVars_none hV
 clear hA0 hval0
 simp only [List.append_nil] at hW'
 have hlt := fun x hx => hW'.lt x hx
 have hsz' : ∀ j t d, #[49].toList[j]? = some t -> [d0][j]? = some d -> ∀ k ∈ DataW.weights Tryz.prog t d, k <= reachBytes := fun j t d ht hd k hk => of_decide_eq_true (List.all_eq_true.1 hsz k (DataW.weights_mem_each ht hd k hk))
 have hp0 : ∀ x ∈ p0, x.block < W.heap.size := fun x hx => hlt x (by simp [hx])
 obtain ⟨a0, f0, t0, x0, o0, c0, e0, k0, s0⟩ := open_run (hval 0 49 v0 rfl rfl) h0 (hsz' 0 _ _ rfl rfl)
 have hc : Calls Tryz.prog 10 #[v0] W fun e W' => e = .returned (.bool true) /\ Below W.heap.size W W' := by
  rw [e0]
  exact law42_else W a0 f0 t0 x0 o0 c0 k0 s0
 refine hc.mono fun e W' ⟨he, hb⟩ => ?_
 subst he
 refine ⟨_, rfl, _, _, _, [], (p0 ++ []), [], hW', ?_, ?_, rfl, hb.frame _, fun h => by cases h⟩
 .
  exact trodAll_cons_mk (shut_bool Tryz.underlying4 _) trodAll_mk0
 .
  exact (trodAll_cons_mk (Below.trod laidOut (by kernel_rfl) (of_decide_eq_true (by kernel_rfl)) h0 hb hp0) trodAll_mk0)
theorem proved : Rows.BtreeElsewhereSaid :=
 OpenClaim.holds_of_wide 10 Tryz.f10 rfl rfl rfl rfl rfl rfl rfl ⟨rfl, rfl, rfl, rfl, rfl⟩ rfl rfl rfl rfl rfl (by kernel_rfl) Tryz.func10 (by kernel_rfl)
  (of_decide_eq_true (by kernel_rfl)) (by unfold Func.isWrapper; first | (rw [if_pos (by decide +kernel)]; kernel_rfl) | (rw [if_neg (by decide +kernel)]; exact ⟨rfl, rfl⟩))
  (fun os started H enc _ => lifted os started H enc)
#print axioms proved
end Go.Proofs.YtlefmmhlpgmbjaaGreat.btreeElsewhere
