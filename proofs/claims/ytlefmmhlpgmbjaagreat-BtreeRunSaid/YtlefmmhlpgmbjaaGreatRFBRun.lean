/- The statement of law BtreeRun: for every input the call returns true, and the arguments read as before. No conditions. -/
import Derived.Test.YtlefmmhlpgmbjaaGreatRows
import Derived.Test.YtlefmmhlpgmbjaaGreatR16
import Derived.WalkKit
import Derived.ProofKit
import Derived.OpenShut
import Derived.Carry
import Derived.SizedLaws
import Derived.Test.YtlefmmhlpgmbjaaGreatR01
namespace Go.Proofs.YtlefmmhlpgmbjaaGreat.btreeRun
set_option maxRecDepth 100000
open Go.ChangeShapes Go.WideShapes Go.ChangeAt Go.RowKit Go.Proofs.YtlefmmhlpgmbjaaGreat
theorem own : ownKnob Tryz.prog.godebug = none := by kernel_rfl
theorem laidOut : laidOutB Tryz.prog = true := by kernel_rfl
set_option maxRecDepth 100000 in
theorem lifted (os : Os) (started : os.Started) (H : Type) (enc : TypeId × Value -> H) :
  ReturnsInHanded {} Tryz.checked os 5 .any (Rows.btreeRunSpec.pre6 enc Tryz.prog Tryz.f5 Rows.btreeRunRow.domain false) (Rows.btreeRunSpec.post enc Tryz.prog Tryz.f5 false true false false) := by
 refine returnsInHanded_of_change_sized (C := Tryz.checked) own started (by kernel_rfl) Tryz.func5
  (ChangeSpec.witness6 (enc := enc) (C := Tryz.checked) false ⟨#[], #[.agg #[.int .i64 0, .int .i64 0, .int .i64 0, .slice none 0 0]], []⟩ 8 (by kernel_rfl) (by kernel_rfl) (by kernel_rfl) (by kernel_rfl)) ?_
 intro W gM args ds gs before vD hW _ yD _;have hsz : (DataW.weightsEach Tryz.prog (Tryz.f5.params.toList ++ Rows.btreeRunSpec.plain.varTypes Tryz.prog) (ds ++ gs)).all (· <= reachBytes) = true := yD;clear yD;have hval : ∀ (j : Nat) t v, Tryz.f5.params[j]? = some t -> args[j]? = some v -> Value.okWide Tryz.prog W .any gM t v := vD;have CJ := hW;obtain ⟨p, q, Hn, hV, rfl, _, _⟩ := hW;have hA : DataW.TrodAll enc Tryz.prog W 0 (fun _ => true) true Tryz.f5.params.toList args.toList ds p := Hn;rw [Tryz.params5] at hA hval hsz;obtain ⟨v0, Pw, d0, Px, p0, q0, Ho, rfl, rfl, h0, r0⟩ := trodAll_cons hA;obtain ⟨rfl, rfl, rfl⟩ := trodAll_nil r0;obtain rfl : args = #[v0] := by cases args; simp_all
 obtain ⟨rfl, rfl⟩ := trodVars_none hV;clear Hn vD;simp only [List.append_nil] at CJ;have hlt := fun x hx => CJ.lt x hx;have hsz' : ∀ j t d, #[49].toList[j]? = some t -> [d0][j]? = some d -> ∀ k ∈ DataW.weights Tryz.prog t d, k <= reachBytes := fun j t d ht hd k hk => of_decide_eq_true (List.all_eq_true.1 hsz k (DataW.weights_mem_each ht hd k hk));have Pv : ∀ x ∈ p0, x.block < W.heap.size := fun x hx => hlt x (by simp [hx]);obtain ⟨a0, f0, t0, x0, o0, c0, e0, k0, s0⟩ := Pt (hval 0 49 v0 rfl rfl) h0 (hsz' 0 _ _ rfl rfl);have hc : Calls Tryz.prog 5 #[v0] W fun e W' => e = .returned (.bool true) /\ Below W.heap.size W W' := by rw [e0];exact O1 W a0 f0 t0 x0 o0 c0 k0 s0
 refine hc.mono fun e W' ⟨he, hb⟩ => ?_;subst he;refine ⟨_, rfl, _, _, _, [], (p0 ++ []), [], CJ, ?_, ?_, rfl, hb.frame _, fun h => by cases h⟩;. exact trodAll_cons_mk (shut_bool Tryz.underlying4 _) trodAll_mk0
 . exact (trodAll_cons_mk (Below.trod laidOut (by kernel_rfl) (of_decide_eq_true (by kernel_rfl)) h0 hb Pv) trodAll_mk0)
theorem proved : Rows.BtreeRunSaid :=
 OpenClaim.holds_of_wide 5 Tryz.f5 rfl rfl rfl rfl rfl rfl rfl ⟨rfl, rfl, rfl, rfl, rfl⟩ rfl rfl rfl rfl rfl (by kernel_rfl) Tryz.func5 (by kernel_rfl)
  (of_decide_eq_true (by kernel_rfl)) (by unfold Func.isWrapper; first | (rw [if_pos (by decide +kernel)]; kernel_rfl) | (rw [if_neg (by decide +kernel)]; exact ⟨rfl, rfl⟩))
  (fun os started H enc _ => lifted os started H enc)
#print axioms proved
end Go.Proofs.YtlefmmhlpgmbjaaGreat.btreeRun
