/- The statement of law PagelogRecords, as a tied card: for every input the call returns true, and the arguments read as before. The one table that is read (strconv's powers of ten) is tied to the program's text. No further conditions. -/
import Derived.Test.YtghikgjknhjjgaaDoorRows
import Derived.Test.YtghikgjknhjjgaaDoorCards
import Derived.Test.YtghikgjknhjjgaaDoorTie
import Derived.Test.YtghikgjknhjjgaaDoorQ18
import Derived.Test.YtghikgjknhjjgaaDoorQ19
import Derived.WalkKit
import Derived.ProofKit
import Derived.OpenShut
import Derived.Carry
import Derived.SizedLaws
import Derived.LaidMore
import Derived.Lay
import Derived.MakeChecks
import Derived.Lib.LaidTab
import Derived.Stop.LaidErr
import Derived.SevenTiedAt
import Derived.Stop.Joined
namespace Go.Proofs.YtghikgjknhjjgaaDoor.pagelogRecords
set_option maxRecDepth 100000
open Go.ChangeShapes Go.WideShapes Go.ChangeAt Go.RowKit Go.Proofs.YtghikgjknhjjgaaDoor
theorem own : ownKnob Tryd.prog.godebug = none := by kernel_rfl
theorem laidOut : laidOutB Tryd.prog = true := by kernel_rfl
theorem tab_eq : (Rows.laid_internal_strconv_uint64pow10 : DataW Unit) = Lib.tabData .u64 Lib.pow10Tab := by kernel_rfl
theorem tab_e1 : Tryd.prog.globalNamed "internal/strconv.uint64pow10" = some 0 := by kernel_rfl
theorem tab_e2 : (Tryd.prog.globals[0]?).map (·.type) = some 159 := by kernel_rfl
theorem tab_e5 : Tryd.prog.cellsOf 146 = 1 := by kernel_rfl
theorem tab_e6 : Tryd.prog.cellsOf 159 = 20 := by kernel_rfl
theorem tab_of_laid {W : World} (h : laidMetH Tryd.prog Rows.pagelogRecordsRow.laid W) : TabW W := by
 rw [MakeChecks.laidMetH_plain _ _ _ (by kernel_rfl)] at h
 have h1 : laidMet Tryd.prog [("math/bits.deBruijn32tab", Rows.laid_math_bits_deBruijn32tab), ("math/bits.deBruijn64tab", Rows.laid_math_bits_deBruijn64tab), ("internal/strconv.uint64pow10", Rows.laid_internal_strconv_uint64pow10)] W := h
 have h2 := laidMet.tail (laidMet.tail h1)
 rw [tab_eq] at h2
 exact Lib.tabIs_of_head tab_e1 tab_e2 Tryd.underlying159 Tryd.underlying146 tab_e5 tab_e6 h2
set_option maxRecDepth 100000 in
theorem lifted (os : Os) (started : os.Started) (H : Type) (enc : TypeId × Value → H) :
  ReturnsInHanded {} Tryd.checked os 3 .any (fun w args => (Rows.pagelogRecordsSpec.pre enc Tryd.prog Tryd.f3 Rows.pagelogRecordsRow.domain false w args ∧ laidMetH Tryd.prog Rows.pagelogRecordsRow.laid w) ∧ sizedMet enc Tryd.prog Tryd.f3 (OpenSpec.ofChange Rows.pagelogRecordsSpec) false w args)
   (Rows.pagelogRecordsSpec.post enc Tryd.prog Tryd.f3 false true false false) := by
 refine returnsInHanded_of_change_and (C := Tryd.checked) (X := fun w _ => laidMetH Tryd.prog Rows.pagelogRecordsRow.laid w) (fun _ _ _ hh h => h.of_heap hh) own started (by kernel_rfl) Tryd.func3
  (ChangeSpec.witness_shaped (enc := enc) (C := Tryd.checked) (os := os) (X := fun w _ => laidMetH Tryd.prog Rows.pagelogRecordsRow.laid w) false (World.laidAll Tryd.prog os Rows.pagelogRecordsRow.laid) #[.agg #[.int .i64 0, .int .i64 0, .int .i64 0, .int .i64 0, .slice none 0 0]] 8 (World.laidAll_os _ _ _)
   (World.shaped_of_ZipB (by kernel_rfl) (by kernel_rfl)) (by kernel_rfl) (by kernel_rfl) (by kernel_rfl)
   (by rw [MakeChecks.laidMetH_plain _ _ _ (by kernel_rfl)]; exact laidMet_laidAll _ (by kernel_rfl) (by kernel_rfl))) ?_
 intro W base args ds gs before hval0 hW _ hsz0 hL _
 have hsz : (DataW.weightsEach Tryd.prog (Tryd.f3.params.toList ++ Rows.pagelogRecordsSpec.plain.varTypes Tryd.prog) (ds ++ gs)).all (· ≤ reachBytes) = true := hsz0
 clear hsz0
 have hval : ∀ (j : Nat) t v, Tryd.f3.params[j]? = some t → args[j]? = some v → Value.okWide Tryd.prog W .any base t v := hval0
 have hT := tab_of_laid hL
 clear hL
 have hW' := hW
 obtain ⟨p, q, hA0, hV, rfl, _, _⟩ := hW
 have hA : DataW.TrodAll enc Tryd.prog W 0 (fun _ => true) true Tryd.f3.params.toList args.toList ds p := hA0
 rw [Tryd.params3] at hA hval hsz
 obtain ⟨v0, vs0, d0, ds0, p0, q0, hargs, rfl, rfl, h0, r0⟩ := trodAll_cons hA
 obtain ⟨rfl, rfl, rfl⟩ := trodAll_nil r0
 obtain rfl : args = #[v0] := by cases args; simp_all
 obtain ⟨rfl, rfl⟩ := trodVars_none hV
 clear hA0 hval0
 simp only [List.append_nil] at hW'
 have hlt := fun x hx => hW'.lt x hx
 have hsz' : ∀ j t d, #[24].toList[j]? = some t → [d0][j]? = some d → ∀ k ∈ DataW.weights Tryd.prog t d, k ≤ reachBytes := fun j t d ht hd k hk => of_decide_eq_true (List.all_eq_true.1 hsz k (DataW.weights_mem_each ht hd k hk))
 have hp0 : ∀ x ∈ p0, x.block < W.heap.size := fun x hx => hlt x (by simp [hx])
 obtain ⟨a0, b0, f0, t0, x0, o0, c0, e0, k0, s0⟩ := open_run (hval 0 24 v0 rfl rfl) h0 (hsz' 0 _ _ rfl rfl)
 have hc : Calls Tryd.prog 3 #[v0] W fun e W' => e = .returned (.bool true) ∧ Below W.heap.size W W' := by
  rw [e0]
  exact law41_records W a0 b0 f0 t0 x0 o0 c0 k0 s0 hT
 refine hc.mono fun e W' ⟨he, hb⟩ => ?_
 subst he
 refine ⟨_, rfl, _, _, _, [], (p0 ++ []), [], hW', ?_, ?_, rfl, hb.frame _, fun h => by cases h⟩
 ·
  exact trodAll_cons_mk (shut_bool Tryd.underlying4 _) trodAll_mk0
 ·
  exact (trodAll_cons_mk (Below.trod laidOut (by kernel_rfl) (of_decide_eq_true (by kernel_rfl)) h0 hb hp0) trodAll_mk0)
theorem said : Rows.PagelogRecordsSaid :=
 OpenClaim.holds_of_wide 3 Tryd.f3 rfl rfl rfl rfl rfl rfl rfl ⟨rfl, rfl, rfl, rfl, rfl⟩ rfl rfl rfl rfl rfl (by kernel_rfl) Tryd.func3 (by kernel_rfl)
  (of_decide_eq_true (by kernel_rfl)) (by unfold Func.isWrapper; first | (rw [if_pos (by decide +kernel)]; kernel_rfl) | (rw [if_neg (by decide +kernel)]; exact ⟨rfl, rfl⟩))
  (fun os started H enc _ => lifted os started H enc)
theorem proved : Rows.PagelogRecordsCardSaid :=
 Claim7.holds_tied_plain_at .later [] [.data, .data, .data] true Rows.pagelogRecordsCard.stood.harness true
  said (fun _ h => by cases h) (by kernel_rfl) (fun _ h => by cases h) pagelogRecords_row_tie rfl ⟨rfl, rfl⟩ (by kernel_rfl) rfl
  (fun f fn hf hfn => by
   obtain rfl : f = 3 := Option.some.inj ((show Tryd.prog.funcNamed "quilt/quiltlaw41.PagelogRecords" = some 3 by kernel_rfl).symm.trans hf) |>.symm
   obtain rfl : fn = Tryd.f3 := (Option.some.inj (Tryd.func3.symm.trans hfn)).symm
   exact ⟨by kernel_rfl, fun j t ht => by
    rw [Tryd.params3] at ht
    have hm : t ∈ [24] := by simpa using Array.mem_of_getElem? ht
    have hall : ([24].all fun u => !Tryd.prog.wantsStandIn u) = true := by kernel_rfl
    exact (show Tryd.prog.wantsStandIn t = false by simpa using List.all_eq_true.1 hall t hm)⟩)
  (by kernel_rfl)
#print axioms proved
end Go.Proofs.YtghikgjknhjjgaaDoor.pagelogRecords
