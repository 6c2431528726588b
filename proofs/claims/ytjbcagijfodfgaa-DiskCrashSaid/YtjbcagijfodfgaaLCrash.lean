/- law DiskCrash: the walk. -/
import Derived.Test.YtjbcagijfodfgaaLKit
import Derived.Test.YtjbcagijfodfgaaLat
namespace Go.Proofs.Ytjbcagijfodfgaa
open Go.RowKit

set_option maxHeartbeats 4000000 in
theorem law40_crash_eq (w : World) (d : Dsk) (v : Value) (hD : DskR (· < w.heap.size) w v d) (picks : List Int) (qo : Option Addr) (qc : Nat) (hq : IntsAt (· < w.heap.size) w qo picks) (hql : picks.length * 8 ≤ 140737488351232) (_hw : ∀ x ∈ picks, -9223372036854775808 ≤ x ∧ x ≤ 9223372036854775807) (hg : greatW d.pages d.cache = false) (hl : decide ((30 : Int) < (picks.length : Int)) = false) :
    Calls Try.prog 4 #[v, .slice qo picks.length qc] w fun e w' => e = .returned (.bool true) ∧ Below w.heap.size w w' := by
  have hS : InS (· < w.heap.size) w := fun _ h => h
  have hD0 := hD
  obtain ⟨po, pc, co, cc, rfl, hp, hc, ok⟩ := hD
  clear hp hc ok
  have hn := (great_false hg).2
  have hl' := of_decide_eq_false hl
  go_enter Try.func4, Try.ntmps4
  go_wp2_with fail
  obtain ⟨W0, hW0⟩ : ∃ W0, w.alloc (.cells #[.int .i64 d.size, .slice po d.pages.length pc, .slice co d.cache.length cc, .int .i64 d.left] 25) = W0 := ⟨_, rfl⟩
  have x0 := Bx.new w #[.int .i64 d.size, .slice po d.pages.length pc, .slice co d.cache.length cc, .int .i64 d.left] 25
  have hB0 := Below.one w (.cells #[.int .i64 d.size, .slice po d.pages.length pc, .slice co d.cache.length cc, .int .i64 d.left] 25)
  rw [hW0] at x0 hB0 ⊢
  clear hW0
  have hgr : ∀ W, Below W0.heap.size W0 W → Calls Try.prog 11 #[_] W fun e w' => e = .returned (.bool false) ∧ Below W.heap.size W w' := fun W h => great_b d _ W ((hD0.below hB0).below h) hg
  have hcr : ∀ W, Below W0.heap.size W0 W → Calls Try.prog 18 #[_, _] W (RetD (· < w.heap.size) W (crashD d picks)) := fun W h => disk_crash d _ picks qo qc W ((hS.below hB0).below h) ((hD0.below hB0).below h) ((hq.below hB0).below h) (by omega) (by omega)
  have hrr : ∀ W, Below W0.heap.size W0 W → Calls Try.prog 19 #[_, _] W (RetD (· < w.heap.size) W (crashD d picks)) := fun W h => ref40_crash d _ picks qo qc W ((hD0.below hB0).below h) ((hq.below hB0).below h) (by omega) (by omega)
  have hacc : Below W0.heap.size W0 W0 := Below.refl _ _
  have cX := x0.cell
  clear hD0 hq
  go_region_with (first
    | (go_at_call 11; refine (hgr _ (by first | exact hacc.drew | exact hacc)).mono ?_; rintro e W1 ⟨rfl, hb⟩; have hacc := (by first | exact hacc.drew.trans (hb.mono hacc.size) | exact hacc.trans (hb.mono hacc.size) : Below W0.heap.size W0 W1); have cX := (x0.belowAll hacc).cell)
    | (go_at_call 18; refine (hcr _ (by first | exact hacc.drew | exact hacc)).mono ?_; rintro e W1 ⟨v2, rfl, hN2, hb⟩; have hacc := (by first | exact hacc.drew.trans (hb.mono hacc.size) | exact hacc.trans (hb.mono hacc.size) : Below W0.heap.size W0 W1); have cX := (x0.belowAll hacc).cell)
    | (go_at_call 19; refine (hrr _ (by first | exact hacc.drew | exact hacc)).mono ?_; rintro e W1 ⟨v3, rfl, hN3, hb⟩; have hN2 := hN2.below hb; have hacc := (by first | exact hacc.drew.trans (hb.mono hacc.size) | exact hacc.trans (hb.mono hacc.size) : Below W0.heap.size W0 W1); have cX := (x0.belowAll hacc).cell)
    | (go_at_call 15; refine (same_refl (crashD d picks) _ _ _ hN2 hN3).mono ?_; rintro e W1 ⟨rfl, hb⟩; have hacc := (by first | exact hacc.drew.trans (hb.mono hacc.size) | exact hacc.trans (hb.mono hacc.size) : Below W0.heap.size W0 W1); have cX := (x0.belowAll hacc).cell)
    | (go_at_call 12; refine (law40_awake _).mono ?_; rintro e W1 ⟨rfl, hb⟩; have hacc := (by first | exact hacc.drew.trans (hb.mono hacc.size) | exact hacc.trans (hb.mono hacc.size) : Below W0.heap.size W0 W1)))
  all_goals
    go_wp2
    go_ret
    exact ⟨rfl, hB0.trans (hacc.mono hB0.size)⟩
set_option maxHeartbeats 4000000 in
theorem law40_crash_long (w : World) (d : Dsk) (v : Value) (hD : DskR (· < w.heap.size) w v d) (picks : List Int) (qo : Option Addr) (qc : Nat) (_hq : IntsAt (· < w.heap.size) w qo picks) (_hql : picks.length * 8 ≤ 140737488351232) (_hw : ∀ x ∈ picks, -9223372036854775808 ≤ x ∧ x ≤ 9223372036854775807) (hg : greatW d.pages d.cache = false) (hl : decide ((30 : Int) < (picks.length : Int)) = true) :
    Calls Try.prog 4 #[v, .slice qo picks.length qc] w fun e w' => e = .returned (.bool true) ∧ Below w.heap.size w w' := by
  have hS : InS (· < w.heap.size) w := fun _ h => h
  have hD0 := hD
  obtain ⟨po, pc, co, cc, rfl, hp, hc, ok⟩ := hD
  clear hp hc ok
  go_enter Try.func4, Try.ntmps4
  go_wp2_with fail
  obtain ⟨W0, hW0⟩ : ∃ W0, w.alloc (.cells #[.int .i64 d.size, .slice po d.pages.length pc, .slice co d.cache.length cc, .int .i64 d.left] 25) = W0 := ⟨_, rfl⟩
  have x0 := Bx.new w #[.int .i64 d.size, .slice po d.pages.length pc, .slice co d.cache.length cc, .int .i64 d.left] 25
  have hB0 := Below.one w (.cells #[.int .i64 d.size, .slice po d.pages.length pc, .slice co d.cache.length cc, .int .i64 d.left] 25)
  rw [hW0] at x0 hB0 ⊢
  clear hW0
  have hgr : ∀ x : Lat W0, Calls Try.prog 11 #[_] x.w fun e w' => e = .returned (.bool false) ∧ Below x.w.heap.size x.w w' := fun x => great_b d _ _ ((hD0.below hB0).below x.h) hg
  have cX := x0.cell
  have lX := x0.lt
  have cQ := Lat.cells W0
  clear hD0
  refine wp_region_lat (by kernel_rfl) (by kernel_rfl) ?_
  repeat (any_goals (first | go_big_quiet_skip | (go_big_quiet_want; go_big_quiet_op; first | go_big_quiet_on | go_big_quiet_call ((first | (go_at_call 11; exact Calls.lat (hgr _)) | (go_at_call 12; exact Calls.lat (law40_awake _))))) | quiet_step ((first | (go_at_call 11; exact Calls.lat (hgr _)) | (go_at_call 12; exact Calls.lat (law40_awake _))))))
  refine wpQuiet_nil ?_
  rintro _ ⟨⟨W9, hb9⟩, rfl⟩
  go_wp2
  go_ret
  exact ⟨rfl, hB0.trans (hb9.mono hB0.size)⟩
set_option maxHeartbeats 4000000 in
theorem law40_crash_great (w : World) (d : Dsk) (v : Value) (hD : DskR (· < w.heap.size) w v d) (picks : List Int) (qo : Option Addr) (qc : Nat) (_hq : IntsAt (· < w.heap.size) w qo picks) (_hql : picks.length * 8 ≤ 140737488351232) (_hw : ∀ x ∈ picks, -9223372036854775808 ≤ x ∧ x ≤ 9223372036854775807) (hg : greatW d.pages d.cache = true) :
    Calls Try.prog 4 #[v, .slice qo picks.length qc] w fun e w' => e = .returned (.bool true) ∧ Below w.heap.size w w' := by
  have hS : InS (· < w.heap.size) w := fun _ h => h
  have hD0 := hD
  obtain ⟨po, pc, co, cc, rfl, hp, hc, ok⟩ := hD
  clear hp hc ok
  go_enter Try.func4, Try.ntmps4
  go_wp2_with fail
  obtain ⟨W0, hW0⟩ : ∃ W0, w.alloc (.cells #[.int .i64 d.size, .slice po d.pages.length pc, .slice co d.cache.length cc, .int .i64 d.left] 25) = W0 := ⟨_, rfl⟩
  have x0 := Bx.new w #[.int .i64 d.size, .slice po d.pages.length pc, .slice co d.cache.length cc, .int .i64 d.left] 25
  have hB0 := Below.one w (.cells #[.int .i64 d.size, .slice po d.pages.length pc, .slice co d.cache.length cc, .int .i64 d.left] 25)
  rw [hW0] at x0 hB0 ⊢
  clear hW0
  have hgr : ∀ x : Lat W0, Calls Try.prog 11 #[_] x.w fun e w' => e = .returned (.bool true) ∧ Below x.w.heap.size x.w w' := fun x => great_b d _ _ ((hD0.below hB0).below x.h) hg
  have cX := x0.cell
  have lX := x0.lt
  have cQ := Lat.cells W0
  clear hD0
  refine wp_region_lat (by kernel_rfl) (by kernel_rfl) ?_
  repeat (any_goals (first | go_big_quiet_skip | (go_big_quiet_want; go_big_quiet_op; first | go_big_quiet_on | go_big_quiet_call ((first | (go_at_call 11; exact Calls.lat (hgr _)) | (go_at_call 12; exact Calls.lat (law40_awake _))))) | quiet_step ((first | (go_at_call 11; exact Calls.lat (hgr _)) | (go_at_call 12; exact Calls.lat (law40_awake _))))))
  refine wpQuiet_nil ?_
  rintro _ ⟨⟨W9, hb9⟩, rfl⟩
  go_wp2
  go_ret
  exact ⟨rfl, hB0.trans (hb9.mono hB0.size)⟩
theorem law40_crash (w : World) (d : Dsk) (v : Value) (hD : DskR (· < w.heap.size) w v d) (picks : List Int) (qo : Option Addr) (qc : Nat) (hq : IntsAt (· < w.heap.size) w qo picks) (hql : picks.length * 8 ≤ 140737488351232) (_hw : ∀ x ∈ picks, -9223372036854775808 ≤ x ∧ x ≤ 9223372036854775807) :
    Calls Try.prog 4 #[v, .slice qo picks.length qc] w fun e w' => e = .returned (.bool true) ∧ Below w.heap.size w w' := by
  cases hg : greatW d.pages d.cache
  · cases hl : decide ((30 : Int) < (picks.length : Int))
    · exact law40_crash_eq w d v hD picks qo qc hq hql _hw hg hl
    · exact law40_crash_long w d v hD picks qo qc hq hql _hw hg hl
  · exact law40_crash_great w d v hD picks qo qc hq hql _hw hg
end Go.Proofs.Ytjbcagijfodfgaa
