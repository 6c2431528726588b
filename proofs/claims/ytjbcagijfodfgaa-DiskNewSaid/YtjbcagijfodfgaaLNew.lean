/- law DiskNew: the walk. -/
import Derived.Test.YtjbcagijfodfgaaLKit
namespace Go.Proofs.Ytjbcagijfodfgaa
open Go.RowKit

set_option maxHeartbeats 4000000 in
theorem law40_new (w : World) (p s : Int) (d : Dsk) (v : Value) {S : Nat → Prop} (hD : DskR S w v d) :
    Calls Try.prog 3 #[.int .i64 p, .int .i64 s, v] w fun e w' => e = .returned (.bool true) ∧ Below w.heap.size w w' := by
  have hD0 := hD
  obtain ⟨po, pc, co, cc, rfl, hp, hc, ok⟩ := hD
  clear hp hc ok
  have hbw : ∀ o, Below w.heap.size w (w.alloc o) := fun o => (Below.refl _ _).alloc (Nat.le_refl _) _
  cases hg : greatW d.pages d.cache
  · go_enter Try.func3, Try.ntmps3
    go_wp2_with fail
    refine (great_b d _ _ (hD0.below (hbw _)) hg).mono ?_
    rintro e w1 ⟨rfl, hb1⟩
    have x1 := (Bx.new w _ _).belowAll hb1
    have hB1 : Below w.heap.size w w1 := (hbw _).trans (hb1.mono (by simp))
    go_wp2_with fail
    refine (disk_new p s w1 (S := S)).mono ?_
    rintro e w2 ⟨v2, rfl, hN2, hb2⟩
    have x2 := x1.belowAll hb2
    have hB2 := hB1.trans (hb2.mono hB1.size)
    have hM2 := hN2
    obtain ⟨po2, pc2, co2, cc2, rfl, _, _, _⟩ := hN2
    go_wp2_with fail
    refine (ref40_new p s _ (S := S)).mono ?_
    rintro e w3 ⟨v3, rfl, hN3, hb3⟩
    have hM3 := hN3
    obtain ⟨po3, pc3, co3, cc3, rfl, _, _, _⟩ := hN3
    have x3 := (x2.alloc _).belowAll hb3
    have y3 := (Bx.new w2 _ _).belowAll hb3
    have hB3 := (hB2.alloc hB2.size _).trans (hb3.mono (by simp; have := hB2.size; omega))
    have hG2 := (hM2.below ((Below.refl _ _).alloc (Nat.le_refl _) _)).below hb3
    clear x1 x2
    go_wp2
    obtain ⟨W0, hW0⟩ : ∃ W0, (w3.alloc (.cells #[.int .i64 (newD p s).1.size, .slice po3 (newD p s).1.pages.length pc3, .slice co3 (newD p s).1.cache.length cc3, .int .i64 (newD p s).1.left] 25)) = W0 := ⟨_, rfl⟩
    have x4 := x3.alloc (.cells #[.int .i64 (newD p s).1.size, .slice po3 (newD p s).1.pages.length pc3, .slice co3 (newD p s).1.cache.length cc3, .int .i64 (newD p s).1.left] 25)
    have y4 := y3.alloc (.cells #[.int .i64 (newD p s).1.size, .slice po3 (newD p s).1.pages.length pc3, .slice co3 (newD p s).1.cache.length cc3, .int .i64 (newD p s).1.left] 25)
    have z4 := Bx.new w3 #[.int .i64 (newD p s).1.size, .slice po3 (newD p s).1.pages.length pc3, .slice co3 (newD p s).1.cache.length cc3, .int .i64 (newD p s).1.left] 25
    have hB4 := hB3.alloc (by have := hB3.size; omega) (.cells #[.int .i64 (newD p s).1.size, .slice po3 (newD p s).1.pages.length pc3, .slice co3 (newD p s).1.cache.length cc3, .int .i64 (newD p s).1.left] 25)
    have hbz : Below w3.heap.size w3 (w3.alloc (.cells #[.int .i64 (newD p s).1.size, .slice po3 (newD p s).1.pages.length pc3, .slice co3 (newD p s).1.cache.length cc3, .int .i64 (newD p s).1.left] 25)) := (Below.refl _ _).alloc (Nat.le_refl _) _
    rw [hW0] at x4 y4 z4 hB4 hbz ⊢
    have hsame : ∀ W, Below W0.heap.size W0 W → Calls Try.prog 15 #[_, _] W fun e w' => e = .returned (.bool true) ∧ Below W.heap.size W w' := fun W h => same_refl (newD p s).1 _ _ W ((hG2.below hbz).below h) ((hM3.below hbz).below h)
    have hc1 : ∀ W, Below W0.heap.size W0 W → Calls Try.prog 16 #[_] W fun e w' => e = .returned (.int .i64 (chk d)) ∧ Below W.heap.size W w' := fun W h => disk_check d _ W ((hD0.below hB4).below h)
    have hc2 : ∀ W, Below W0.heap.size W0 W → Calls Try.prog 17 #[_] W fun e w' => e = .returned (.int .i64 (chk d)) ∧ Below W.heap.size W w' := fun W h => ref40_check d _ W ((hD0.below hB4).below h)
    have haw : ∀ W, Below W0.heap.size W0 W → Calls Try.prog 12 #[] W fun e w' => e = .returned (.bool true) ∧ Below W.heap.size W w' := fun W _ => law40_awake W
    have hacc : Below W0.heap.size W0 W0 := Below.refl _ _
    clear hW0 hM2 hM3 hG2 hbz x3 y3 hD0 hbw
    have cX := x4.cell
    have cY := y4.cell
    have cZ := z4.cell
    go_region_with (first
      | (go_at_call 15; refine (hsame _ (by first | exact hacc.drew | exact hacc)).mono ?_; rintro e W1 ⟨rfl, hb⟩; have hacc := (by first | exact hacc.drew.trans (hb.mono hacc.size) | exact hacc.trans (hb.mono hacc.size) : Below W0.heap.size W0 W1); have cX := (x4.belowAll hacc).cell; have cY := (y4.belowAll hacc).cell; have cZ := (z4.belowAll hacc).cell)
      | (go_at_call 16; refine (hc1 _ (by first | exact hacc.drew | exact hacc)).mono ?_; rintro e W1 ⟨rfl, hb⟩; have hacc := (by first | exact hacc.drew.trans (hb.mono hacc.size) | exact hacc.trans (hb.mono hacc.size) : Below W0.heap.size W0 W1); have cX := (x4.belowAll hacc).cell; have cY := (y4.belowAll hacc).cell; have cZ := (z4.belowAll hacc).cell)
      | (go_at_call 17; refine (hc2 _ (by first | exact hacc.drew | exact hacc)).mono ?_; rintro e W1 ⟨rfl, hb⟩; have hacc := (by first | exact hacc.drew.trans (hb.mono hacc.size) | exact hacc.trans (hb.mono hacc.size) : Below W0.heap.size W0 W1); have cX := (x4.belowAll hacc).cell; have cY := (y4.belowAll hacc).cell; have cZ := (z4.belowAll hacc).cell)
      | (go_at_call 12; refine (haw _ (by first | exact hacc.drew | exact hacc)).mono ?_; rintro e W1 ⟨rfl, hb⟩; have hacc := (by first | exact hacc.drew.trans (hb.mono hacc.size) | exact hacc.trans (hb.mono hacc.size) : Below W0.heap.size W0 W1); have cX := (x4.belowAll hacc).cell; have cY := (y4.belowAll hacc).cell; have cZ := (z4.belowAll hacc).cell))
    all_goals
      go_wp2
      go_ret
      exact ⟨rfl, hB4.trans (hacc.mono hB4.size)⟩
  · go_enter Try.func3, Try.ntmps3
    go_wp2_with fail
    refine (great_b d _ _ (hD0.below (hbw _)) hg).mono ?_
    rintro e w1 ⟨rfl, hb1⟩
    go_wp2_with fail
    refine (law40_awake _).mono ?_
    rintro e w2 ⟨rfl, hb2⟩
    go_wp2
    go_ret
    exact ⟨rfl, ((hbw _).trans (hb1.mono (by simp))).trans (hb2.mono (by have := hb1.size; simp at this; omega))⟩
end Go.Proofs.Ytjbcagijfodfgaa
