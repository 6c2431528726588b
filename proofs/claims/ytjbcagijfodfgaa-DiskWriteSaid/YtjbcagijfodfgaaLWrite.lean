/- law DiskWrite: the walk. -/
import Derived.Test.YtjbcagijfodfgaaLKit
namespace Go.Proofs.Ytjbcagijfodfgaa
open Go.RowKit

set_option maxHeartbeats 4000000 in
theorem law40_write (w : World) (d : Dsk) (v : Value) (hD : DskR (· < w.heap.size) w v d) (i : Int) (data : ByteArray) (hd : data.size ≤ 140737488351232) :
    Calls Try.prog 6 #[v, .int .i64 i, .string data] w fun e w' => e = .returned (.bool true) ∧ Below w.heap.size w w' := by
  have hS : InS (· < w.heap.size) w := fun _ h => h
  have hD0 := hD
  obtain ⟨po, pc, co, cc, rfl, hp, hc, ok⟩ := hD
  clear hp hc ok
  cases hg : greatW d.pages d.cache
  · cases hl : decide ((600 : Int) < (data.size : Int))
    · have hn := (great_false hg).2
      go_enter Try.func6, Try.ntmps6
      go_wp2_with fail
      refine (great_b d _ _ (hD0.below (Below.one _ _)) hg).mono ?_
      rintro e w1 ⟨rfl, hb1⟩
      have x1 := (Bx.new w _ _).belowAll hb1
      have hB1 : Below w.heap.size w w1 := Below.then (Below.one _ _) hb1 (by simp)
      have z1 := hB1.size
      have cX := x1.cell
      have lX := x1.lt
      go_wp2_with fail
      refine (disk_write d _ i data _ (hS.below hB1) (hD0.below hB1) hd (by omega)).mono ?_
      rintro e w2 ⟨v2, rfl, hN2, hb2⟩
      have x2 := x1.belowAll hb2
      have hB2 := Below.then hB1 hb2 z1
      have z2 := hB2.size
      clear x1 cX lX
      have hM2 := hN2
      obtain ⟨po2, pc2, co2, cc2, rfl, _, _, _⟩ := hN2
      have cX := x2.cell
      have lX := x2.lt
      go_wp2_with fail
      refine (ref40_write d _ i data _ ((hS.below hB2).size (by simp)) ((hD0.below hB2).below (Below.one _ _)) hd (by omega)).mono ?_
      rintro e w3 ⟨v3, rfl, hN3, hb3⟩
      have x3 := (x2.alloc _).belowAll hb3
      have a3 := (Bx.new w2 _ _).belowAll hb3
      have hB3 := Below.then (hB2.alloc z2 _) hb3 (by simp; omega)
      have z3 := hB3.size
      have hA3 := (hM2.below (Below.one _ _)).below hb3
      clear x2 cX lX hM2
      have hM3 := hN3
      obtain ⟨po3, pc3, co3, cc3, rfl, _, _, _⟩ := hN3
      have cX := x3.cell
      have lX := x3.lt
      go_wp2_with fail
      refine (disk_flush d _ _ ((hS.below hB3).size (by simp)) ((hD0.below hB3).below (Below.one _ _))).mono ?_
      rintro e w4 ⟨v4, rfl, hN4, hb4⟩
      have x4 := (x3.alloc _).belowAll hb4
      have a4 := (a3.alloc _).belowAll hb4
      have b4 := (Bx.new w3 _ _).belowAll hb4
      have hB4 := Below.then (hB3.alloc z3 _) hb4 (by simp; omega)
      have z4 := hB4.size
      have hA4 := (hA3.below (Below.one _ _)).below hb4
      have hE4 := (hM3.below (Below.one _ _)).below hb4
      clear x3 a3 cX lX hM3 hA3
      have hM4 := hN4
      obtain ⟨po4, pc4, co4, cc4, rfl, _, _, _⟩ := hN4
      have cX := x4.cell
      have lX := x4.lt
      go_wp2_with fail
      refine (ref40_flush d _ _ ((hS.below hB4).size (by simp)) ((hD0.below hB4).below (Below.one _ _))).mono ?_
      rintro e w5 ⟨v5, rfl, hN5, hb5⟩
      have x5 := (x4.alloc _).belowAll hb5
      have a5 := (a4.alloc _).belowAll hb5
      have b5 := (b4.alloc _).belowAll hb5
      have c5 := (Bx.new w4 _ _).belowAll hb5
      have hB5 := Below.then (hB4.alloc z4 _) hb5 (by simp; omega)
      have z5 := hB5.size
      have hA5 := (hA4.below (Below.one _ _)).below hb5
      have hE5 := (hE4.below (Below.one _ _)).below hb5
      have hF5 := (hM4.below (Below.one _ _)).below hb5
      clear x4 a4 b4 cX lX hM4 hA4 hE4
      have hM5 := hN5
      obtain ⟨po5, pc5, co5, cc5, rfl, _, _, _⟩ := hN5
      have cX := x5.cell
      have lX := x5.lt
      go_wp2_with fail
      refine (disk_read d _ i _ ((hS.below hB5).size (by simp)) ((hD0.below hB5).below (Below.one _ _))).mono ?_
      rintro e w6 ⟨rfl, hb6⟩
      have x6 := (x5.alloc _).belowAll hb6
      have a6 := (a5.alloc _).belowAll hb6
      have b6 := (b5.alloc _).belowAll hb6
      have c6 := (c5.alloc _).belowAll hb6
      have y6 := (Bx.new w5 _ _).belowAll hb6
      have hB6 := Below.then (hB5.alloc z5 _) hb6 (by simp; omega)
      have z6 := hB6.size
      have hA6 := (hA5.below (Below.one _ _)).below hb6
      have hE6 := (hE5.below (Below.one _ _)).below hb6
      have hF6 := (hF5.below (Below.one _ _)).below hb6
      have hG6 := (hM5.below (Below.one _ _)).below hb6
      clear x5 a5 b5 c5 cX lX hM5 hA5 hE5 hF5
      have cX := x6.cell
      have lX := x6.lt
      go_wp2_with fail
      refine (ref40_read d _ i _ (hD0.below hB6)).mono ?_
      rintro e W0 ⟨rfl, hb7⟩
      have x7 := x6.belowAll hb7
      have a7 := a6.belowAll hb7
      have b7 := b6.belowAll hb7
      have c7 := c6.belowAll hb7
      have y7 := y6.belowAll hb7
      have hB7 := Below.then hB6 hb7 z6
      have hA7 := hA6.below hb7
      have hE7 := hE6.below hb7
      have hF7 := hF6.below hb7
      have hG7 := hG6.below hb7
      clear x6 a6 b6 c6 y6 cX lX hA6 hE6 hF6 hG6
      have cA := a7.cell
      have cB := b7.cell
      have cC := c7.cell
      have cY := y7.cell
      have lY := y7.lt
      go_wp2_with fail
      refine (same_refl (writeD d i data).1 _ _ _ hA7 hE7).mono ?_
      rintro e w8 ⟨rfl, hb8⟩
      have c8 := c7.belowAll hb8
      have y8 := y7.belowAll hb8
      clear cA cB cC cY
      have cC := c8.cell
      have cY := y8.cell
      have hB8 := Below.then hB7 hb8 hB7.size
      go_wp2_with fail
      refine (same_refl (flushD d).1 _ _ _ (hF7.below hb8) (hG7.below hb8)).mono ?_
      rintro e w9 ⟨rfl, hb9⟩
      have hB9 := Below.then hB8 hb9 hB8.size
      clear cC cY
      go_wp2_with fail
      refine (law40_awake _).mono ?_
      rintro e w10 ⟨rfl, hb10⟩
      go_wp2
      go_ret
      exact ⟨rfl, Below.then hB9 hb10 hB9.size⟩
    · go_enter Try.func6, Try.ntmps6
      go_wp2_with fail
      refine (great_b d _ _ (hD0.below (Below.one _ _)) hg).mono ?_
      rintro e w1 ⟨rfl, hb1⟩
      go_wp2_with fail
      refine (law40_awake _).mono ?_
      rintro e w2 ⟨rfl, hb2⟩
      go_wp2
      go_ret
      exact ⟨rfl, Below.then (Below.then (Below.one _ _) hb1 (by simp)) hb2 (by have := hb1.size; simp at this; omega)⟩
  · go_enter Try.func6, Try.ntmps6
    go_wp2_with fail
    refine (great_b d _ _ (hD0.below (Below.one _ _)) hg).mono ?_
    rintro e w1 ⟨rfl, hb1⟩
    go_wp2_with fail
    refine (law40_awake _).mono ?_
    rintro e w2 ⟨rfl, hb2⟩
    go_wp2
    go_ret
    exact ⟨rfl, Below.then (Below.then (Below.one _ _) hb1 (by simp)) hb2 (by have := hb1.size; simp at this; omega)⟩
end Go.Proofs.Ytjbcagijfodfgaa
