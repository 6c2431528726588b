/- law 40's 'awake': it returns true. -/
import Derived.Test.YtjbcagijfodfgaaDFlush2
import Derived.Test.YtjbcagijfodfgaaDCrashR
import Derived.Test.YtjbcagijfodfgaaDCmp
namespace Go.Proofs.Ytjbcagijfodfgaa
open Go.RowKit

def dA0 : Dsk := (newD 2 3).1
def dA1 : Dsk := (writeD dA0 1 ⟨#[97, 98, 99]⟩).1
def dA2 : Dsk := (writeD dA1 1 ⟨#[120, 121, 122]⟩).1
def dAx : Dsk := crashD dA2 [2, 1]
def dAy : Dsk := crashD dA2 [0, 5]
theorem dA0_e : (newD 2 3).2 = 0 := by kernel_rfl
theorem dA1_e : (writeD dA0 1 ⟨#[97, 98, 99]⟩).2 = 0 := by kernel_rfl
theorem dA2_e : (writeD dA1 1 ⟨#[120, 121, 122]⟩).2 = 0 := by kernel_rfl
theorem dA2_r : readD dA2 1 = (⟨#[120, 121, 122]⟩, 0) := by kernel_rfl
theorem dAx_r : readD dAx 1 = (⟨#[120, 98, 0]⟩, 0) := by kernel_rfl
theorem dAy_r : readD dAy 1 = (⟨#[120, 0, 0]⟩, 0) := by kernel_rfl
theorem dA0_c : dA0.cache.length = 0 := by kernel_rfl
theorem dA1_c : dA1.cache.length = 1 := by kernel_rfl
theorem dA2_c : dA2.cache.length = 2 := by kernel_rfl

/-- all blocks but those of X -/
def NB (X : Nat → Prop) (w : World) (b : Nat) : Prop := ¬ X b ∧ b < w.heap.size
theorem NB.inS (X : Nat → Prop) (w : World) : InS (NB X w) w := fun _ h => h.2
theorem NB.same {X : Nat → Prop} {w w' : World} {b : Nat} {v0 v1 v2 v3 : Value} (h : Same (NB X w) w w') (hb : X b) : Same (NB X w) w ((((w'.setCell ⟨b, 0, none⟩ v0).setCell ⟨b, 1, none⟩ v1).setCell ⟨b, 2, none⟩ v2).setCell ⟨b, 3, none⟩ v3) := h.set4 (fun h => h.1 hb)
theorem DskR.nb {X : Nat → Prop} {w w' : World} {v : Value} {d : Dsk} (h : DskR (Gr (NB X w) w w') w' v d) (hz : w.heap.size ≤ w'.heap.size) (hX : ∀ b, X b → b < w.heap.size) : DskR (NB X w') w' v d :=
  h.mono (fun b hb => by
    rcases hb with ⟨h1, h2⟩ | ⟨h1, h2⟩
    · exact ⟨h1, by omega⟩
    · exact ⟨fun hx => by have := hX b hx; omega, h2⟩)

set_option maxHeartbeats 4000000 in
theorem law40_awake (w : World) : Calls Try.prog 12 #[] w fun e w' => e = .returned (.bool true) ∧ Below w.heap.size w w' := by
  have hX0 : ∀ b, (fun _ : Nat => False) b → b < w.heap.size := fun _ h => h.elim
  go_enter Try.func12, Try.ntmps12
  go_wp2_with fail
  refine (disk_new (S := NB (fun _ => False) w) 2 3 _).mono ?_
  rintro e w1 ⟨v1, rfl, hD1, hb1⟩
  rw [dA0_e]
  have hD1 : DskR _ w1 v1 dA0 := hD1.nb hb1.size hX0
  have hD1' : DskR (NB (· = w1.heap.size) w1) w1 v1 dA0 := hD1.mono (fun b h => ⟨by have := h.2; omega, h.2⟩)
  have hE1 := hD1'
  obtain ⟨po1, pc1, co1, cc1, rfl, _, _, _⟩ := hD1
  have x1 := Bx.new w1 #[.int .i64 dA0.size, .slice po1 dA0.pages.length pc1, .slice co1 dA0.cache.length cc1, .int .i64 dA0.left] 25
  have hB1 : Below w.heap.size w (w1.alloc (.cells #[.int .i64 dA0.size, .slice po1 dA0.pages.length pc1, .slice co1 dA0.cache.length cc1, .int .i64 dA0.left] 25)) := hb1.alloc (by have := hb1.size; omega) _
  have hF1 := hE1.below ((Below.refl _ w1).alloc (Nat.le_refl _) (.cells #[.int .i64 dA0.size, .slice po1 dA0.pages.length pc1, .slice co1 dA0.cache.length cc1, .int .i64 dA0.left] 25))
  have hXb : ∀ o, ∀ b, b = w1.heap.size → b < (w1.alloc o).heap.size := fun o b h => by simp [h]
  have cA := x1.cell
  have fA := x1.free
  have lA := x1.lt
  have hIn : ∀ o, InS (NB (· = w1.heap.size) w1) (w1.alloc o) := fun o b h => by have := h.2; simp; omega
  have hzw := hb1.size
  go_wp2_with fail
  refine (disk_write dA0 _ 1 ⟨#[97, 98, 99]⟩ _ (hIn _) hF1 (by decide) (by rw [dA0_c]; decide)).mono ?_
  rintro e w2 ⟨v2, rfl, hD2, hb2⟩
  rw [dA1_e]
  have hD2' : DskR (NB (· = w1.heap.size) w2) w2 v2 dA1 := hD2.mono (fun b h => by
    rcases h with ⟨h1, h2⟩ | ⟨h1, h2⟩
    · exact ⟨h1, by have := hb2.size; simp at this; omega⟩
    · simp at h1; exact ⟨by omega, h2⟩)
  have x2 := x1.belowAll hb2
  have hB2 := hB1.trans (hb2.mono (by simp; omega))
  clear cA fA lA x1 hD2 hF1
  have hE2 := hD2'
  obtain ⟨po2, pc2, co2, cc2, rfl, _, _, _⟩ := hD2'
  have cA := x2.cell
  have fA := x2.free
  have lA := x2.lt
  go_wp2_with fail
  have hF2 := hE2.same (NB.same (v0 := .int .i64 dA1.size) (v1 := .slice po2 dA1.pages.length pc2) (v2 := .slice co2 dA1.cache.length cc2) (v3 := .int .i64 dA1.left) (Same.refl (NB (· = w1.heap.size) w2) w2) rfl)
  refine (disk_write dA1 _ 1 ⟨#[120, 121, 122]⟩ _ ((NB.inS _ _).size (by simp)) hF2 (by decide) (by rw [dA1_c]; decide)).mono ?_
  rintro e w3 ⟨v3, rfl, hD3, hb3⟩
  rw [dA2_e]
  have hD3' : DskR (NB (· = w1.heap.size) w3) w3 v3 dA2 := hD3.mono (fun b h => by
    rcases h with ⟨h1, h2⟩ | ⟨h1, h2⟩
    · exact ⟨h1, by have := hb3.size; simp at this; omega⟩
    · simp at h1; exact ⟨by omega, h2⟩)
  have x3 := x2.set4 (v0 := .int .i64 dA1.size) (v1 := .slice po2 dA1.pages.length pc2) (v2 := .slice co2 dA1.cache.length cc2) (v3 := .int .i64 dA1.left) |>.belowAll hb3
  have hB3 := (below_set4 (b := w1.heap.size) (v0 := .int .i64 dA1.size) (v1 := .slice po2 dA1.pages.length pc2) (v2 := .slice co2 dA1.cache.length cc2) (v3 := .int .i64 dA1.left) hB2 (by omega)).trans (hb3.mono (by simp; omega))
  clear cA fA lA x2 hD3 hF2
  have hE3 := hD3'
  obtain ⟨po3, pc3, co3, cc3, rfl, _, _, _⟩ := hD3'
  have cA := x3.cell
  have fA := x3.free
  have lA := x3.lt
  go_wp2_with fail
  have hF3 := hE3.same (NB.same (v0 := .int .i64 dA2.size) (v1 := .slice po3 dA2.pages.length pc3) (v2 := .slice co3 dA2.cache.length cc3) (v3 := .int .i64 dA2.left) (Same.refl (NB (· = w1.heap.size) w3) w3) rfl)
  refine (disk_read dA2 _ 1 _ ((NB.inS _ _).size (by simp)) hF3).mono ?_
  rintro e w4 ⟨rfl, hb4⟩
  rw [dA2_r]
  dsimp only
  have x4 := x3.set4 (v0 := .int .i64 dA2.size) (v1 := .slice po3 dA2.pages.length pc3) (v2 := .slice co3 dA2.cache.length cc3) (v3 := .int .i64 dA2.left) |>.belowAll hb4
  have hB4 := (below_set4 (b := w1.heap.size) (v0 := .int .i64 dA2.size) (v1 := .slice po3 dA2.pages.length pc3) (v2 := .slice co3 dA2.cache.length cc3) (v3 := .int .i64 dA2.left) hB3 (by omega)).trans (hb4.mono (by simp; omega))
  have hG4 := hF3.below (hb4)
  have hI4 : InS (NB (· = w1.heap.size) w3) w4 := ((NB.inS _ _).size (by simpa using hb4.size))
  clear cA fA lA x3 hE3 hF3 hE2 hE1
  have cA := x4.cell
  have fA := x4.free
  have lA := x4.lt
  go_wp2_with fail
  refine (disk_crash dA2 _ [2, 1] _ _ _ (hI4.size (by simp)) (hG4.below ((Below.refl _ _).alloc (Nat.le_refl _) _)) (IntsAt.of_row (RowAt.bx (Bx.new w4 #[.int .i64 2, .int .i64 1] 3))) (by decide) (by rw [dA2_c]; decide)).mono ?_
  rintro e w5 ⟨v5, rfl, hD5, hb5⟩
  go_wp2_with fail
  have hI5 : InS (Gr (NB (· = w1.heap.size) w3) (w4.alloc (.cells #[.int .i64 2, .int .i64 1] 3)) w5) w5 := (hI4.size (by simp)).gr hb5
  refine (disk_read dAx _ 1 _ hI5 hD5).mono ?_
  rintro e w6 ⟨rfl, hb6⟩
  rw [dAx_r]
  dsimp only
  have hb46 : Below w4.heap.size w4 w6 := ((Below.refl _ w4).alloc (Nat.le_refl _) _).trans ((hb5.mono (by simp)).trans (hb6.mono (by have := hb5.size; simp at this; omega)))
  have x6 := x4.belowAll hb46
  have hG6 := hG4.below hb46
  have hB6 := hB4.trans (hb46.mono (by have := hb4.size; simp at this; have := hb3.size; simp at this; have := hb2.size; simp at this; omega))
  have hI6 : InS (NB (· = w1.heap.size) w3) w6 := hI4.size hb46.size
  have hz46 := hb46.size
  clear cA fA lA x4 hG4 hD5 hI5 hb5 hb6
  have cA := x6.cell
  have fA := x6.free
  have lA := x6.lt
  go_wp2_with fail
  refine (disk_crash dA2 _ [0, 5] _ _ _ (hI6.size (by simp)) (hG6.below ((Below.refl _ _).alloc (Nat.le_refl _) _)) (IntsAt.of_row (RowAt.bx (Bx.new w6 #[.int .i64 0, .int .i64 5] 3))) (by decide) (by rw [dA2_c]; decide)).mono ?_
  rintro e w7 ⟨v7, rfl, hD7, hb7⟩
  go_wp2_with fail
  refine (disk_read dAy _ 1 _ ((hI6.size (by simp)).gr hb7) hD7).mono ?_
  rintro e w8 ⟨rfl, hb8⟩
  rw [dAy_r]
  dsimp only
  have hB8 : Below w.heap.size w w8 := hB6.trans (((Below.refl _ w6).alloc (Nat.le_refl _) _).trans ((hb7.mono (by simp)).trans (hb8.mono (by have := hb7.size; simp at this; omega))) |>.mono (by have := hB6.size; omega))
  go_wp2
  go_ret
  exact ⟨rfl, hB8⟩
end Go.Proofs.Ytjbcagijfodfgaa
