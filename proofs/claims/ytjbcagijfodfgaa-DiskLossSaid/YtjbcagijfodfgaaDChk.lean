/- The two functions Check of layer 40: each returns 'chk' of the disk, for every disk. -/
import Derived.Test.YtjbcagijfodfgaaDsk
import Derived.BigQuiet
import Derived.Deep.QuietTactic
namespace Go.Proofs.Ytjbcagijfodfgaa
open Go.RowKit

set_option maxHeartbeats 400000 in
theorem ref40_ranged (p s : Int) (w : World) : Calls Try.prog 28 #[.int .i64 p, .int .i64 s] w fun e w' =>
    e = .returned (.bool (rangedB p s)) ∧ w = w' := by
  go_enter Try.func28, Try.ntmps28
  go_wp2
  all_goals go_ret
  all_goals simp [*, rangedB]
  all_goals omega
theorem ref40_ranged_b {b : Bool} (p s : Int) (w : World) (hb : rangedB p s = b) : Calls Try.prog 28 #[.int .i64 p, .int .i64 s] w fun e w' =>
    e = .returned (.bool b) ∧ w = w' := by rw [← hb]; exact ref40_ranged p s w

set_option maxHeartbeats 1000000 in
theorem ref40_check0 (size left : Int) (po co : Option Addr) (pc cc : Nat) (pages : List ByteArray) (cache : List PW) (w : World) {S : Nat → Prop}
    (hp : StrsAt S w po pages) (hc : PWsAt S w co cache)
    (hpl : pages.length ≤ 140737488351232) (hcl : cache.length ≤ 140737488351232) :
    Calls Try.prog 17 #[.agg #[.int .i64 size, .slice po pages.length pc, .slice co cache.length cc, .int .i64 left]] w fun e w' =>
    e = .returned (.int .i64 (chk ⟨size, pages, cache, left⟩)) ∧ Below w.heap.size w w' := by
  cases hr : rangedB pages.length size
  · go_enter Try.func17, Try.ntmps17
    go_wp2_with (go_at_call 28; refine (ref40_ranged_b _ _ _ hr).mono ?_; rintro e w' ⟨rfl, rfl⟩)
    go_ret
    exact ⟨by simp [chk, hr], (Below.refl _ _).alloc (Nat.le_refl _) _⟩
  · go_enter Try.func17, Try.ntmps17
    go_wp2_with (go_at_call 28; refine (ref40_ranged_b _ _ _ hr).mono ?_; rintro e w' ⟨rfl, rfl⟩)
    go_loopw [3] (fun i wr => ∃ k : Nat, k ≤ pages.length ∧ i = .int .i64 k ∧ chkP size (pages.drop k) = chkP size pages ∧ Below w.heap.size w wr ∧ w.heap.size < wr.heap.size ∧ BoxD wr w.heap.size size left po co pages.length pc cache.length cc) (fun i _ => pages.length - (intOf i).toNat)
    case atStart => exact ⟨0, Nat.zero_le _, rfl, rfl, (Below.refl _ _).alloc (Nat.le_refl _) _, by simp, by simp, by simp, by simp, by simp⟩
    case round =>
      obtain ⟨k, hk, rfl, hq0, hb, hz, hB⟩ := hrel
      have hq := Lib.hid hq0; clear hq0
      have hB0 := Lib.hid hB
      obtain ⟨h0, h1, h2, h3⟩ := hB
      by_cases hlt : k < pages.length
      · obtain ⟨b, off, rfl, hcell0, _⟩ := hp k hlt
        have hcell : wr.cell? ⟨b, off + k, none⟩ = some (.string pages[k]) := by rw [hb.cell (World.block_lt_of_cell? w _ hcell0)]; exact hcell0
        clear hcell0
        cases hs : ((pages[k].size : Int) != size)
        · go_wp2
          go_quiet (fail)
          go_wp2
          go_roundw
          case rel => exact ⟨k + 1, by omega, by go_num, by rw [← chkP_step hlt hs]; exact hq.out, Below.drewN hb _, by simpa using hz, h0, h1, h2, h3⟩
          case measure => simp [intOf]; omega
        · go_wp2
          go_quiet (fail)
          go_wp2
          go_ret
          exact ⟨by simp [chk, hr, ← hq.out, chkP_bad hlt hs], Below.drewN hb _⟩
      · obtain rfl : k = pages.length := by omega
        have hP : chkP size pages = true := by rw [← hq.out]; simp [chkP]
        clear hlt hk
        go_wp2
        go_loopw [4] (fun i wr => ∃ k : Nat, k ≤ cache.length ∧ i = .int .i64 k ∧ chkC pages.length size (cache.drop k) = chkC pages.length size cache ∧ Below w.heap.size w wr ∧ w.heap.size < wr.heap.size ∧ BoxD wr w.heap.size size left po co pages.length pc cache.length cc) (fun i _ => cache.length - (intOf i).toNat)
        case atStart => exact ⟨0, Nat.zero_le _, rfl, rfl, hb, hz, hB0.out⟩
        case round =>
          clear hB0 h0 h1 h2 h3 hb hz
          obtain ⟨k, hk, rfl, hq0, hb, hz, hB⟩ := hrel
          have hq := Lib.hid hq0; clear hq0
          obtain ⟨h0, h1, h2, h3⟩ := hB
          by_cases hlt : k < cache.length
          · obtain ⟨b, off, rfl, hcell0, hcell1, _⟩ := hc k hlt
            have hcell : wr.cell? ⟨b, off + k * 2, none⟩ = some (.int .i64 cache[k].page) := by rw [hb.cell (World.block_lt_of_cell? w _ hcell0)]; exact hcell0
            have hcell' : wr.cell? ⟨b, off + k * 2 + 1, none⟩ = some (.string cache[k].data) := by rw [hb.cell (World.block_lt_of_cell? w _ hcell1)]; exact hcell1
            clear hcell0 hcell1
            cases g1 : decide (cache[k].page < 0)
            · cases g2 : decide ((pages.length : Int) ≤ cache[k].page)
              · cases g3 : ((cache[k].data.size : Int) != size)
                · go_wp2
                  go_quiet (fail)
                  go_wp2
                  go_quiet (fail)
                  go_wp2
                  go_roundw
                  case rel => exact ⟨k + 1, by omega, by go_num, by rw [← chkC_step hlt g1 g2 g3]; exact hq.out, by first | exact Below.drewN hb _ | exact Below.drewN (Below.drewN hb _) _, by simpa using hz, h0, h1, h2, h3⟩
                  case measure => simp [intOf]; omega
                · go_wp2
                  go_quiet (fail)
                  go_wp2
                  go_quiet (fail)
                  go_wp2
                  go_ret
                  exact ⟨by simp [chk, hr, hP, ← hq.out, chkC_bad3 hlt g1 g2 g3], by first | exact Below.drewN hb _ | exact Below.drewN (Below.drewN hb _) _⟩
              · go_wp2
                go_quiet (fail)
                go_wp2
                go_ret
                exact ⟨by simp [chk, hr, hP, ← hq.out, chkC_bad2 hlt g2], Below.drewN hb _⟩
            · go_wp2
              go_quiet (fail)
              go_wp2
              go_ret
              exact ⟨by simp [chk, hr, hP, ← hq.out, chkC_bad1 hlt g1], Below.drewN hb _⟩
          · obtain rfl : k = cache.length := by omega
            have hC : chkC pages.length size cache = 0 := by rw [← hq.out]; simp [chkC]
            cases g : decide (left < -1)
            all_goals
              go_wp2
              go_ret
              exact ⟨by simp at g; simp [chk, hr, hP, hC, g]; try omega, hb⟩


theorem rangedB_tests {p s : Int} {b : Bool} (h : rangedB p s = b) : (decide (p < 1) = false ∧ decide (2000 < p) = false ∧ decide (s < 1) = false ∧ decide (512 < s) = false ∧ b = true) ∨ (decide (p < 1) = true ∧ b = false) ∨ (decide (p < 1) = false ∧ decide (2000 < p) = true ∧ b = false) ∨ (decide (p < 1) = false ∧ decide (2000 < p) = false ∧ decide (s < 1) = true ∧ b = false) ∨ (decide (p < 1) = false ∧ decide (2000 < p) = false ∧ decide (s < 1) = false ∧ decide (512 < s) = true ∧ b = false) := by
  subst h
  by_cases h1 : p < 1 <;> by_cases h2 : 2000 < p <;> by_cases h3 : s < 1 <;> by_cases h4 : 512 < s <;> simp [rangedB, h1, h2, h3, h4] <;> omega

set_option maxHeartbeats 1000000 in
theorem disk_check0 (size left : Int) (po co : Option Addr) (pc cc : Nat) (pages : List ByteArray) (cache : List PW) (w : World) {S : Nat → Prop}
    (hp : StrsAt S w po pages) (hc : PWsAt S w co cache)
    (hpl : pages.length ≤ 140737488351232) (hcl : cache.length ≤ 140737488351232) :
    Calls Try.prog 16 #[.agg #[.int .i64 size, .slice po pages.length pc, .slice co cache.length cc, .int .i64 left]] w fun e w' =>
    e = .returned (.int .i64 (chk ⟨size, pages, cache, left⟩)) ∧ Below w.heap.size w w' := by
  have hbw : ∀ o, Below w.heap.size w (w.alloc o) := fun o => (Below.refl _ _).alloc (Nat.le_refl _) _
  cases hr : rangedB pages.length size
  · rcases rangedB_tests hr with ⟨_, _, _, _, h⟩ | ⟨a1, _⟩ | ⟨a1, a2, _⟩ | ⟨a1, a2, a3, _⟩ | ⟨a1, a2, a3, a4, _⟩
    · cases h
    all_goals
      go_enter Try.func16, Try.ntmps16
      go_wp2
      go_ret
      exact ⟨by simp [chk, hr], hbw _⟩
  · rcases rangedB_tests hr with ⟨a1, a2, a3, a4, h⟩ | ⟨_, h⟩ | ⟨_, _, h⟩ | ⟨_, _, _, h⟩ | ⟨_, _, _, _, h⟩
    rotate_left
    · cases h
    · cases h
    · cases h
    · cases h
    clear h
    go_enter Try.func16, Try.ntmps16
    go_wp2
    clear a1 a2 a3 a4
    go_loopw [4, 30] (fun _ i wr => ∃ k : Nat, k ≤ pages.length ∧ i = .int .i64 k ∧ chkP size (pages.drop k) = chkP size pages ∧ Below w.heap.size w wr ∧ w.heap.size < wr.heap.size ∧ BoxD wr w.heap.size size left po co pages.length pc cache.length cc) (fun _ i _ => pages.length - (intOf i).toNat)
    case atStart => exact ⟨0, Nat.zero_le _, rfl, rfl, hbw _, by simp, by simp, by simp, by simp, by simp⟩
    case round =>
      obtain ⟨k, hk, rfl, hq0, hb, hz, hB⟩ := hrel
      have hq := Lib.hid hq0; clear hq0
      have hB0 := Lib.hid hB
      obtain ⟨h0, h1, h2, h3⟩ := hB
      by_cases hlt : k < pages.length
      · obtain ⟨b, off, rfl, hcell0, _⟩ := hp k hlt
        have hcell : wr.cell? ⟨b, off + k, none⟩ = some (.string pages[k]) := by rw [hb.cell (World.block_lt_of_cell? w _ hcell0)]; exact hcell0
        clear hcell0
        cases hs : ((pages[k].size : Int) != size)
        · go_wp2
          go_roundw
          case rel => exact ⟨k + 1, by omega, by go_num, by rw [← chkP_step hlt hs]; exact hq.out, hb, by simpa using hz, h0, h1, h2, h3⟩
          case measure => simp [intOf]; omega
        · go_wp2
          go_ret
          exact ⟨by simp [chk, hr, ← hq.out, chkP_bad hlt hs], hb⟩
      · obtain rfl : k = pages.length := by omega
        have hP : chkP size pages = true := by rw [← hq.out]; simp [chkP]
        clear hlt hk
        go_wp2
        go_loopw [6, 43] (fun _ i wr => ∃ k : Nat, k ≤ cache.length ∧ i = .int .i64 k ∧ chkC pages.length size (cache.drop k) = chkC pages.length size cache ∧ Below w.heap.size w wr ∧ w.heap.size < wr.heap.size ∧ BoxD wr w.heap.size size left po co pages.length pc cache.length cc) (fun _ i _ => cache.length - (intOf i).toNat)
        case atStart => exact ⟨0, Nat.zero_le _, rfl, rfl, hb, hz, hB0.out⟩
        case round =>
          clear hB0 h0 h1 h2 h3 hb hz
          obtain ⟨k, hk, rfl, hq0, hb, hz, hB⟩ := hrel
          have hq := Lib.hid hq0; clear hq0
          obtain ⟨h0, h1, h2, h3⟩ := hB
          by_cases hlt : k < cache.length
          · obtain ⟨b, off, rfl, hcell0, hcell1, _⟩ := hc k hlt
            have hcell : wr.cell? ⟨b, off + k * 2, none⟩ = some (.int .i64 cache[k].page) := by rw [hb.cell (World.block_lt_of_cell? w _ hcell0)]; exact hcell0
            have hcell' : wr.cell? ⟨b, off + k * 2 + 1, none⟩ = some (.string cache[k].data) := by rw [hb.cell (World.block_lt_of_cell? w _ hcell1)]; exact hcell1
            clear hcell0 hcell1
            cases g1 : decide (cache[k].page < 0)
            · cases g2 : decide ((pages.length : Int) ≤ cache[k].page)
              · cases g3 : ((cache[k].data.size : Int) != size)
                · go_wp2
                  go_roundw
                  case rel => exact ⟨k + 1, by omega, by go_num, by rw [← chkC_step hlt g1 g2 g3]; exact hq.out, hb.alloc (by omega) _, by simp; omega, by simp [go_sem, h0, hz], by simp [go_sem, h1, hz], by simp [go_sem, h2, hz], by simp [go_sem, h3, hz]⟩
                  case measure => simp [intOf]; omega
                · go_wp2
                  go_ret
                  exact ⟨by simp [chk, hr, hP, ← hq.out, chkC_bad3 hlt g1 g2 g3], hb.alloc (by omega) _⟩
              · go_wp2
                go_ret
                exact ⟨by simp [chk, hr, hP, ← hq.out, chkC_bad2 hlt g2], hb.alloc (by omega) _⟩
            · go_wp2
              go_ret
              exact ⟨by simp [chk, hr, hP, ← hq.out, chkC_bad1 hlt g1], hb.alloc (by omega) _⟩
          · obtain rfl : k = cache.length := by omega
            have hC : chkC pages.length size cache = 0 := by rw [← hq.out]; simp [chkC]
            cases g : decide (left < -1)
            all_goals
              go_wp2
              go_ret
              exact ⟨by simp at g; simp [chk, hr, hP, hC, g]; try omega, hb⟩

theorem disk_check (d : Dsk) (v : Value) (w : World) {S : Nat → Prop} (hD : DskR S w v d) :
    Calls Try.prog 16 #[v] w fun e w' => e = .returned (.int .i64 (chk d)) ∧ Below w.heap.size w w' := by
  obtain ⟨po, pc, co, cc, rfl, hp, hc, ok⟩ := hD
  exact disk_check0 d.size d.left po co pc cc d.pages d.cache w hp hc ok.pages ok.cache
theorem ref40_check (d : Dsk) (v : Value) (w : World) {S : Nat → Prop} (hD : DskR S w v d) :
    Calls Try.prog 17 #[v] w fun e w' => e = .returned (.int .i64 (chk d)) ∧ Below w.heap.size w w' := by
  obtain ⟨po, pc, co, cc, rfl, hp, hc, ok⟩ := hD
  exact ref40_check0 d.size d.left po co pc cc d.pages d.cache w hp hc ok.pages ok.cache
end Go.Proofs.Ytjbcagijfodfgaa
