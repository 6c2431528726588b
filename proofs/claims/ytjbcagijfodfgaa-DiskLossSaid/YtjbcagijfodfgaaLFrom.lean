/- law 40's 'from': it answers true where each byte is the durable one or that of a write. -/
import Derived.Test.YtjbcagijfodfgaaLKit
import Derived.Test.YtjbcagijfodfgaaLat
namespace Go.Proofs.Ytjbcagijfodfgaa
open Go.RowKit

theorem byteAt_eq {s : ByteArray} {j : Nat} (h : j < s.size) : byteAt s j = s[j] := by
  unfold byteAt
  have : j < s.data.size := h
  rw [Array.getElem?_eq_getElem this]; rfl
theorem byte_beq {s t : ByteArray} {j : Nat} (h : j < s.size) (h' : j < t.size) : (((s[j].toNat : Int) == (t[j].toNat : Int)) = true) ↔ byteAt s j = byteAt t j := by
  rw [byteAt_eq h, byteAt_eq h', beq_iff_eq]
  constructor
  · intro e
    exact UInt8.toNat_inj.1 (by omega)
  · intro e; rw [e]
/-- the answer on byte j, the first m writes of the cache looked at -/
def OkF (d : Dsk) (k : Nat) (page after : ByteArray) (j m : Nat) (b : Bool) : Prop := (byteAt after j = byteAt page j ∨ ∃ x ∈ d.cache.take m, x.page = k ∧ byteAt after j = byteAt x.data j) → b = true
theorem OkF.yes {d : Dsk} {k : Nat} {page after : ByteArray} {j m : Nat} : OkF d k page after j m true := fun _ => rfl
theorem OkF.none {d : Dsk} {k : Nat} {page after : ByteArray} {j : Nat} {b : Bool} (h : b = true ↔ byteAt after j = byteAt page j) : OkF d k page after j 0 b := by
  rintro (h' | ⟨x, hx, _⟩)
  · exact h.2 h'
  · simp at hx
theorem OkF.next {d : Dsk} {k : Nat} {page after : ByteArray} {j m : Nat} {b b' : Bool} (h : OkF d k page after j m b) (hm : m < d.cache.length) (h1 : b = true → b' = true) (h2 : d.cache[m].page = k → byteAt after j = byteAt d.cache[m].data j → b' = true) : OkF d k page after j (m + 1) b' := by
  rintro (h' | ⟨x, hx, e1, e2⟩)
  · exact h1 (h (.inl h'))
  · rw [List.take_succ_eq_append_getElem hm] at hx
    rcases List.mem_append.1 hx with hx | hx
    · exact h1 (h (.inr ⟨x, hx, e1, e2⟩))
    · obtain rfl := List.mem_singleton.1 hx
      exact h2 e1 e2

set_option maxHeartbeats 4000000 in
theorem law40_from (d : Dsk) (v : Value) (w : World) {S : Nat → Prop} (hD : DskR S w v d) (k : Nat) (hk : k < d.pages.length) (after : ByteArray) (hz : (after.size : Int) = d.size)
    (hpz : ∀ s ∈ d.pages, (s.size : Int) = d.size) (hcz : ∀ x ∈ d.cache, (x.data.size : Int) = d.size)
    (hfrom : ∀ i, i < after.size → byteAt after i = byteAt d.pages[k] i ∨ ∃ x ∈ d.cache, x.page = k ∧ byteAt after i = byteAt x.data i) :
    Calls Try.prog 21 #[v, .int .i64 k, .string after] w fun e w' => e = .returned (.bool true) ∧ Below w.heap.size w w' := by
  obtain ⟨po, pc, co, cc, rfl, hp, hc, ok⟩ := hD
  have ok1 := ok.pages
  have ok2 := ok.cache
  have ok3 := ok.strs _ (List.getElem_mem hk)
  have g0 : ((after.size : Int) != d.size) = false := by simp [hz]
  have hz' := Lib.hid hz
  have hps := hpz _ (List.getElem_mem hk)
  have has : after.size = d.pages[k].size := by omega
  clear hz hpz ok hps
  have hcz' := Lib.hid hcz
  have hf := Lib.hid hfrom
  clear hcz hfrom
  obtain ⟨pb, poff, rfl, hpc0, _⟩ := hp k hk
  clear hp
  have hae : after.size ≤ d.pages[k].size := by omega
  have hea : d.pages[k].size ≤ after.size := by omega
  clear has
  go_enter Try.func21, Try.ntmps21
  go_wp2
  go_loopw [18] (fun i wr => ∃ j : Nat, j ≤ after.size ∧ i = .int .i64 j ∧ Below w.heap.size w wr ∧ w.heap.size < wr.heap.size ∧ BoxD wr w.heap.size d.size d.left (some ⟨pb, poff, none⟩) co d.pages.length pc d.cache.length cc) (fun i _ => after.size - (intOf i).toNat)
  case atStart => exact ⟨0, Nat.zero_le _, rfl, Below.one _ _, by simp, by simp, by simp, by simp, by simp⟩
  case round =>
    obtain ⟨j, hj, rfl, hb, hzw, hB⟩ := hrel
    obtain ⟨h0, h1, h2, h3⟩ := hB
    have hpc : wr.cell? ⟨pb, poff + k, none⟩ = some (.string d.pages[k]) := by rw [hb.cell (World.block_lt_of_cell? w _ hpc0)]; exact hpc0
    by_cases hlt : j < after.size
    · have hlt2 : j < d.pages[k].size := by omega
      go_wp2
      go_quiet (fail)
      go_wp2
      have hb' := Below.drewN hb nq
      have hB' : BoxD (wr.drewN nq) w.heap.size d.size d.left (some ⟨pb, poff, none⟩) co d.pages.length pc d.cache.length cc := ⟨h0, h1, h2, h3⟩
      have hzw' : w.heap.size < (wr.drewN nq).heap.size := hzw
      have hst : OkF d k d.pages[k] after j 0 ((after[j].toNat : Int) == (d.pages[k][j].toNat : Int)) := OkF.none (byte_beq hlt hlt2)
      obtain ⟨wo, hwo⟩ : ∃ wo : World, wo = wr.drewN nq := ⟨_, rfl⟩
      rw [← hwo] at hb' hB' hzw' ⊢
      clear hwo h0 h1 h2 h3 hpc hb hzw
      have hB0 := Lib.hid hB'
      clear hB'
      go_loopw [35, 8] (fun i b wi => ∃ (m : Nat) (c : Bool), m ≤ d.cache.length ∧ i = .int .i64 m ∧ b = .bool c ∧ OkF d k d.pages[k] after j m c ∧ Below w.heap.size w wi ∧ w.heap.size < wi.heap.size ∧ BoxD wi w.heap.size d.size d.left (some ⟨pb, poff, none⟩) co d.pages.length pc d.cache.length cc) (fun i _ _ => d.cache.length - (intOf i).toNat)
      case atStart => exact ⟨0, _, Nat.zero_le _, rfl, rfl, hst, hb', hzw', hB0.out⟩
      case round =>
        clear hst hb' hzw' hB0
        obtain ⟨m, c, hm, rfl, rfl, hO, hb, hzw, hB⟩ := hrel
        obtain ⟨h0, h1, h2, h3⟩ := hB
        by_cases hml : m < d.cache.length
        · obtain ⟨cb, coff, rfl, hc0, hc1, _⟩ := hc m hml
          have hcell : wr.cell? ⟨cb, coff + m * 2, none⟩ = some (.int .i64 d.cache[m].page) := by rw [hb.cell (World.block_lt_of_cell? w _ hc0)]; exact hc0
          have hcell' : wr.cell? ⟨cb, coff + m * 2 + 1, none⟩ = some (.string d.cache[m].data) := by rw [hb.cell (World.block_lt_of_cell? w _ hc1)]; exact hc1
          clear hc0 hc1
          have hds : j < d.cache[m].data.size := by have := hcz'.out _ (List.getElem_mem hml); have := hz'.out; omega
          cases c
          · cases g : (d.cache[m].page == (k : Int))
            · go_wp2
              go_quiet (fail)
              go_wp2
              go_roundw
              case rel => exact ⟨m + 1, false, by omega, by go_num, rfl, hO.next hml (fun h => h) (fun h => by simp [h] at g), Below.drewN (hb.alloc (Nat.le_of_lt hzw) _) _, by simp; omega, BoxD.below ⟨h0, h1, h2, h3⟩ (Below.drewN (Below.one wr _) _) hzw⟩
              case measure => simp [intOf]; omega
            · go_wp2
              go_quiet (fail)
              go_wp2
              go_roundw
              case rel => exact ⟨m + 1, _, by omega, by go_num, rfl, hO.next hml (fun h => by cases h) (fun _ h => (byte_beq hlt hds).2 h), Below.drewN (hb.alloc (Nat.le_of_lt hzw) _) _, by simp; omega, BoxD.below ⟨h0, h1, h2, h3⟩ (Below.drewN (Below.one wr _) _) hzw⟩
              case measure => simp [intOf]; omega
          · go_wp2
            go_quiet (fail)
            go_wp2
            go_roundw
            case rel => exact ⟨m + 1, true, by omega, by go_num, rfl, OkF.yes, Below.drewN (hb.alloc (Nat.le_of_lt hzw) _) _, by simp; omega, BoxD.below ⟨h0, h1, h2, h3⟩ (Below.drewN (Below.one wr _) _) hzw⟩
            case measure => simp [intOf]; omega
        · obtain rfl : m = d.cache.length := by omega
          have hc : c = true := hO (by rw [List.take_length]; exact hf.out j hlt)
          subst hc
          go_wp2
          go_roundw
          case rel => exact ⟨j + 1, by omega, by go_num, hb, hzw, h0, h1, h2, h3⟩
          case measure => simp [intOf]; omega
    · go_wp2
      go_ret
      exact ⟨rfl, hb⟩
end Go.Proofs.Ytjbcagijfodfgaa
