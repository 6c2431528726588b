/- Contracts of Same and Great of the reference of layer 40. -/
import Derived.Test.YtjbcagijfodfgaaDSpec
import Derived.BigQuiet
import Derived.Deep.QuietTactic
namespace Go.Proofs.Ytjbcagijfodfgaa
open Go.RowKit

def wsum : List ByteArray → Int → Int
  | [], n => n
  | s :: r, n => wsum r (wrap64 (n + s.size))
theorem wsum_step {l : List ByteArray} {k : Nat} (h : k < l.length) (n : Int) : wsum (l.drop k) n = wsum (l.drop (k+1)) (wrap64 (n + l[k].size)) := by
  rw [List.drop_eq_getElem_cons h, wsum]
def greatW (pages : List ByteArray) (cache : List PW) : Bool := decide (12 < pages.length) || decide (20 < cache.length) || decide (4000 < wsum (cache.map (·.data)) (wsum pages 0))

set_option maxHeartbeats 1000000 in
theorem ref40_great0 (d : Dsk) (v : Value) (w : World) {S : Nat → Prop} (hD : DskR S w v d) :
    Calls Try.prog 11 #[v] w fun e w' => e = .returned (.bool (greatW d.pages d.cache)) ∧ Below w.heap.size w w' := by
  obtain ⟨po, pc, co, cc, rfl, hp, hc, ok⟩ := hD
  have ok1 := ok.pages
  have ok2 := ok.cache
  have oks := ok.strs
  have okd := ok.datas
  clear ok
  go_enter Try.func11, Try.ntmps11
  go_wp2
  go_loopw [3, 4] (fun n i wr => ∃ (k : Nat) (m : Int), k ≤ d.pages.length ∧ n = .int .i64 m ∧ i = .int .i64 k ∧ wsum (d.pages.drop k) m = wsum d.pages 0 ∧ Below w.heap.size w wr ∧ w.heap.size < wr.heap.size ∧ BoxD wr w.heap.size d.size d.left po co d.pages.length pc d.cache.length cc) (fun _ i _ => d.pages.length - (intOf i).toNat)
  case atStart => exact ⟨0, 0, Nat.zero_le _, rfl, rfl, rfl, (Below.refl _ _).alloc (Nat.le_refl _) _, by simp, by simp, by simp, by simp, by simp⟩
  case round =>
    obtain ⟨k, m, hk, rfl, rfl, hq0, hb, hz, hB⟩ := hrel
    have hq := Lib.hid hq0; clear hq0
    have hB0 := Lib.hid hB
    obtain ⟨h0, h1, h2, h3⟩ := hB
    by_cases hlt : k < d.pages.length
    · obtain ⟨b, off, rfl, hcell0, _⟩ := hp k hlt
      have hcell : wr.cell? ⟨b, off + k, none⟩ = some (.string d.pages[k]) := by rw [hb.cell (World.block_lt_of_cell? w _ hcell0)]; exact hcell0
      clear hcell0
      go_wp2
      go_roundw
      case rel => exact ⟨k + 1, _, by omega, rfl, by go_num, by rw [← wsum_step hlt m]; exact hq.out, hb, hz, h0, h1, h2, h3⟩
      case measure => simp [intOf]; omega
    · obtain rfl : k = d.pages.length := by omega
      have hP : Hid (m = wsum d.pages 0) := by rw [← hq.out]; simp [wsum, Hid]
      clear hlt hk hq
      go_wp2
      go_loopw [3, 5] (fun n i wr => ∃ (k : Nat) (q : Int), k ≤ d.cache.length ∧ n = .int .i64 q ∧ i = .int .i64 k ∧ wsum ((d.cache.map (·.data)).drop k) q = wsum (d.cache.map (·.data)) m ∧ Below w.heap.size w wr ∧ w.heap.size < wr.heap.size ∧ BoxD wr w.heap.size d.size d.left po co d.pages.length pc d.cache.length cc) (fun _ i _ => d.cache.length - (intOf i).toNat)
      case atStart => exact ⟨0, m, Nat.zero_le _, rfl, rfl, rfl, hb, hz, hB0.out⟩
      case round =>
        clear hB0 h0 h1 h2 h3 hb hz
        obtain ⟨k, q, hk, rfl, rfl, hq0, hb, hz, hB⟩ := hrel
        have hq := Lib.hid hq0; clear hq0
        obtain ⟨h0, h1, h2, h3⟩ := hB
        by_cases hlt : k < d.cache.length
        · obtain ⟨b, off, rfl, hcell0, hcell1, _⟩ := hc k hlt
          have hcell' : wr.cell? ⟨b, off + k * 2 + 1, none⟩ = some (.string d.cache[k].data) := by rw [hb.cell (World.block_lt_of_cell? w _ hcell1)]; exact hcell1
          clear hcell0 hcell1
          have hst := Lib.hid (wsum_step (l := d.cache.map (·.data)) (k := k) (by simpa using hlt) q)
          go_wp2
          go_roundw
          case rel => exact ⟨k + 1, _, by omega, rfl, by go_num, by have := hst.out; simp only [List.getElem_map] at this; rw [← this]; exact hq.out, hb, hz, h0, h1, h2, h3⟩
          case measure => simp [intOf]; omega
        · obtain rfl : k = d.cache.length := by omega
          have hQ : Hid (greatW d.pages d.cache = (decide (12 < (d.pages.length : Int)) || decide (20 < (d.cache.length : Int)) || decide (4000 < q))) := by
            have e : q = wsum (d.cache.map (·.data)) m := by rw [← hq.out, List.drop_of_length_le (by simp)]; simp [wsum]
            have e1 : decide (12 < d.pages.length) = decide (12 < (d.pages.length : Int)) := by apply decide_eq_decide.2; omega
            have e2 : decide (20 < d.cache.length) = decide (20 < (d.cache.length : Int)) := by apply decide_eq_decide.2; omega
            unfold Hid greatW
            rw [e, hP.out, e1, e2]
          cases g1 : decide (12 < (d.pages.length : Int))
          · cases g2 : decide (20 < (d.cache.length : Int))
            · go_wp2
              go_ret
              exact ⟨by rw [hQ.out, g1, g2]; simp, hb⟩
            · go_wp2
              go_ret
              exact ⟨by rw [hQ.out, g1, g2]; simp, hb⟩
          · go_wp2
            go_ret
            exact ⟨by rw [hQ.out, g1]; simp, hb⟩

/-- two disks are equal, as the reference compares them -/
def eqP : List ByteArray → List ByteArray → Bool
  | x :: l, y :: m => (x == y) && eqP l m
  | _, _ => true
def eqC : List PW → List PW → Bool
  | x :: l, y :: m => (x.page == y.page) && (x.data == y.data) && eqC l m
  | _, _ => true
def sameW (a b : Dsk) : Bool := (a.size == b.size) && (a.left == b.left) && (a.pages.length == b.pages.length) && (a.cache.length == b.cache.length) && eqP a.pages b.pages && eqC a.cache b.cache

set_option maxHeartbeats 1000000 in
theorem ref40_same0 (a b : Dsk) (va vb : Value) (w : World) {S S' : Nat → Prop} (hD : DskR S w va a) (hE : DskR S' w vb b) :
    Calls Try.prog 15 #[va, vb] w fun e w' => e = .returned (.bool (sameW a b)) ∧ Below w.heap.size w w' := by
  obtain ⟨po, pc, co, cc, rfl, hp, hc, ok⟩ := hD
  obtain ⟨po', pc', co', cc', rfl, hp', hc', ok'⟩ := hE
  have ok1 := ok.pages
  have ok2 := ok.cache
  have ok1' := ok'.pages
  have ok2' := ok'.cache
  clear ok ok'
  have hbw : ∀ o o', Below w.heap.size w ((w.alloc o).alloc o') := fun o o' => ((Below.refl _ _).alloc (Nat.le_refl _) _).alloc (by simp) _
  cases g1 : (a.size != b.size)
  · cases g2 : (a.left != b.left)
    · cases g3 : ((a.pages.length : Int) != (b.pages.length : Int))
      · cases g4 : ((a.cache.length : Int) != (b.cache.length : Int))
        · have g1' := Lib.hid g1
          have g2' := Lib.hid g2
          go_enter Try.func15, Try.ntmps15
          go_wp2
          go_loopw [5] (fun i wr => ∃ (k : Nat), k ≤ a.pages.length ∧ i = .int .i64 k ∧ eqP (a.pages.drop k) (b.pages.drop k) = eqP a.pages b.pages ∧ Below w.heap.size w wr ∧ w.heap.size + 1 < wr.heap.size ∧ BoxD wr w.heap.size a.size a.left po co a.pages.length pc a.cache.length cc ∧ BoxD wr (w.heap.size + 1) b.size b.left po' co' b.pages.length pc' b.cache.length cc') (fun i _ => a.pages.length - (intOf i).toNat)
          case atStart => exact ⟨0, Nat.zero_le _, rfl, rfl, hbw _ _, by simp, ⟨by simp [go_sem], by simp [go_sem], by simp [go_sem], by simp [go_sem]⟩, ⟨by simp [go_sem], by simp [go_sem], by simp [go_sem], by simp [go_sem]⟩⟩
          case round =>
            obtain ⟨k, hk, rfl, hq0, hb, hz, hB, hB'⟩ := hrel
            have hq := Lib.hid hq0; clear hq0
            have hB0 := Lib.hid hB
            have hB0' := Lib.hid hB'
            obtain ⟨h0, h1, h2, h3⟩ := hB
            obtain ⟨h0', h1', h2', h3'⟩ := hB'
            have hl3 : a.pages.length = b.pages.length := by have := g3; simp at this; omega
            have hl4 : a.cache.length = b.cache.length := by have := g4; simp at this; omega
            have hl3h := Lib.hid hl3
            have hl4h := Lib.hid hl4
            by_cases hlt : k < a.pages.length
            · have hlt' : k < b.pages.length := by omega
              obtain ⟨ba, offa, rfl, hcell0, _⟩ := hp k hlt
              obtain ⟨bb, offb, rfl, hcell0', _⟩ := hp' k hlt'
              have hcell : wr.cell? ⟨ba, offa + k, none⟩ = some (.string a.pages[k]) := by rw [hb.cell (World.block_lt_of_cell? w _ hcell0)]; exact hcell0
              have hcell' : wr.cell? ⟨bb, offb + k, none⟩ = some (.string b.pages[k]) := by rw [hb.cell (World.block_lt_of_cell? w _ hcell0')]; exact hcell0'
              clear hcell0 hcell0' hl3 hl4 g1 g2 g3 g4
              cases hs : (a.pages[k].toList == b.pages[k].toList)
              · go_wp2
                go_quiet (fail)
                go_wp2
                go_ret
                exact ⟨by rw [← beq_toListBytes] at hs; unfold sameW; rw [← hq.out, List.drop_eq_getElem_cons hlt, List.drop_eq_getElem_cons hlt']; simp [eqP, hs], Below.drewN hb _⟩
              · go_wp2
                go_quiet (fail)
                go_wp2
                go_roundw
                case rel => exact ⟨k + 1, by omega, by go_num, by rw [← hq.out, List.drop_eq_getElem_cons hlt, List.drop_eq_getElem_cons hlt']; rw [← beq_toListBytes] at hs; simp [eqP, hs], Below.drewN hb _, hz, ⟨h0, h1, h2, h3⟩, ⟨h0', h1', h2', h3'⟩⟩
                case measure => simp [intOf]; omega
            · have hkk : Hid (k = a.pages.length) := by unfold Hid; omega
              have hP : Hid (eqP a.pages b.pages = true) := by unfold Hid; rw [← hq.out, hkk.out, List.drop_length]; simp [eqP]
              clear hl3 hl4 g1 g2 g3 g4
              have hge : a.pages.length ≤ k := by omega
              go_wp2
              go_loopw [6] (fun i wr => ∃ (k : Nat), k ≤ a.cache.length ∧ i = .int .i64 k ∧ eqC (a.cache.drop k) (b.cache.drop k) = eqC a.cache b.cache ∧ Below w.heap.size w wr ∧ w.heap.size + 1 < wr.heap.size ∧ BoxD wr w.heap.size a.size a.left po co a.pages.length pc a.cache.length cc ∧ BoxD wr (w.heap.size + 1) b.size b.left po' co' b.pages.length pc' b.cache.length cc') (fun i _ => a.cache.length - (intOf i).toNat)
              case atStart => exact ⟨0, Nat.zero_le _, rfl, rfl, hb, hz, hB0.out, hB0'.out⟩
              case round =>
                clear hB0 hB0' h0 h1 h2 h3 h0' h1' h2' h3' hb hz hge hk hlt
                obtain ⟨k, hk, rfl, hq0, hb, hz, hB, hB'⟩ := hrel
                have hq := Lib.hid hq0; clear hq0
                obtain ⟨h0, h1, h2, h3⟩ := hB
                obtain ⟨h0', h1', h2', h3'⟩ := hB'
                by_cases hlt : k < a.cache.length
                · have hlt' : k < b.cache.length := by have := hl4h.out; omega
                  obtain ⟨ba, offa, rfl, hcell0, hcell1, _⟩ := hc k hlt
                  obtain ⟨bb, offb, rfl, hcell0', hcell1', _⟩ := hc' k hlt'
                  have hcell : wr.cell? ⟨ba, offa + k * 2, none⟩ = some (.int .i64 a.cache[k].page) := by rw [hb.cell (World.block_lt_of_cell? w _ hcell0)]; exact hcell0
                  have hcell' : wr.cell? ⟨ba, offa + k * 2 + 1, none⟩ = some (.string a.cache[k].data) := by rw [hb.cell (World.block_lt_of_cell? w _ hcell1)]; exact hcell1
                  have gcell : wr.cell? ⟨bb, offb + k * 2, none⟩ = some (.int .i64 b.cache[k].page) := by rw [hb.cell (World.block_lt_of_cell? w _ hcell0')]; exact hcell0'
                  have gcell' : wr.cell? ⟨bb, offb + k * 2 + 1, none⟩ = some (.string b.cache[k].data) := by rw [hb.cell (World.block_lt_of_cell? w _ hcell1')]; exact hcell1'
                  clear hcell0 hcell0' hcell1 hcell1'
                  cases hs : (a.cache[k].page == b.cache[k].page)
                  · go_wp2
                    go_quiet (fail)
                    go_wp2
                    go_ret
                    exact ⟨by unfold sameW; rw [← hq.out, List.drop_eq_getElem_cons hlt, List.drop_eq_getElem_cons hlt']; simp [eqC, hs], Below.drewN hb _⟩
                  · cases ht : (a.cache[k].data.toList == b.cache[k].data.toList)
                    · go_wp2
                      go_quiet (fail)
                      go_wp2
                      go_ret
                      exact ⟨by rw [← beq_toListBytes] at ht; unfold sameW; rw [← hq.out, List.drop_eq_getElem_cons hlt, List.drop_eq_getElem_cons hlt']; simp [eqC, ht], Below.drewN hb _⟩
                    · go_wp2
                      go_quiet (fail)
                      go_wp2
                      go_roundw
                      case rel => exact ⟨k + 1, by omega, by go_num, by rw [← hq.out, List.drop_eq_getElem_cons hlt, List.drop_eq_getElem_cons hlt']; rw [← beq_toListBytes] at ht; simp [eqC, hs, ht], Below.drewN hb _, hz, ⟨h0, h1, h2, h3⟩, ⟨h0', h1', h2', h3'⟩⟩
                      case measure => simp [intOf]; omega
                · have hC : Hid (eqC a.cache b.cache = true) := by
                    have e : k = a.cache.length := by omega
                    unfold Hid; rw [← hq.out, e, List.drop_length]; simp [eqC]
                  go_wp2
                  go_ret
                  exact ⟨by have g1 := g1'.out; have g2 := g2'.out; simp at g1 g2; simp [sameW, hP.out, hC.out, hl3h.out, hl4h.out, g1, g2], hb⟩
        · go_enter Try.func15, Try.ntmps15
          go_wp2
          go_ret
          exact ⟨by simp at g4; simp [sameW]; omega, hbw _ _⟩
      · go_enter Try.func15, Try.ntmps15
        go_wp2
        go_ret
        exact ⟨by simp at g3; simp [sameW]; omega, hbw _ _⟩
    · go_enter Try.func15, Try.ntmps15
      go_wp2
      go_ret
      exact ⟨by simp at g2; simp [sameW, g2], hbw _ _⟩
  · go_enter Try.func15, Try.ntmps15
    go_wp2
    go_ret
    exact ⟨by simp at g1; simp [sameW, g1], hbw _ _⟩
end Go.Proofs.Ytjbcagijfodfgaa
