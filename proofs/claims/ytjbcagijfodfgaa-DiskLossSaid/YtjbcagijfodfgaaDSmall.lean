/- Contracts of taken, share, power, operate, content and the reference's Read (layer 40). -/
import Derived.Test.YtjbcagijfodfgaaDSpec
import Derived.Test.YtjbcagijfodfgaaDChk
import Derived.BigQuiet
import Derived.Deep.QuietTactic
namespace Go.Proofs.Ytjbcagijfodfgaa
open Go.RowKit

def IntsAt (S : Nat → Prop) (w : World) (o : Option Addr) (l : List Int) : Prop :=
  ∀ i (h : i < l.length), ∃ b off, o = some ⟨b, off, none⟩ ∧ w.cell? ⟨b, off + i, none⟩ = some (.int .i64 l[i]) ∧ S b
theorem IntsAt.of_row {S : Nat → Prop} {w : World} {o : Option Addr} {l : List Int} (h : RowAt S w o (l.map (.int .i64))) : IntsAt S w o l := by
  intro i hi
  obtain ⟨b, off, e, hc, hs⟩ := h i (by simpa using hi)
  exact ⟨b, off, e, by simpa using hc, hs⟩
theorem IntsAt.row {S : Nat → Prop} {w : World} {o : Option Addr} {l : List Int} (h : IntsAt S w o l) : RowAt S w o (l.map (.int .i64)) := by
  intro i hi
  obtain ⟨b, off, e, hc, hs⟩ := h i (by simpa using hi)
  exact ⟨b, off, e, by simpa using hc, hs⟩
theorem IntsAt.below {S : Nat → Prop} {w w' : World} {o : Option Addr} {l : List Int} (h : IntsAt S w o l) (hb : Below w.heap.size w w') : IntsAt S w' o l := .of_row (h.row.below hb)
theorem IntsAt.same {S : Nat → Prop} {w w' : World} {o : Option Addr} {l : List Int} (h : IntsAt S w o l) (hb : Same S w w') : IntsAt S w' o l := .of_row (h.row.same hb)

set_option maxHeartbeats 400000 in
theorem ref40_share (p s : Int) (hs : 0 ≤ s) (hs' : s ≤ 140737488351232) (w : World) : Calls Try.prog 30 #[.int .i64 p, .int .i64 s] w fun e w' =>
    e = .returned (.int .i64 (shareI p s)) ∧ w = w' := by
  have hb := shareI_bd p s hs
  unfold shareI at *
  go_enter Try.func30, Try.ntmps30
  go_wp2
  all_goals go_ret
  all_goals exact ⟨rfl, rfl⟩

set_option maxHeartbeats 400000 in
theorem disk_taken (l : List Int) (o : Option Addr) (c k : Nat) (s : Int) (hs : 0 ≤ s) (hs' : s ≤ 140737488351232) (_hl : l.length ≤ 140737488351232) (_hk : k ≤ 140737488351232) (w : World) {S : Nat → Prop} (hi : IntsAt S w o l) :
    Calls Try.prog 29 #[.slice o l.length c, .int .i64 k, .int .i64 s] w fun e w' => e = .returned (.int .i64 (takenI l k s)) ∧ w = w' := by
  unfold takenI
  by_cases hlt : k < l.length
  · obtain ⟨b, off, rfl, hcell, _⟩ := hi k hlt
    rw [dif_pos hlt]
    have hb := shareI_bd l[k] s hs
    unfold shareI at *
    go_enter Try.func29, Try.ntmps29
    go_wp2
    all_goals go_ret
    all_goals exact ⟨rfl, rfl⟩
  · rw [dif_neg hlt]
    go_enter Try.func29, Try.ntmps29
    go_wp2
    all_goals go_ret
    all_goals exact ⟨rfl, rfl⟩

theorem opD_ok {d : Dsk} {po co : Option Addr} {pc cc : Nat} (h : DskOk d po co pc cc) : DskOk (opD d) po co pc cc := by
  refine ⟨h.slp, h.slc, h.pages, h.cache, h.strs, h.datas, ?_⟩
  have := h.left
  simp only [opD]
  split <;> omega

set_option maxHeartbeats 400000 in
theorem disk_power (d : Dsk) (v : Value) (w : World) {S : Nat → Prop} (hD : DskR S w v d) :
    Calls Try.prog 32 #[v] w (RetDB S w (if d.left = 0 then d else opD d) (!(d.left == 0))) := by
  obtain ⟨po, pc, co, cc, rfl, hp, hc, ok⟩ := hD
  have hl := ok.left
  cases h0 : (d.left == 0)
  · rw [if_neg (by simpa using h0)]
    have hok := opD_ok ok
    by_cases h1 : 0 < d.left
    all_goals
      go_enter Try.func32, Try.ntmps32
      go_wp2
      refine bodyPost_ret (v := .tuple #[.agg #[.int .i64 (opD d).size, .slice po d.pages.length pc, .slice co d.cache.length cc, .int .i64 (opD d).left], .bool true]) (by simp [results, Try.results32, go_sem, opD, h1] <;> omega) rfl ?_
      exact ⟨_, rfl, ⟨po, pc, co, cc, rfl, (hp.below (((Below.refl _ _).alloc (Nat.le_refl _) _).alloc (by simp) _)).mono (fun _ => .inl), (hc.below (((Below.refl _ _).alloc (Nat.le_refl _) _).alloc (by simp) _)).mono (fun _ => .inl), hok⟩, ((Below.refl _ _).alloc (Nat.le_refl _) _).alloc (by simp) _⟩
  · rw [if_pos (by simpa using h0)]
    go_enter Try.func32, Try.ntmps32
    go_wp2
    refine bodyPost_ret (v := .tuple #[.agg #[.int .i64 d.size, .slice po d.pages.length pc, .slice co d.cache.length cc, .int .i64 d.left], .bool false]) (by simp [results, Try.results32, go_sem]) rfl ?_
    exact ⟨_, rfl, ⟨po, pc, co, cc, rfl, (hp.below (((Below.refl _ _).alloc (Nat.le_refl _) _).alloc (by simp) _)).mono (fun _ => .inl), (hc.below (((Below.refl _ _).alloc (Nat.le_refl _) _).alloc (by simp) _)).mono (fun _ => .inl), ok⟩, ((Below.refl _ _).alloc (Nat.le_refl _) _).alloc (by simp) _⟩

set_option maxHeartbeats 400000 in
theorem ref40_operate (d : Dsk) (v : Value) (w : World) {S : Nat → Prop} (hD : DskR S w v d) :
    Calls Try.prog 34 #[v] w (RetDE S w (if d.left = 0 then d else opD d) (if d.left = 0 then 18 else 0)) := by
  obtain ⟨po, pc, co, cc, rfl, hp, hc, ok⟩ := hD
  have hl := ok.left
  cases h0 : (d.left == 0)
  · rw [if_neg (by simpa using h0), if_neg (by simpa using h0)]
    have hok := opD_ok ok
    by_cases h1 : 0 < d.left
    all_goals
      go_enter Try.func34, Try.ntmps34
      go_wp2
      refine bodyPost_ret (v := .tuple #[.agg #[.int .i64 (opD d).size, .slice po d.pages.length pc, .slice co d.cache.length cc, .int .i64 (opD d).left], .int .i64 0]) (by simp [results, Try.results34, go_sem, opD, h1] <;> omega) rfl ?_
      exact ⟨_, rfl, ⟨po, pc, co, cc, rfl, (hp.below (((Below.refl _ _).alloc (Nat.le_refl _) _).alloc (by simp) _)).mono (fun _ => .inl), (hc.below (((Below.refl _ _).alloc (Nat.le_refl _) _).alloc (by simp) _)).mono (fun _ => .inl), hok⟩, ((Below.refl _ _).alloc (Nat.le_refl _) _).alloc (by simp) _⟩
  · rw [if_pos (by simpa using h0), if_pos (by simpa using h0)]
    go_enter Try.func34, Try.ntmps34
    go_wp2
    refine bodyPost_ret (v := .tuple #[.agg #[.int .i64 d.size, .slice po d.pages.length pc, .slice co d.cache.length cc, .int .i64 d.left], .int .i64 18]) (by simp [results, Try.results34, go_sem]) rfl ?_
    exact ⟨_, rfl, ⟨po, pc, co, cc, rfl, (hp.below (((Below.refl _ _).alloc (Nat.le_refl _) _).alloc (by simp) _)).mono (fun _ => .inl), (hc.below (((Below.refl _ _).alloc (Nat.le_refl _) _).alloc (by simp) _)).mono (fun _ => .inl), ok⟩, ((Below.refl _ _).alloc (Nat.le_refl _) _).alloc (by simp) _⟩

set_option maxHeartbeats 1000000 in
theorem ref40_content (d : Dsk) (v : Value) (i : Nat) (hi : i < d.pages.length) (w : World) {S : Nat → Prop} (hD : DskR S w v d) :
    Calls Try.prog 36 #[v, .int .i64 i] w fun e w' => e = .returned (.string (contentD d i hi)) ∧ Below w.heap.size w w' := by
  obtain ⟨po, pc, co, cc, rfl, hp, hc, ok⟩ := hD
  have ok1 := ok.pages
  have ok2 := ok.cache
  obtain ⟨b, off, rfl, hcell0, _⟩ := hp i hi
  have hlt0 : b < w.heap.size := World.block_lt_of_cell? w _ hcell0
  clear ok
  unfold contentD
  go_enter Try.func36, Try.ntmps36
  go_wp2
  go_loopw [5, 6] (fun s q wr => ∃ (k : Nat) (x : ByteArray), k ≤ d.cache.length ∧ s = .string x ∧ q = .int .i64 k ∧ lastW i (d.cache.drop k) x = lastW i d.cache d.pages[i] ∧ Below w.heap.size w wr ∧ w.heap.size < wr.heap.size ∧ BoxD wr w.heap.size d.size d.left (some ⟨b, off, none⟩) co d.pages.length pc d.cache.length cc) (fun _ q _ => d.cache.length - (intOf q).toNat)
  case atStart => exact ⟨0, d.pages[i], Nat.zero_le _, rfl, rfl, rfl, (Below.refl _ _).alloc (Nat.le_refl _) _, by simp, by simp, by simp, by simp, by simp⟩
  case round =>
    obtain ⟨k, x, hk, rfl, rfl, hq0, hb, hz, hB⟩ := hrel
    have hq := Lib.hid hq0; clear hq0
    obtain ⟨h0, h1, h2, h3⟩ := hB
    clear hcell0 hlt0 ok1
    by_cases hlt : k < d.cache.length
    · obtain ⟨b, off, rfl, hcell0, hcell1, _⟩ := hc k hlt
      have hcell : wr.cell? ⟨b, off + k * 2, none⟩ = some (.int .i64 d.cache[k].page) := by rw [hb.cell (World.block_lt_of_cell? w _ hcell0)]; exact hcell0
      have hcell' : wr.cell? ⟨b, off + k * 2 + 1, none⟩ = some (.string d.cache[k].data) := by rw [hb.cell (World.block_lt_of_cell? w _ hcell1)]; exact hcell1
      clear hcell0 hcell1
      cases g1 : (d.cache[k].page == (i : Int))
      · go_wp2
        go_roundw
        case rel => exact ⟨k + 1, x, by omega, rfl, by go_num, by rw [← lastW_miss hlt x g1]; exact hq.out, hb, hz, h0, h1, h2, h3⟩
        case measure => simp [intOf]; omega
      · go_wp2
        go_roundw
        case rel => exact ⟨k + 1, d.cache[k].data, by omega, rfl, by go_num, by rw [← lastW_hit hlt x g1]; exact hq.out, hb, hz, h0, h1, h2, h3⟩
        case measure => simp [intOf]; omega
    · obtain rfl : k = d.cache.length := by omega
      go_wp2
      go_ret
      exact ⟨by rw [← hq.out]; simp [lastW], hb⟩

set_option maxHeartbeats 1000000 in
theorem ref40_read (d : Dsk) (v : Value) (i : Int) (w : World) {S : Nat → Prop} (hD : DskR S w v d) :
    Calls Try.prog 26 #[v, .int .i64 i] w fun e w' => e = .returned (.tuple #[.string (readD d i).1, .int .i64 (readD d i).2]) ∧ Below w.heap.size w w' := by
  have hD0 := hD
  obtain ⟨po, pc, co, cc, rfl, hp, hc, ok⟩ := hD
  have ok1 := ok.pages
  clear ok hp hc
  have hbw : ∀ o, Below w.heap.size w (w.alloc o) := fun o => (Below.refl _ _).alloc (Nat.le_refl _) _
  unfold readD
  cases hz : (chk d != 0)
  · rw [if_neg (by simpa using hz)]
    by_cases hn : i < 0
    · rw [if_pos hn]
      go_enter Try.func26, Try.ntmps26
      go_wp2_with fail
      refine (ref40_check d _ _ (hD0.below (hbw _))).mono ?_
      rintro e w' ⟨rfl, hb⟩
      go_wp2
      go_ret2
      exact ⟨rfl, (hbw _).trans (hb.mono (by simp))⟩
    · rw [if_neg hn]
      obtain ⟨k, rfl⟩ := Int.eq_ofNat_of_zero_le (Int.not_lt.1 hn)
      rw [Int.toNat_natCast]
      by_cases hk : k < d.pages.length
      · rw [dif_pos hk]
        go_enter Try.func26, Try.ntmps26
        go_wp2_with fail
        refine (ref40_check d _ _ (hD0.below (hbw _))).mono ?_
        rintro e w' ⟨rfl, hb⟩
        obtain ⟨hcl, hfr⟩ := bcell hb
        go_wp2_with fail
        refine (ref40_content d _ k hk _ ((hD0.below (hbw _)).below hb)).mono ?_
        rintro e w2 ⟨rfl, hb2⟩
        go_wp2
        go_ret2
        exact ⟨rfl, ((hbw _).trans (hb.mono (by simp))).trans (hb2.mono (by have := hb.size; simp at this; omega))⟩
      · rw [dif_neg hk]
        go_enter Try.func26, Try.ntmps26
        go_wp2_with fail
        refine (ref40_check d _ _ (hD0.below (hbw _))).mono ?_
        rintro e w' ⟨rfl, hb⟩
        obtain ⟨hcl, hfr⟩ := bcell hb
        go_wp2
        go_ret2
        exact ⟨rfl, (hbw _).trans (hb.mono (by simp))⟩
  · rw [if_pos (by simpa using hz)]
    go_enter Try.func26, Try.ntmps26
    go_wp2_with fail
    refine (ref40_check d _ _ (hD0.below (hbw _))).mono ?_
    rintro e w' ⟨rfl, hb⟩
    go_wp2
    go_ret2
    exact ⟨rfl, (hbw _).trans (hb.mono (by simp))⟩
end Go.Proofs.Ytjbcagijfodfgaa
