/- Check of layer 47, of the program and the reference. -/
import Derived.Test.YtfligkncdlocaaaIbSmall
import Derived.Test.YtfligkncdlocaaaShelf
namespace Go.Proofs.Ytfligkncdlocaaa
open Go.RowKit Go.Shelf

abbrev ClS : Type := { c : Cl // c.ok }
instance : Inhabited ClS := ⟨⟨Cl.zero, Cl.zero_ok⟩⟩
def ClS.enc (x : ClS) : List Value := x.1.cells
def clS (t : List Cl) (h : Tok t) : List ClS := t.attach.map fun c => ⟨c.1, h c.1 c.2⟩
theorem clS_len (t : List Cl) (h : Tok t) : (clS t h).length = t.length := by simp [clS]
theorem clS_get (t : List Cl) (h : Tok t) (j : Nat) (hj : j < t.length) : ((clS t h)[j]!).1 = t[j] := by
  rw [getElem!_pos _ _ (by rw [clS_len]; exact hj)]
  simp [clS]
theorem clS_any (t : List Cl) (h : Tok t) (p : Cl → Bool) : (clS t h).any (fun x => p x.1) = t.any p := by
  unfold clS
  rw [List.any_map]
  show t.attach.any ((fun c => p c) ∘ Subtype.val) = _
  rw [← List.any_map, List.attach_map_subtype_val]
theorem isAggCl (w : World) : (isAgg 50).run Try.prog w = .ok true w := by simp [isAgg, run_underlying structCl]
theorem sizeOfCl (w : World) : (Go.sizeOf 50).run Try.prog w = .ok 65 w := by
  obtain ⟨i, hi, _, hs, _⟩ := info_parts infoCl
  simp [sizeOf, typeInfo, hi, hs]
/-- slices.ContainsFunc over a table -/
theorem contains_tab {S : Nat → Prop} {w : World} {v : Value} {t : List Cl} (h : TabR S w v t) (hl : 0 < t.length) (p : Cl → Bool) (g : Nat) (eg : ∀ args w, (callFunc g args).run Try.prog w = .ok (.enter g args) w)
    (hp : ∀ W (c : Cl), c.ok → Below w.heap.size w W → Calls Try.prog g #[c.V] W fun e w' => e = .returned (.bool (p c)) ∧ Below w.heap.size w w') :
    Calls Try.prog 30 #[v, .func (.func g) #[] #[]] w fun e w' => e = .returned (.bool (t.any p)) ∧ Below w.heap.size w w' := by
  obtain ⟨b, off, c, rfl, h1, h2, _, hb, _⟩ := h.at hl
  have hcon := AnyQ.slices_ContainsFunc Try.l_contains 65 isAggCl sizeOfCl ClS.enc (fun x => Cl.len x.2) (fun x => p x.1) g #[] eg b off t.length c (clS t h.2) w
    (fun W x hb => hp W x.1 x.2 hb) (by rw [clS_len]; exact Nat.le_refl _) (by unfold maxLen at h2; omega) hb (fun j hj i v hi => by
      rw [clS_len] at hj
      obtain ⟨b', off', c', e', _, _, _, _, hr⟩ := h.at hj
      injection e' with e1 _ e3
      injection e1 with e1
      injection e1 with e1 e2
      subst e1 e2
      refine hr i v ?_
      rw [ClS.enc, clS_get t h.2 j hj] at hi
      exact hi)
  rw [List.take_of_length_le (by rw [clS_len]; exact Nat.le_refl _), clS_any] at hcon
  exact hcon
def checkT (t : List Cl) : Int := if allowedB t.length then (if t.any (fun c => !countsB c.n) then 2 else 0) else 2
set_option maxHeartbeats 1000000 in
theorem iblt_check1 (c : Cl) (w : World) : Calls Try.prog 40 #[c.V] w fun e w' => e = .returned (.bool (!countsB c.n)) ∧ Below w.heap.size w w' := by
  have xb := Bx.new w c.cells.toArray 50
  have hc := xb.cell 0
  have hc0 : (w.alloc (.cells c.cells.toArray 50)).cell? ⟨w.heap.size, 0, none⟩ = some (.int .i64 c.n) := hc
  have hB := Below.one w (.cells c.cells.toArray 50)
  unfold Cl.V
  clear hc
  generalize c.cells.toArray = cs at *
  go_enter Try.func40, Try.ntmps40
  go_wp2_with fail
  refine (iblt_counts c.n _).mono ?_
  rintro e w' ⟨rfl, rfl⟩
  go_wp2
  go_ret
  exact ⟨rfl, hB⟩
set_option maxHeartbeats 1000000 in
theorem iblt_Check {S : Nat → Prop} (w : World) (v : Value) (t : List Cl) (h : TabR S w v t) (hl : t.length ≤ 1000000) : Calls Try.prog 19 #[v] w fun e w' => e = .returned (.int .i64 (checkT t)) ∧ Below w.heap.size w w' := by
  have h0 := h
  obtain ⟨⟨o, c, rfl, hs, hr⟩, hok⟩ := h0
  rw [tabC_size] at h ⊢
  clear hs hr hok
  have eg : ∀ args w, (callFunc 40 args).run Try.prog w = .ok (.enter 40 args) w := enters_of Try.func40 (by kernel_rfl) rfl
  go_enter Try.func19, Try.ntmps19
  go_wp2_with fail
  refine (iblt_new (t.length : Int) _).mono ?_
  rintro e w1 ⟨vn, rfl, _, _, hb1⟩
  unfold newE
  have h1 := h.below hb1
  cases ha : allowedB (t.length : Int)
  · have ek : checkT t = 2 := by simp [checkT, ha]
    go_wp2
    go_ret
    exact ⟨by rw [ek]; rfl, hb1⟩
  · have hpos : 0 < t.length := by have := allowedB_iff.1 ha; omega
    have hcon := contains_tab h1 hpos (fun c => !countsB c.n) 40 eg (fun W c _ hb => (iblt_check1 c W).mono fun e w' ⟨he, hb'⟩ => ⟨he, hb.trans (hb'.mono hb.size)⟩)
    go_wp2_with fail
    refine hcon.mono ?_
    rintro e w2 ⟨rfl, hb2⟩
    have hB := Below.then hb1 hb2 hb1.size
    cases hk : t.any (fun c => !countsB c.n)
    · have ek : checkT t = 0 := by unfold checkT; rw [ha, hk]; rfl
      go_wp2
      go_ret
      exact ⟨by rw [ek]; rfl, hB⟩
    · have ek : checkT t = 2 := by unfold checkT; rw [ha, hk]; rfl
      go_wp2
      go_ret
      exact ⟨by rw [ek]; rfl, hB⟩
theorem take_any_succ {α : Type} {t : List α} {p : α → Bool} {k : Nat} (h : k < t.length) : (t.take (k + 1)).any p = ((t.take k).any p || p t[k]) := by
  rw [List.take_succ_eq_append_getElem h, List.any_append]; simp
set_option maxHeartbeats 1000000 in
theorem ref47_Check {S : Nat → Prop} (w : World) (v : Value) (t : List Cl) (h : TabR S w v t) (hl : t.length ≤ 1000000) : Calls Try.prog 20 #[v] w fun e w' => e = .returned (.int .i64 (checkT t)) ∧ w = w' := by
  have h0 := h
  obtain ⟨⟨o, c, rfl, hs, hr⟩, hok⟩ := h0
  rw [tabC_size] at h ⊢
  clear hs hr hok
  go_enter Try.func20, Try.ntmps20
  go_wp2_with fail
  refine (ref47_allowed (t.length : Int) _).mono ?_
  rintro e w1 ⟨rfl, rfl⟩
  cases ha : allowedB (t.length : Int)
  · have ek : checkT t = 2 := by simp [checkT, ha]
    go_wp2
    go_ret
    exact ⟨by rw [ek]; rfl, rfl⟩
  · go_wp2
    go_loopw [3] (fun i wr => ∃ k : Nat, k ≤ t.length ∧ i = .int .i64 k ∧ (t.take k).any (fun c => !countsB c.n) = false ∧ wr = w) (fun i _ => t.length - (intOf i).toNat)
    case atStart => exact ⟨0, by omega, rfl, rfl, rfl⟩
    case round =>
      obtain ⟨k, hk, rfl, hany, rfl⟩ := hrel
      by_cases hlt : k < t.length
      · have hlt' : (k : Int) < (t.length : Int) := by omega
        obtain ⟨b, off, c', e', h1, h2, _, hb, hra⟩ := h.at hlt
        have hcc := Cl.count_at hra
        injection e' with e1 _ e3
        subst e1 e3
        have hsu := take_any_succ (p := fun c : Cl => !countsB c.n) hlt
        rw [hany, Bool.false_or] at hsu
        have Hsu := Lib.hid hsu
        clear hsu hra
        generalize hx : t[k].n = x at *
        cases g1 : decide (x < -1099511627776)
        · cases g2 : decide (1099511627776 < x)
          · have hcb : countsB x = true := by simp [countsB]; have := of_decide_eq_false g1; have := of_decide_eq_false g2; omega
            go_wp2
            go_roundw
            case rel => exact ⟨k + 1, by omega, by go_num, by rw [Hsu.out, hcb]; rfl, trivial⟩
            case measure => simp [intOf]; omega
          · have hcb : countsB x = false := by simp [countsB]; have := of_decide_eq_true g2; omega
            have ek : checkT t = 2 := by
              have : t.any (fun c => !countsB c.n) = true := by rw [List.any_eq_true]; exact ⟨t[k], List.getElem_mem hlt, by rw [hx, hcb]; rfl⟩
              unfold checkT; rw [ha, this]; rfl
            go_wp2
            go_ret
            exact ⟨rfl, rfl⟩
        · have hcb : countsB x = false := by simp [countsB]; have := of_decide_eq_true g1; omega
          have ek : checkT t = 2 := by
            have : t.any (fun c => !countsB c.n) = true := by rw [List.any_eq_true]; exact ⟨t[k], List.getElem_mem hlt, by rw [hx, hcb]; rfl⟩
            unfold checkT; rw [ha, this]; rfl
          go_wp2
          go_ret
          exact ⟨rfl, rfl⟩
      · obtain rfl : k = t.length := by omega
        have hlt' : ¬ (t.length : Int) < (t.length : Int) := by omega
        rw [List.take_length] at hany
        have ek : checkT t = 0 := by unfold checkT; rw [ha, hany]; rfl
        go_wp2
        go_ret
        exact ⟨rfl, rfl⟩
end Go.Proofs.Ytfligkncdlocaaa
