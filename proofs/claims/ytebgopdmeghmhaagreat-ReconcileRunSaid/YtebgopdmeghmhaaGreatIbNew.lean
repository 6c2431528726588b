/- New, Check, counts of layer 47, of the program and the reference. Check of layer 47, of the program and the reference. New of the reference of layer 47. iblt.cells: the contract of its iterator: the three cells of a digest. -/
import Derived.Test.YtebgopdmeghmhaaGreatLazyIn
import Derived.Test.YtebgopdmeghmhaaGreatTab
import Derived.Test.YtebgopdmeghmhaaGreatShelf
import Derived.RangeFuncBox
import Derived.RangeFuncNested
import Derived.RangeFuncLeaves
import Derived.Shelf.Abstract
import Derived.Shelf.RegionOpen
import Derived.WalkKit
import Derived.TacticsInMore
import Derived.LoopNIn
import Derived.LoopIn
import Derived.Test.YtebgopdmeghmhaaGreatShB
namespace Go.Proofs.YtebgopdmeghmhaaGreat
open Go.RowKit

def allowedB (n : Int) : Bool := decide (3 ≤ n) && (decide (n ≤ 3000) && (n % 3 == 0))
def countsB (n : Int) : Bool := decide (-1099511627776 ≤ n) && decide (n ≤ 1099511627776)
def newE (n : Int) : Int := if allowedB n then 0 else 2
def newT (n : Int) : List Cl := if allowedB n then List.replicate n.toNat Cl.zero else []
theorem tmod3 {n : Int} (h : 3 ≤ n) : n.tmod 3 = n % 3 := Int.tmod_eq_emod_of_nonneg (by omega)
theorem allowedB_iff {n : Int} : allowedB n = true ↔ 3 ≤ n ∧ n ≤ 3000 ∧ n % 3 = 0 := by simp [allowedB]
theorem Tok.rep (n : Nat) : Tok (List.replicate n Cl.zero) := by
  intro c hc
  rw [(List.mem_replicate.1 hc).2]; exact Cl.zero_ok

set_option maxHeartbeats 1000000 in
theorem iblt_counts (n : Int) (w : World) : Calls Tryz.prog 47 #[.int .i64 n] w fun e w' => e = .returned (.bool (countsB n)) ∧ w = w' := by
  go_enter Tryz.func47, Tryz.ntmps47
  unfold countsB
  cases h : decide (-1099511627776 ≤ n)
  · go_wp2
    go_ret
    exact ⟨by simp, rfl⟩
  · go_wp2
    go_ret
    exact ⟨by simp, rfl⟩
set_option maxHeartbeats 1000000 in
theorem ref47_allowed (n : Int) (w : World) : Calls Tryz.prog 76 #[.int .i64 n] w fun e w' => e = .returned (.bool (allowedB n)) ∧ w = w' := by
  go_enter Tryz.func76, Tryz.ntmps76
  unfold allowedB
  cases h : decide (3 ≤ n)
  · go_wp2
    go_ret
    exact ⟨by simp, rfl⟩
  · have h3 := tmod3 (of_decide_eq_true h)
    cases h2 : decide (n ≤ 3000)
    · go_wp2
      go_ret
      exact ⟨by simp, rfl⟩
    · go_wp2
      go_ret
      exact ⟨by simp, rfl⟩
theorem made_flat (z : List Value) (n : Nat) (hz : 0 < z.length) : (madeCells z.toArray (n * z.length)).toList = (List.replicate n z).flatten := by
  have hL : ∀ x ∈ List.replicate n z, x.length = z.length := fun x hx => by rw [(List.mem_replicate.1 hx).2]
  apply List.ext_getElem?
  intro j
  by_cases hj : j < n * z.length
  · obtain ⟨q, r, hr, rfl⟩ : ∃ q r, r < z.length ∧ j = q * z.length + r := ⟨j / z.length, j % z.length, Nat.mod_lt _ hz, by rw [Nat.mul_comm]; exact (Nat.div_add_mod j _).symm⟩
    have hq : q < n := by
      rcases Nat.lt_or_ge q n with h | h
      · exact h
      · have := Nat.mul_le_mul_right z.length h; omega
    rw [flat_get hL _ _ hr]
    simp [madeCells, hj, hq, hr, Nat.mod_eq_of_lt hr]
  · rw [List.getElem?_eq_none (by simp [madeCells]; omega), List.getElem?_eq_none (by rw [flat_len hL, List.length_replicate]; omega)]
section
variable {P : Program} {ops : Array Oper} {rest : List Oper} {o : Oper} {a : Act} {Q : Exit → Act → World → Prop} {w : World}
/-- 'make([]T, n)', an element of many cells -/
theorem wpList_makeR (hgd : o.guard = none) (l c : Operand) (t : TypeId) (hop : o.op = Op.makeSlice t l c)
    (e : TypeId) (i : TypeInfo) (z : List Value) (m bytes : Nat) (ht : P.underlying t = some (.slice e)) (hi : P.info? e = some i) (hz : i.zero = some (.agg z.toArray)) (hsize : i.size = m) (hby : i.bytes = bytes) (hzl : z.length = m) (hm : 0 < m)
    (n : Nat) (hl : a.eval l = .int .i64 n) (hc : a.eval c = .int .i64 n) (hb : bytes * n ≤ 281474976710656) (h63 : n ≤ maxLen)
    (hK : ∀ w', w'.ownsRow w.heap.size e m (.slice (some ⟨w.heap.size, 0, none⟩) n n) n (List.replicate n z).flatten → w.grownBy w' none → w'.heap.size = w.heap.size + 1 → wpList P ops Q rest (a.put o.dst (.slice (some ⟨w.heap.size, 0, none⟩) n n)) w') :
    wpList P ops Q (o :: rest) a w := by
  refine wpList_plain hgd fun K hK' => ?_
  have hb' : (i.bytes : Int) * (n : Int) ≤ 281474976710656 := by
    have h : ((i.bytes * n : Nat) : Int) ≤ 281474976710656 := by rw [hby]; omega
    rwa [Int.natCast_mul] at h
  have h63' : (n : Int) ≤ 9223372036854775807 := by simp only [maxLen] at h63; omega
  have hrun := run_make (P := P) w t e i (.agg z.toArray) ht hi hz .i64 .i64 n n (by omega) (Int.le_refl _) hb' h63'
  rw [hsize] at hrun
  simp only [Int.toNat_natCast, Value.cells] at hrun
  unfold Oper.wp
  simp [execOp, hop, hl, hc, hrun, Result.andThen]
  have hfl := made_flat z n (by omega)
  rw [hzl] at hfl
  have hlen : (madeCells z.toArray (n * m)).size = n * m := by simp [madeCells]
  refine hK' _ _ (hK _ ⟨?_, .inr ⟨w.heap.size, n, _, rfl, Nat.le_refl _, Bx.new w _ _, Nat.le_refl _, h63, hlen, ?_⟩⟩ (World.grownBy_alloc w _ none) (World.size_alloc _ _))
  · rw [← hfl]; simpa using hlen
  · rw [← hfl, List.take_of_length_le (by simp [hlen])]
end
/-- what New answers -/
def NewP (w : World) (n : Int) (e : Ending) (w' : World) : Prop :=
  ∃ v, e = .returned (.tuple #[v, .int .i64 (newE n)]) ∧ (allowedB n = false → v = .slice none 0 0) ∧ (allowedB n = true → w'.ownsRow w.heap.size 67 65 v (newT n).length (tabC (newT n)).flatten) ∧ Below w.heap.size w w'
set_option maxHeartbeats 1000000 in
theorem iblt_new (n : Int) (w : World) : Calls Tryz.prog 43 #[.int .i64 n] w (NewP w n) := by
  obtain ⟨ic, hi, hz, hs, hby⟩ := info_parts infoCl
  rw [zeroCl'] at hz
  have Hz := Lib.hid hz
  clear hz
  go_enter Tryz.func43, Tryz.ntmps43
  cases h : decide (n < 3)
  · have hn3 : 3 ≤ n := by have := of_decide_eq_false h; omega
    have h3 := tmod3 hn3
    cases h2 : decide (3000 < n)
    · cases h4 : (n % 3 != 0)
      · have hn := of_decide_eq_false h2
        obtain ⟨k, rfl⟩ : ∃ k : Nat, n = (k : Int) := ⟨n.toNat, by omega⟩
        go_wp2_with (refine wpList_makeR rfl (.tmp 15) (.tmp 15) 24 rfl 67 ic Cl.zero.cells 65 72 Tryz.underlying24 hi Hz.out hs hby (Cl.len Cl.zero_ok) (by decide) k rfl rfl (by omega) (by unfold maxLen; omega) ?_; intro w2 ho hg hz2)
        have ha : allowedB (k : Int) = true := by simp [allowedB]; have := of_decide_eq_false h; simp at h4; omega
        refine bodyPost_ret (v := .tuple #[.slice (some ⟨w.heap.size, 0, none⟩) k k, .int .i64 0]) (by simp [results, Tryz.results43, go_sem]) rfl ?_
        have e1 : newE (k : Int) = 0 := by simp [newE, ha]
        have e2 : newT (k : Int) = List.replicate k Cl.zero := by simp [newT, ha]
        unfold NewP
        refine ⟨.slice (some ⟨w.heap.size, 0, none⟩) k k, by rw [e1], (fun h => by rw [ha] at h; cases h), fun _ => ?_, (Below.refl w.heap.size w).grown hg (Nat.le_refl _) (fun k e => by cases e)⟩
        rw [e2, List.length_replicate, tabC, List.map_replicate]
        exact ho
      · have ha : allowedB n = false := by simp [allowedB]; intro _ _; simpa using h4
        go_wp2
        refine bodyPost_ret (v := .tuple #[.slice none 0 0, .int .i64 2]) (by simp [results, Tryz.results43, go_sem]) rfl ?_
        exact ⟨.slice none 0 0, by rw [show newE n = 2 by simp [newE, ha]], fun _ => rfl, (fun h => by rw [ha] at h; cases h), Below.refl _ _⟩
    · have ha : allowedB n = false := by simp [allowedB]; intro _ h5; have := of_decide_eq_true h2; omega
      go_wp2
      refine bodyPost_ret (v := .tuple #[.slice none 0 0, .int .i64 2]) (by simp [results, Tryz.results43, go_sem]) rfl ?_
      exact ⟨.slice none 0 0, by rw [show newE n = 2 by simp [newE, ha]], fun _ => rfl, (fun h => by rw [ha] at h; cases h), Below.refl _ _⟩
  · have ha : allowedB n = false := by simp [allowedB]; intro h5; have := of_decide_eq_true h; omega
    go_wp2
    refine bodyPost_ret (v := .tuple #[.slice none 0 0, .int .i64 2]) (by simp [results, Tryz.results43, go_sem]) rfl ?_
    exact ⟨.slice none 0 0, by rw [show newE n = 2 by simp [newE, ha]], fun _ => rfl, (fun h => by rw [ha] at h; cases h), Below.refl _ _⟩
end Go.Proofs.YtebgopdmeghmhaaGreat
namespace Go.Proofs.YtebgopdmeghmhaaGreat
open Go.RowKit Go.Shelf

abbrev ClS : Type := { c : Cl // c.ok }
instance : Inhabited ClS := ⟨⟨Cl.zero, Cl.zero_ok⟩⟩
def ClS.enc (x : ClS) : List Value := x.1.cells
def clS (t : List Cl) (h : Tok t) : List ClS := t.attach.map fun c => ⟨c.1, h c.1 c.2⟩
theorem clS_len (t : List Cl) (h : Tok t) : (clS t h).length = t.length := by simp [clS]
theorem clS_get (t : List Cl) (h : Tok t) (j : Nat) (hj : j < t.length) : ((clS t h)[j]!).1 = t[j] := by
  rw [getElem!_pos _ _ (by rw [clS_len]; exact hj)]
  simp [clS]
theorem clS_any (t : List Cl) (h : Tok t) (p : Cl → Bool) : (clS t h).any (fun x => p x.1) = t.any p := by
  unfold clS
  rw [List.any_map]
  show t.attach.any ((fun c => p c) ∘ Subtype.val) = _
  rw [← List.any_map, List.attach_map_subtype_val]
theorem isAggCl (w : World) : (isAgg 67).run Tryz.prog w = .ok true w := by simp [isAgg, run_underlying structCl]
theorem sizeOfCl (w : World) : (Go.sizeOf 67).run Tryz.prog w = .ok 65 w := by
  obtain ⟨i, hi, _, hs, _⟩ := info_parts infoCl
  simp [sizeOf, typeInfo, hi, hs]
/-- slices.ContainsFunc over a table -/
theorem contains_tab {S : Nat → Prop} {w : World} {v : Value} {t : List Cl} (h : TabR S w v t) (hl : 0 < t.length) (p : Cl → Bool) (g : Nat) (eg : ∀ args w, (callFunc g args).run Tryz.prog w = .ok (.enter g args) w)
    (hp : ∀ W (c : Cl), c.ok → Below w.heap.size w W → Calls Tryz.prog g #[c.V] W fun e w' => e = .returned (.bool (p c)) ∧ Below w.heap.size w w') :
    Calls Tryz.prog 49 #[v, .func (.func g) #[] #[]] w fun e w' => e = .returned (.bool (t.any p)) ∧ Below w.heap.size w w' := by
  obtain ⟨b, off, c, rfl, h1, h2, _, hb, _⟩ := h.at hl
  have hcon := AnyQ.slices_ContainsFunc Tryz.l_contains 65 isAggCl sizeOfCl ClS.enc (fun x => Cl.len x.2) (fun x => p x.1) g #[] eg b off t.length c (clS t h.2) w
    (fun W x hb => hp W x.1 x.2 hb) (by rw [clS_len]; exact Nat.le_refl _) (by unfold maxLen at h2; omega) hb (fun j hj i v hi => by
      rw [clS_len] at hj
      obtain ⟨b', off', c', e', _, _, _, _, hr⟩ := h.at hj
      injection e' with e1 _ e3
      injection e1 with e1
      injection e1 with e1 e2
      subst e1 e2
      refine hr i v ?_
      rw [ClS.enc, clS_get t h.2 j hj] at hi
      exact hi)
  rw [List.take_of_length_le (by rw [clS_len]; exact Nat.le_refl _), clS_any] at hcon
  exact hcon
def checkT (t : List Cl) : Int := if allowedB t.length then (if t.any (fun c => !countsB c.n) then 2 else 0) else 2
set_option maxHeartbeats 1000000 in
theorem iblt_check1 (c : Cl) (w : World) : Calls Tryz.prog 74 #[c.V] w fun e w' => e = .returned (.bool (!countsB c.n)) ∧ Below w.heap.size w w' := by
  have xb := Bx.new w c.cells.toArray 67
  have hc := xb.cell 0
  have hc0 : (w.alloc (.cells c.cells.toArray 67)).cell? ⟨w.heap.size, 0, none⟩ = some (.int .i64 c.n) := hc
  have hB := Below.one w (.cells c.cells.toArray 67)
  unfold Cl.V
  clear hc
  generalize c.cells.toArray = cs at *
  go_enter Tryz.func74, Tryz.ntmps74
  go_wp2_with fail
  refine (iblt_counts c.n _).mono ?_
  rintro e w' ⟨rfl, rfl⟩
  go_wp2
  go_ret
  exact ⟨rfl, hB⟩
set_option maxHeartbeats 1000000 in
theorem iblt_Check {S : Nat → Prop} (w : World) (v : Value) (t : List Cl) (h : TabR S w v t) (hl : t.length ≤ 1000000) : Calls Tryz.prog 45 #[v] w fun e w' => e = .returned (.int .i64 (checkT t)) ∧ Below w.heap.size w w' := by
  have h0 := h
  obtain ⟨⟨o, c, rfl, hs, hr⟩, hok⟩ := h0
  rw [tabC_size] at h ⊢
  clear hs hr hok
  have eg : ∀ args w, (callFunc 74 args).run Tryz.prog w = .ok (.enter 74 args) w := enters_of Tryz.func74 (by kernel_rfl) rfl
  go_enter Tryz.func45, Tryz.ntmps45
  go_wp2_with fail
  refine (iblt_new (t.length : Int) _).mono ?_
  rintro e w1 ⟨vn, rfl, _, _, hb1⟩
  unfold newE
  have h1 := h.below hb1
  cases ha : allowedB (t.length : Int)
  · have ek : checkT t = 2 := by simp [checkT, ha]
    go_wp2
    go_ret
    exact ⟨by rw [ek]; rfl, hb1⟩
  · have hpos : 0 < t.length := by have := allowedB_iff.1 ha; omega
    have hcon := contains_tab h1 hpos (fun c => !countsB c.n) 74 eg (fun W c _ hb => (iblt_check1 c W).mono fun e w' ⟨he, hb'⟩ => ⟨he, hb.trans (hb'.mono hb.size)⟩)
    go_wp2_with fail
    refine hcon.mono ?_
    rintro e w2 ⟨rfl, hb2⟩
    have hB := Below.then hb1 hb2 hb1.size
    cases hk : t.any (fun c => !countsB c.n)
    · have ek : checkT t = 0 := by unfold checkT; rw [ha, hk]; rfl
      go_wp2
      go_ret
      exact ⟨by rw [ek]; rfl, hB⟩
    · have ek : checkT t = 2 := by unfold checkT; rw [ha, hk]; rfl
      go_wp2
      go_ret
      exact ⟨by rw [ek]; rfl, hB⟩
theorem take_any_succ {α : Type} {t : List α} {p : α → Bool} {k : Nat} (h : k < t.length) : (t.take (k + 1)).any p = ((t.take k).any p || p t[k]) := by
  rw [List.take_succ_eq_append_getElem h, List.any_append]; simp
set_option maxHeartbeats 1000000 in
theorem ref47_Check {S : Nat → Prop} (w : World) (v : Value) (t : List Cl) (h : TabR S w v t) (hl : t.length ≤ 1000000) : Calls Tryz.prog 53 #[v] w fun e w' => e = .returned (.int .i64 (checkT t)) ∧ w = w' := by
  have h0 := h
  obtain ⟨⟨o, c, rfl, hs, hr⟩, hok⟩ := h0
  rw [tabC_size] at h ⊢
  clear hs hr hok
  go_enter Tryz.func53, Tryz.ntmps53
  go_wp2_with fail
  refine (ref47_allowed (t.length : Int) _).mono ?_
  rintro e w1 ⟨rfl, rfl⟩
  cases ha : allowedB (t.length : Int)
  · have ek : checkT t = 2 := by simp [checkT, ha]
    go_wp2
    go_ret
    exact ⟨by rw [ek]; rfl, rfl⟩
  · go_wp2
    go_loopw [3] (fun i wr => ∃ k : Nat, k ≤ t.length ∧ i = .int .i64 k ∧ (t.take k).any (fun c => !countsB c.n) = false ∧ wr = w) (fun i _ => t.length - (intOf i).toNat)
    case atStart => exact ⟨0, by omega, rfl, rfl, rfl⟩
    case round =>
      obtain ⟨k, hk, rfl, hany, rfl⟩ := hrel
      by_cases hlt : k < t.length
      · have hlt' : (k : Int) < (t.length : Int) := by omega
        obtain ⟨b, off, c', e', h1, h2, _, hb, hra⟩ := h.at hlt
        have hcc := Cl.count_at hra
        injection e' with e1 _ e3
        subst e1 e3
        have hsu := take_any_succ (p := fun c : Cl => !countsB c.n) hlt
        rw [hany, Bool.false_or] at hsu
        have Hsu := Lib.hid hsu
        clear hsu hra
        generalize hx : t[k].n = x at *
        cases g1 : decide (x < -1099511627776)
        · cases g2 : decide (1099511627776 < x)
          · have hcb : countsB x = true := by simp [countsB]; have := of_decide_eq_false g1; have := of_decide_eq_false g2; omega
            go_wp2
            go_roundw
            case rel => exact ⟨k + 1, by omega, by go_num, by rw [Hsu.out, hcb]; rfl, trivial⟩
            case measure => simp [intOf]; omega
          · have hcb : countsB x = false := by simp [countsB]; have := of_decide_eq_true g2; omega
            have ek : checkT t = 2 := by
              have : t.any (fun c => !countsB c.n) = true := by rw [List.any_eq_true]; exact ⟨t[k], List.getElem_mem hlt, by rw [hx, hcb]; rfl⟩
              unfold checkT; rw [ha, this]; rfl
            go_wp2
            go_ret
            exact ⟨rfl, rfl⟩
        · have hcb : countsB x = false := by simp [countsB]; have := of_decide_eq_true g1; omega
          have ek : checkT t = 2 := by
            have : t.any (fun c => !countsB c.n) = true := by rw [List.any_eq_true]; exact ⟨t[k], List.getElem_mem hlt, by rw [hx, hcb]; rfl⟩
            unfold checkT; rw [ha, this]; rfl
          go_wp2
          go_ret
          exact ⟨rfl, rfl⟩
      · obtain rfl : k = t.length := by omega
        have hlt' : ¬ (t.length : Int) < (t.length : Int) := by omega
        rw [List.take_length] at hany
        have ek : checkT t = 0 := by unfold checkT; rw [ha, hany]; rfl
        go_wp2
        go_ret
        exact ⟨rfl, rfl⟩
end Go.Proofs.YtebgopdmeghmhaaGreat
namespace Go.Proofs.YtebgopdmeghmhaaGreat
open Go.RowKit

theorem tabC_rep (n : Nat) : tabC (List.replicate n Cl.zero) = List.replicate n Cl.zero.cells := by simp [tabC]
theorem tabC_snoc (t : List Cl) (c : Cl) : (tabC (t ++ [c])).flatten = (tabC t).flatten ++ c.cells := by simp [tabC]
theorem row_new {w : World} {cs : List Value} {t : TypeId} : RowAt (· = w.heap.size) (w.alloc (.cells cs.toArray t)) (some ⟨w.heap.size, 0, none⟩) cs := RowAt.bx (Bx.new w cs.toArray t)
set_option maxRecDepth 100000 in
set_option maxHeartbeats 1000000 in
theorem ref47_new (n : Int) (w : World) : Calls Tryz.prog 51 #[.int .i64 n] w fun e w' =>
    ∃ v, e = .returned (.tuple #[v, .int .i64 (newE n)]) ∧ w'.ownsRow w.heap.size 67 65 v (newT n).length (tabC (newT n)).flatten ∧ Below w.heap.size w w' := by
  obtain ⟨ic, hi, hz, hs, hby⟩ := info_parts infoCl
  rw [zeroCl'] at hz
  obtain ⟨cz, hcz⟩ : ∃ cz, Cl.zero.cells = cz := ⟨_, rfl⟩
  have hczl : cz.length = 65 := by rw [← hcz]; exact Cl.len Cl.zero_ok
  have hb0 : Value.agg Tryz.zeroCells67 = Value.agg cz.toArray := by rw [← hcz]; kernel_rfl
  have hz1 := Cl.one Cl.zero
  rw [hcz] at hz hz1
  have Hz := Lib.hid hz
  have Hb0 := Lib.hid hb0
  have Hczl := Lib.hid hczl
  have Hz1 := Lib.hid hz1
  have Hcz := Lib.hid hcz
  clear hz hcz hczl hb0 hz1
  have ho0 := ownsRow_empty w w.heap.size w.heap.size 67 65 rfl (Nat.le_refl _)
  have hB0 := Below.one w (.cells #[] 67)
  go_enter Tryz.func51, Tryz.ntmps51
  go_wp2_with fail
  refine (ref47_allowed n _).mono ?_
  rintro e w1 ⟨rfl, rfl⟩
  cases ha : allowedB n
  · have e1 : newE n = 2 := by simp [newE, ha]
    have e2 : newT n = [] := by simp [newT, ha]
    go_wp2
    refine bodyPost_ret (v := .tuple #[.slice (some ⟨w.heap.size, 0, none⟩) 0 0, .int .i64 2]) (by simp [results, Tryz.results51, go_sem]) rfl ?_
    exact ⟨.slice (some ⟨w.heap.size, 0, none⟩) 0 0, by rw [e1], by rw [e2]; exact ho0, hB0⟩
  · have hal := allowedB_iff.1 ha
    obtain ⟨m, rfl⟩ : ∃ m : Nat, n = (m : Int) := ⟨n.toNat, by omega⟩
    have e1 : newE (m : Int) = 0 := by simp [newE, ha]
    have e2 : newT (m : Int) = List.replicate m Cl.zero := by simp [newT, ha]
    have E1 := Lib.hid e1
    have E2 := Lib.hid e2
    have hm : m ≤ 3000 := by omega
    clear e1 e2 hal
    go_wp2
    go_loopw [4, 5] (fun v i wr => ∃ k : Nat, k ≤ m ∧ i = .int .i64 k ∧ wr.ownsRow w.heap.size 67 65 v k (tabC (List.replicate k Cl.zero)).flatten ∧ Below w.heap.size w wr) (fun _ i _ => m - (intOf i).toNat)
    case atStart => exact ⟨0, by omega, rfl, ho0, hB0⟩
    case round =>
      clear ho0 hB0
      obtain ⟨k, hk, rfl, ho, hB⟩ := hrel
      obtain ⟨o, c, rfl, _, _, _⟩ := ownsRow_at ho
      by_cases hlt : k < m
      · have hlt' : (k : Int) < (m : Int) := by omega
        have hBz := hB.size
        have Ho := Lib.hid ho
        clear ho
        go_wp2_with (first
          | (refine wpList_build1 rfl 24 (.tmp 17) rfl 67 ic cz 65 Tryz.underlying24 hi Hz.out hs Hczl.out (by decide) cz Hczl.out Hb0.out ?_)
          | (refine wpList_app rfl (.tmp 16) (.tmp 18) 24 rfl w.heap.size 67 ic (.agg cz.toArray) 65 72 Tryz.underlying24 hi Hz.out hs hby Hczl.out (by decide) (.slice o k c) k (tabC (List.replicate k Cl.zero)).flatten rfl (Ho.out.alloc (.cells cz.toArray 67)) (some ⟨wr.heap.size, 0, none⟩) 1 1 cz rfl (by simp) (by rw [Hczl.out]) row_new (by simpa using Hz1.out) (by unfold maxLen; omega) (by omega) (by simp; omega) ?_; intro v4 w4 ho4 hg4))
        have e5 : (tabC (List.replicate (k + 1) Cl.zero)).flatten = (tabC (List.replicate k Cl.zero)).flatten ++ cz := by rw [List.replicate_succ', tabC_snoc, Hcz.out]
        rw [← e5] at ho4
        have hB4 := (hB.alloc hB.size (.cells cz.toArray 67)).grown hg4 (by simp; omega) (fun b hb => (Ho.out.lt b hb).1)
        go_roundw
        case rel => exact ⟨k + 1, by omega, by go_num, ho4, hB4⟩
        case measure => simp [intOf]; omega
      · obtain rfl : k = m := by omega
        have hlt' : ¬ (k : Int) < (k : Int) := by omega
        go_wp2
        refine bodyPost_ret (v := .tuple #[.slice o k c, .int .i64 0]) (by simp [results, Tryz.results51, go_sem]) rfl ?_
        exact ⟨.slice o k c, by rw [E1.out], by rw [E2.out, List.length_replicate]; exact ho, hB⟩
end Go.Proofs.YtebgopdmeghmhaaGreat
namespace Go.Proofs.YtebgopdmeghmhaaGreat
open Go.RowKit Go.Shelf
attribute [local go_sem] Oper.semAt_some

/-- the first j bytes of a part of a digest, as a number -/
def keyP (d : List UInt8) (part j : Nat) : UInt64 := ((d.drop (8 * part)).take j).foldl (fun x c => (x <<< 8) ||| c.toUInt64) 0
/-- the cell of a digest in a part of a table of n cells -/
def posN (d : List UInt8) (n part : Nat) : Nat := part * (n / 3) + (keyP d part 8).toNat % (n / 3)
def wq (x : UInt64) : Int := (x.toNat : Int)
theorem keyP_succ {d : List UInt8} {part j : Nat} (h : 8 * part + j < d.length) : keyP d part (j + 1) = ((keyP d part j) <<< 8) ||| (d[8 * part + j]).toUInt64 := by
  unfold keyP
  rw [List.take_succ_eq_append_getElem (by simp; omega), List.foldl_append]
  simp
theorem wrap_u64 (n : Nat) (h : n < 18446744073709551616) : IntKind.u64.wrap (n : Int) = n := by
  simp [IntKind.wrap, IntKind.bits, IntKind.signed]
  omega
theorem ofInt_u64 (x : UInt64) : BitVec.ofInt 64 (x.toNat : Int) = x.toBitVec := by
  apply BitVec.eq_of_toNat_eq
  simp
theorem bits_or64 (x y : UInt64) : bits .or .u64 (x.toNat : Int) (y.toNat : Int) = ((x ||| y).toNat : Int) := by
  unfold bits
  simp only [IntKind.bits]
  rw [ofInt_u64, ofInt_u64, wrap_u64 _ (by exact (x.toBitVec ||| y.toBitVec).isLt)]
  rfl
theorem key_raw (x : UInt64) (c : UInt8) : bits .or .u64 (wq x * 256 % 18446744073709551616) (c.toNat : Int) = wq ((x <<< 8) ||| c.toUInt64) := by
  have e1 : wq x * (256 : Int) % (18446744073709551616 : Int) = ((x <<< 8).toNat : Int) := by
    unfold wq
    rw [UInt64.toNat_shiftLeft]
    simp [Nat.shiftLeft_eq]
  have e2 : (c.toNat : Int) = ((c.toUInt64).toNat : Int) := by simp
  rw [e1, e2, bits_or64]; rfl
theorem key_raw2 (x : UInt64) (c : UInt8) : bits .or .u64 (IntKind.u64.wrap (wq x * 256)) (IntKind.u64.wrap (c.toNat : Int)) = wq ((x <<< 8) ||| c.toUInt64) := by
  rw [wrap_u64 c.toNat (by have := c.toNat_lt; omega), ← key_raw]
  congr 1
theorem posN_lt {d : List UInt8} {n part : Nat} (hp : part < 3) (hn : 3 ≤ n) : posN d n part < n := by
  unfold posN
  have h1 : 0 < n / 3 := by omega
  have h2 := Nat.mod_lt (keyP d part 8).toNat h1
  have h3 : part * (n / 3) ≤ 2 * (n / 3) := Nat.mul_le_mul_right _ (by omega)
  omega

/-- the first k parts -/
def parts (k : Nat) : List (Fin 3) := (List.finRange 3).take k
theorem parts_succ {k : Nat} (h : k < 3) : parts (k + 1) = parts k ++ [⟨k, h⟩] := by
  unfold parts
  rw [List.take_add_one]
  simp [h]
theorem parts_len {k : Nat} (h : k ≤ 3) : (parts k).length = k := by simp [parts]; omega

set_option maxRecDepth 100000 in
set_option maxHeartbeats 1200000 in
theorem cells1_in (F : Fence) (nF : Nat) (hF : F.fn 97) (hro : F.round = none) (hn : 1 ≤ nF) (l : Nat) (d : List UInt8) (hd : d.length = 32) (n : Nat) (hn3 : 3 ≤ n) (hn4 : n ≤ 1000000) (Bn Bd : Nat) (T : Nat → Prop) (_hTn : T Bn) (hTd : T Bd) (J Jx : List (Fin 3) → World → Prop)
    (hY : ∀ pre x W, J pre W → pre.length < 3 → YieldAt F (nF - 1) Tryz.prog l #[.int .i64 (posN d n x.1)] W fun e W' => (e = .returned (.bool true) ∧ J (pre ++ [x]) W' ∧ KeepT T W W') ∨ (e = .returned (.bool false) ∧ Jx (pre ++ [x]) W'))
    (W : World) (xn : Bx W Bn #[.int .i64 n] 3) (xd : Bx W Bd (bytesV d).toArray 39) (h0 : J [] W) :
    CallsIn F nF Tryz.prog 97 #[.func (.yield l) #[] #[], .pointer (some ⟨Bn, 0, none⟩), .pointer (some ⟨Bd, 0, none⟩)] W fun e W' => (∃ v, e = .returned v) ∧
      ((∃ ys, ys = parts 3 ∧ J ys W') ∨ (∃ pre, (∃ k, k ≤ 3 ∧ pre = parts k) ∧ Jx pre W')) := by
  have cn := xn.cell 0
  simp at cn
  have hq3 : (n : Int).tdiv 3 = ((n / 3 : Nat) : Int) := by rw [Int.tdiv_eq_ediv_of_nonneg (by omega)]; omega
  obtain ⟨m, hm⟩ : ∃ m, n / 3 = m := ⟨_, rfl⟩
  have hpos : ∀ p, posN d n p = p * m + (keyP d p 8).toNat % m := fun p => by unfold posN; rw [hm]
  have hm1 : 1 ≤ m := by omega
  have hm2 : m ≤ 1000000 := by omega
  have hq4 : (n : Int) / 3 = (m : Int) := by omega
  rw [hm] at hq3
  have Hpos := Lib.hid hpos
  clear hpos hm
  refine callsIn_of_wp Tryz.func97 rfl hF ?_ hro
  simp only [Tryz.ntmps97, List.size_toArray, List.length_cons, List.length_nil, Nat.reduceAdd, Nat.reduceSub, Array.replicate_succ, Array.replicate_zero, List.push_toArray, List.append_toArray, List.nil_append, List.cons_append]
  gi_wp2
  gi_loopw [11] (fun i wr => ∃ k : Nat, k ≤ 3 ∧ i = .int .i64 k ∧ J (parts k) wr ∧ KeepT T W wr) (fun i _ => 3 - (intOf i).toNat)
  case atStart => exact ⟨0, by omega, rfl, h0, KeepT.refl _ _⟩
  case round =>
    obtain ⟨k, hk, rfl, hJk, hKT⟩ := hrel
    by_cases hlt : k < 3
    · have hlt' : (k : Int) < 3 := by omega
      have i0 : (0 : Int) ≤ 8 * (k : Int) := by omega
      have i1 : (8 : Int) * (k : Int) ≤ 8 * (k : Int) + 8 := by omega
      have i2 : (8 : Int) * (k : Int) + 8 ≤ 32 := by omega
      have t0 : (8 * (k : Int)).toNat = 8 * k := by omega
      have t1 : (8 * (k : Int) + 8).toNat = 8 * k + 8 := by omega
      have i3 : 8 * (k : Int) + 8 - 8 * (k : Int) = 8 := by omega
      have Hd8 : Hid (8 * k + 8 ≤ d.length) := Lib.hid (by omega)
      obtain ⟨W2, hW2⟩ : ∃ W2, W2 = wr := ⟨_, rfl⟩
      subst hW2
      have cD : ∀ j (hj : j < 8), W2.cell? ⟨Bd, 8 * k + j, none⟩ = some (.int .u8 ((d[8 * k + j]'(by have := Hd8.out; omega)).toNat : Int)) := fun j hj => hKT.cell hTd (by rw [xd.cell, bytesV_get (by have := Hd8.out; omega)])
      have HcD := Lib.hid cD
      clear cD i0 i1 i2 t0 t1
      have i0 : (0 : Int) ≤ 8 * (k : Int) := by omega
      have i1 : (8 : Int) * (k : Int) ≤ 8 * (k : Int) + 8 := by omega
      have i2 : (8 : Int) * (k : Int) + 8 ≤ 32 := by omega
      have t0 : (8 * (k : Int)).toNat = 8 * k := by omega
      have t1 : (8 * (k : Int) + 8).toNat = 8 * k + 8 := by omega
      have t2 : 8 * k + 8 - 8 * k = 8 := by omega
      gi_wp2
      gi_loopw [6, 21] (fun x i wr => ∃ j : Nat, j ≤ 8 ∧ i = .int .i64 j ∧ x = .int .u64 (wq (keyP d k j)) ∧ wr = W2) (fun _ i _ => 8 - (intOf i).toNat)
      case atStart => exact ⟨0, by omega, rfl, rfl, rfl⟩
      case round =>
        obtain ⟨j, hj, rfl, rfl, rfl⟩ := hrel
        by_cases hlt2 : j < 8
        · have hltj : (j : Int) < 8 := by omega
          have cx := HcD.out j hlt2
          have hsu := keyP_succ (d := d) (part := k) (j := j) (by have := Hd8.out; omega)
          generalize d[8 * k + j]'(by have := Hd8.out; omega) = c at *
          have Hsu := Lib.hid hsu
          clear hsu
          gi_wp2
          rw [key_raw2, ← Hsu.out]
          go_roundw
          case rel => exact ⟨j + 1, by omega, by go_num, rfl, trivial⟩
          case measure => simp [intOf]; omega
        · obtain rfl : j = 8 := by omega
          have hltj : ¬ ((8 : Nat) : Int) < 8 := by omega
          have hkm : k * m ≤ 3 * m := Nat.mul_le_mul_right _ (by omega)
          have hw : IntKind.i64.wrap ((k : Int) * (m : Int)) = ((k * m : Nat) : Int) := by rw [← Int.natCast_mul]; exact IntWalk.i64_in _ (by omega)
          have hx := Hpos.out k
          have hr1 := Nat.mod_lt (keyP d k 8).toNat (show 0 < m by omega)
          have hr2 : (wq (keyP d k 8)).tmod (m : Int) = (((keyP d k 8).toNat % m : Nat) : Int) := by unfold wq; rw [Int.tmod_eq_emod_of_nonneg (by omega)]; exact (Int.natCast_emod _ _).symm
          have hm0 : ¬ (m : Int) = 0 := by omega
          have hmw : IntKind.u64.wrap (m : Int) = (m : Int) := wrap_u64 m (by omega)
          obtain ⟨fn, tmps, assign, body, hy, hR⟩ := hY _ ⟨k, hlt⟩ wr hJk (by rw [parts_len hk]; exact hlt)
          dsimp only at hy
          rw [hx, Int.natCast_add] at hy
          have Hx := Lib.hid hx
          clear hx
          generalize (keyP d k 8).toNat % m = r at *
          generalize k * m = km at *
          gi_wp2
          refine hR.mono ?_
          rintro e W3 (⟨rfl, hJ3, hk3⟩ | ⟨rfl, hJx3⟩)
          · gi_wp2
            go_roundw
            case rel => exact ⟨k + 1, by omega, by go_num, by rw [parts_succ hlt]; exact hJ3, hKT.trans hk3⟩
            case measure => simp [intOf]; omega
          · gi_wp2
            refine bodyPost_ret (results_none rfl _ _ _) rfl ?_
            exact ⟨⟨_, rfl⟩, .inr ⟨_, ⟨k + 1, by omega, by rw [parts_succ hlt]⟩, hJx3⟩⟩
    · obtain rfl : k = 3 := by omega
      have hlt' : ¬ ((3 : Nat) : Int) < 3 := by omega
      gi_wp2
      go_end0
      exact ⟨⟨_, rfl⟩, .inl hJk⟩

set_option maxHeartbeats 1000000 in
theorem cells_in (F : Fence) (nF : Nat) (hF : F.fn 72) (hro : F.round = none) (d : List UInt8) (n : Int) (w : World) :
    CallsIn F nF Tryz.prog 72 #[dgV d, .int .i64 n] w fun e w' => e = .returned (.func (.func 97) #[] #[.pointer (some ⟨w.heap.size + 1, 0, none⟩), .pointer (some ⟨w.heap.size, 0, none⟩)]) ∧ w' = (w.alloc (.cells (bytesV d).toArray 39)).alloc (.cells #[.int .i64 n] 3) := by
  unfold dgV
  generalize (bytesV d).toArray = cd
  refine callsIn_of_wp Tryz.func72 rfl hF ?_ hro
  simp only [Tryz.ntmps72, List.size_toArray, List.length_cons, List.length_nil, Nat.reduceAdd, Nat.reduceSub, Array.replicate_succ, Array.replicate_zero, List.push_toArray, List.append_toArray, List.nil_append, List.cons_append]
  gi_wp2
  go_ret
  exact ⟨rfl, rfl⟩

/-- the contract: each cell in turn, to a body that may leave; what the body keeps is T -/
theorem cells_stops (F : Fence) (nF : Nat) (hF : F.fn 97) (hro : F.round = none) (hn : 1 ≤ nF) (d : List UInt8) (hd : d.length = 32) (n : Nat) (hn3 : 3 ≤ n) (hn4 : n ≤ 1000000) (Bn Bd : Nat) (T : Nat → Prop) (hTn : T Bn) (hTd : T Bd) (w : World)
    (xn : Bx w Bn #[.int .i64 n] 3) (xd : Bx w Bd (bytesV d).toArray 39) :
    SeqStopsK F nF Tryz.prog 97 #[.pointer (some ⟨Bn, 0, none⟩), .pointer (some ⟨Bd, 0, none⟩)] (fun x : Fin 3 => #[Value.int .i64 (posN d n x.1)]) (KeepT T) (fun ys => ys = parts 3) (fun pre => ∃ k, k ≤ 3 ∧ pre = parts k) 3 w := fun l J Jx W hW _ _ hY h0 =>
  cells1_in F nF hF hro hn l d hd n hn3 hn4 Bn Bd T hTn hTd J Jx hY W (xn.belowAll hW) (xd.belowAll hW) h0
end Go.Proofs.YtebgopdmeghmhaaGreat
