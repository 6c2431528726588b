/- disk.contents (layer 40): the contract of its iterator: all pages of a valid disk with their contents, in order. -/
import Derived.RangeFuncBox
import Derived.RangeFuncLeaves
import Derived.Shelf.Abstract
import Derived.WalkKit
import Derived.OwnWalkIn
import Derived.TacticsInMore
import Derived.LoopNIn
import Derived.LoopIn
import Derived.Maps.OwnIn
import Derived.Maps.StringElems
import Derived.Test.YtjbcagijfodfgaaRunLaw
import Derived.Test.YtjbcagijfodfgaaDSpec
import Derived.Test.YtjbcagijfodfgaaShelf
namespace Go.Proofs.Ytjbcagijfodfgaa
open Go.RowKit Go.Shelf
attribute [local go_sem] Oper.semAt_some

theorem KeepT.cell {T : Nat → Prop} {W W' : World} (h : KeepT T W W') {p : Addr} {v : Value} (hp : T p.block) (hc : W.cell? p = some v) : W'.cell? p = some v := by
  obtain ⟨o, ho, _⟩ := cells_of_cell hc
  exact (World.cell?_of_block ((h _ o hp ho).trans ho.symm)).trans hc

/-- the map of the last writes -/
def mapD (l : List PW) : DataW Empty := l.foldl (fun D x => D.put (.int .i64 x.page) (.lit (.string x.data.data.toList))) (.map [])
theorem mapD_snoc (l : List PW) (x : PW) : mapD (l ++ [x]) = (mapD l).put (.int .i64 x.page) (.lit (.string x.data.data.toList)) := by simp [mapD]
theorem isKey_int (i : Int) : WideAt.IsKeyLit (.int .i64 i) := by simp [WideAt.IsKeyLit]
theorem mapD_fold (i : Int) : ∀ (l : List PW) (D : DataW Empty) (s : ByteArray), Maps.IsMap D → D.atKey (.int .i64 i) (.lit (.string [])) = .lit (.string s.data.toList) →
    Maps.has (l.foldl (fun D x => D.put (.int .i64 x.page) (.lit (.string x.data.data.toList))) D) (.int .i64 i) = (Maps.has D (.int .i64 i) || l.any (fun x => x.page == i)) ∧
    (l.foldl (fun D x => D.put (.int .i64 x.page) (.lit (.string x.data.data.toList))) D).atKey (.int .i64 i) (.lit (.string [])) = .lit (.string (lastW i l s).data.toList)
  | [], D, s, hD, h => ⟨by simp, h⟩
  | x :: l, D, s, hD, h => by
    rw [List.foldl_cons, lastW]
    by_cases e : x.page = i
    · rw [if_pos e]
      obtain ⟨h1, h2⟩ := mapD_fold i l (D.put (.int .i64 x.page) (.lit (.string x.data.data.toList))) x.data (hD.put _ _) (by rw [e]; exact Maps.atKey_put_same hD (isKey_int i) _ _)
      refine ⟨?_, h2⟩
      rw [h1, e, Maps.has_put_same hD (isKey_int i)]
      simp [e]
    · rw [if_neg e]
      have hne : Lit.int .i64 i ≠ .int .i64 x.page := fun h => by injection h with _ h; exact e h.symm
      obtain ⟨h1, h2⟩ := mapD_fold i l (D.put (.int .i64 x.page) (.lit (.string x.data.data.toList))) s (hD.put _ _) (by rw [Maps.atKey_put_other hne]; exact h)
      refine ⟨?_, h2⟩
      rw [h1, Maps.has_put_other hne, List.any_cons, show (x.page == i) = false by simpa using e, Bool.false_or]
theorem mapD_has (i : Int) (l : List PW) : Maps.has (mapD l) (.int .i64 i) = l.any (fun x => x.page == i) := by
  exact (mapD_fold i l (.map []) ByteArray.empty Maps.isMap_empty rfl).1
theorem mapD_at (i : Int) (l : List PW) : (mapD l).atKey (.int .i64 i) (.lit (.string [])) = .lit (.string (lastW i l ByteArray.empty).data.toList) :=
  (mapD_fold i l (.map []) ByteArray.empty Maps.isMap_empty rfl).2
theorem lastW_any {i : Int} {l : List PW} : ∀ (s t : ByteArray), l.any (fun x => x.page == i) = true → lastW i l s = lastW i l t := by
  induction l with
  | nil => intro s t h; simp at h
  | cons x l ih =>
    intro s t h
    rw [lastW, lastW]
    by_cases e : x.page = i
    · rw [if_pos e, if_pos e]
    · rw [if_neg e, if_neg e]
      exact ih s t (by simpa [e] using h)
theorem lastW_notany {i : Int} {l : List PW} : ∀ (s : ByteArray), l.any (fun x => x.page == i) = false → lastW i l s = s := by
  induction l with
  | nil => intro s h; rfl
  | cons x l ih =>
    intro s h
    have h' : ¬ x.page = i ∧ l.any (fun x => x.page == i) = false := by simpa using h
    rw [lastW, if_neg h'.1]
    exact ih s h'.2

/-- 'v, ok := m[k]' at string elements where both are known -/
theorem wpListIn_lookup_str {F : Fence} {nF : Nat} {P : Program} (w : World) {ops : Array Oper} {rest : List Oper} {o : Oper} {a : Act} {Q : Exit → Act → World → Prop}
    (hg : o.guard = none) (m x : Operand) (t : TypeId) (hop : o.op = Op.lookup t m x true)
    (k e : TypeId) (K : Maps.Keyed P k) (ht : P.underlying t = some (.map k e)) (he : P.underlying e = some .string) (hz : (zeroValue e).run P w = .ok (.string ⟨#[]⟩) w) (b n : Nat) (D : DataW Empty)
    (hm : a.eval m = .map (some b)) (hown : w.ownsMap P k (plainElem P e) b n D) (key : Value) (kl : Lit) (hx : a.eval x = key) (hkey : keyOf P k key = some kl)
    (s : ByteArray) (hat : D.atKey kl (.lit (.string [])) = .lit (.string s.data.toList)) (has : Bool) (hhas : Maps.has D kl = has)
    (hK : wpListIn F nF P ops Q rest (a.put o.dst (.tuple #[.string s, .bool has])) w) :
    wpListIn F nF P ops Q (o :: rest) a w :=
  wpListIn_lookup_own_ok w hg m x t hop k e K ht (plainElem P e) hz (.lit (.string [])) [] (plainElem_string he (s := ⟨#[]⟩) (by decide)) b n D hm hown key kl hx hkey (fun v ps hv => by
    obtain ⟨s', rfl, hc, _⟩ := plainElem_string_inv he hv
    have h1 : s'.data.toList = s.data.toList := by
      have := congrArg Prod.fst hc
      rw [hat] at this
      simpa using this.symm
    have h2 : s' = s := by
      cases s'; cases s; simp at h1; rw [h1]
    rw [h2, hhas]; exact hK)

def firsts (N k : Nat) : List (Fin N) := (List.finRange N).take k
theorem firsts_succ {N k : Nat} (h : k < N) : firsts N (k + 1) = firsts N k ++ [⟨k, h⟩] := by
  unfold firsts
  rw [List.take_add_one]
  simp [h]
theorem firsts_len {N k : Nat} (h : k ≤ N) : (firsts N k).length = k := by simp [firsts]; omega
theorem firsts_all (N : Nat) : firsts N N = List.finRange N := by unfold firsts; rw [List.take_of_length_le (by simp)]

set_option maxRecDepth 100000 in
set_option maxHeartbeats 4000000 in
theorem cont_runs (F : Fence) (n : Nat) (hF : F.fn 44) (hro : F.round = none) (hn : 1 ≤ n) (Bs : Nat) (d : Dsk) (po co : Option Addr) (pc cc : Nat) {S : Nat → Prop} (T : Nat → Prop) (W : World)
    (hok : DskOk d po co pc cc) (hval : ∀ x ∈ d.cache, 0 ≤ x.page ∧ x.page < d.pages.length)
    (hTS : ∀ b, S b → T b) (hTW : ∀ b, W.heap.size ≤ b → T b)
    (hp : StrsAt S W po d.pages) (hc : PWsAt S W co d.cache) (hB : Bx W Bs #[.int .i64 d.size, .slice po d.pages.length pc, .slice co d.cache.length cc, .int .i64 d.left] 25) :
    SeqRun F n Try.prog 44 #[.pointer (some ⟨Bs, 0, none⟩)] (fun x : Fin d.pages.length => #[Value.int .i64 (x.1 : Int), .string (contentD d x.1 x.2)]) T (fun ys => ys = List.finRange d.pages.length) d.pages.length W := by
  intro l J hJ hY h0
  have ok1 := hok.pages
  have ok2 := hok.cache
  have hmm := @run_makeMap Try.prog
  have lB := hB.lt
  refine callsIn_of_wp Try.func44 rfl hF ?_ hro
  simp only [Try.ntmps44, List.size_toArray, List.length_cons, List.length_nil, Nat.reduceAdd, Nat.reduceSub, Array.replicate_succ, Array.replicate_zero, List.push_toArray, List.append_toArray, List.nil_append, List.cons_append]
  have hB0 := hB.alloc (.map #[] 0)
  have c2 := hB0.cell 2
  simp at c2
  gi_wp2
  gi_loopw [5, 14] (fun _ i wr => ∃ k : Nat, k ≤ d.cache.length ∧ i = .int .i64 k ∧ W.grownBy wr none ∧ wr.ownsMap Try.prog 3 (plainElem Try.prog 9) W.heap.size k (mapD (d.cache.take k)))
    (fun _ i _ => d.cache.length - (intOf i).toNat)
  case atStart => exact ⟨0, Nat.zero_le _, rfl, World.grownBy_alloc W _ none, by rw [List.take_zero]; exact World.ownsMap_made W Try.prog 3 (plainElem Try.prog 9)⟩
  case round =>
    obtain ⟨k, hk, rfl, hg, hown⟩ := hrel
    clear c2 hB0
    have hBr : Bx wr Bs #[.int .i64 d.size, .slice po d.pages.length pc, .slice co d.cache.length cc, .int .i64 d.left] 25 := hB.grown hg (by simp)
    by_cases hlt : k < d.cache.length
    · obtain ⟨b, off, rfl, hc1, hc2, hsb⟩ := hc k hlt
      have hcx : wr.cell? ⟨b, off + k * 2, none⟩ = some (.int .i64 d.cache[k].page) := grown_cell hg hc1 (by simp)
      have hcy : wr.cell? ⟨b, off + k * 2 + 1, none⟩ = some (.string d.cache[k].data) := grown_cell hg hc2 (by simp)
      obtain ⟨hv1, hv2⟩ := hval d.cache[k] (List.getElem_mem hlt)
      have hkey := Maps.keyOf_int_mk Try.underlying3 (q := .i64) (a := d.cache[k].page) (by simp [Lit.wf, IntKind.min, IntKind.max, IntKind.signed, IntKind.bits]; omega)
      have hstr := plainElem_string (H := Empty) Try.underlying9 (s := d.cache[k].data) (by have := hok.datas d.cache[k] (List.getElem_mem hlt); simp [maxLen]; omega)
      have hown' := hown.alloc (.cells #[.int .i64 d.cache[k].page, .string d.cache[k].data] 45)
      clear hc1 hc2
      gi_wp2_with (gi_at_mapUpdate; refine wpListIn_mapUpdate_own _ rfl _ _ _ 77 rfl 3 9 (Maps.int_keyed Try.underlying3) Try.underlying77 _ W.heap.size k _ rfl hown' (by simp [maxLen]; omega) _ _ _ rfl rfl hkey _ [] hstr ?_; intro w1 hown1 hgrow1)
      refine ⟨⟨k + 1, by omega, by go_num, ?_, ?_⟩, ?_⟩
      · have h1 : W.grownBy (wr.alloc (.cells #[.int .i64 d.cache[k].page, .string d.cache[k].data] 45)) none := hg.trans (World.grownBy_alloc wr _ none)
        exact ⟨hgrow1.os.trans h1.os, hgrow1.tape.trans h1.tape, hgrow1.output.trans h1.output, Nat.le_trans h1.size hgrow1.size, fun j hj _ => (hgrow1.block j (Nat.lt_of_lt_of_le hj h1.size) (by simp; omega)).trans (h1.block j hj (by simp))⟩
      · rw [List.take_add_one, List.getElem?_eq_getElem hlt, Option.toList_some, mapD_snoc]; exact hown1
      · simp [intOf]; omega
    · obtain rfl : k = d.cache.length := by omega
      rw [List.take_length] at hown
      obtain ⟨Wm, hWm⟩ : ∃ Wm, Wm = wr := ⟨_, rfl⟩
      subst hWm
      have c1 := hBr.cell 1
      simp at c1
      gi_wp2
      gi_loopw [6, 7, 8, 9, 27] (fun _ _ _ _ i w2 => ∃ k : Nat, k ≤ d.pages.length ∧ i = .int .i64 k ∧ J (firsts _ k) w2 ∧ KeepT T Wm w2)
        (fun _ _ _ _ i _ => d.pages.length - (intOf i).toNat)
      case atStart => exact ⟨0, Nat.zero_le _, rfl, hJ _ _ _ h0 hg, KeepT.refl _ _⟩
      case round =>
        obtain ⟨k, hk, rfl, hJk, hKT⟩ := hrel
        by_cases hlt : k < d.pages.length
        · obtain ⟨b, off, rfl, hc1, hsb⟩ := hp k hlt
          have hcx : wr.cell? ⟨b, off + k, none⟩ = some (.string d.pages[k]) := hKT.cell (hTS b hsb) (grown_cell hg hc1 (by simp))
          have hown2 : wr.ownsMap Try.prog 3 (plainElem Try.prog 9) W.heap.size d.cache.length (mapD d.cache) := by
            obtain ⟨es, clock, hb, rest⟩ := hown
            exact ⟨es, clock, hKT _ _ (hTW _ (Nat.le_refl _)) hb, rest⟩
          have hkey := Maps.keyOf_int_mk Try.underlying3 (q := .i64) (a := (k : Int)) (by simp [Lit.wf, IntKind.min, IntKind.max, IntKind.signed, IntKind.bits]; omega)
          have hcont : contentD d k hlt = lastW k d.cache d.pages[k] := rfl
          obtain ⟨fn, tmps, assign, body, hy, hR⟩ := hY _ ⟨k, hlt⟩ wr hJk (by rw [firsts_len hk]; exact hlt)
          dsimp only at hy
          clear hc1
          cases hh : d.cache.any (fun x => x.page == (k : Int))
          · have hlw := lastW_notany d.pages[k] hh
            rw [hcont, hlw] at hy
            gi_wp2_with (gi_at_lookup; refine wpListIn_lookup_str _ rfl _ _ 77 rfl 3 9 (Maps.int_keyed Try.underlying3) Try.underlying77 Try.underlying9 (Try.zeroValue9 _) W.heap.size _ _ rfl hown2 _ _ rfl hkey _ (mapD_at _ _) false ((mapD_has _ _).trans hh) ?_)
            refine hR.mono ?_
            rintro e W3 ⟨rfl, hJ3, hk3⟩
            gi_wp2
            go_roundw
            case rel => exact ⟨k + 1, by omega, by go_num, by rw [firsts_succ hlt]; exact hJ3, hKT.trans hk3⟩
            case measure => simp [intOf]; omega
          · have hlw := lastW_any d.pages[k] ByteArray.empty hh
            rw [hcont, hlw] at hy
            gi_wp2_with (gi_at_lookup; refine wpListIn_lookup_str _ rfl _ _ 77 rfl 3 9 (Maps.int_keyed Try.underlying3) Try.underlying77 Try.underlying9 (Try.zeroValue9 _) W.heap.size _ _ rfl hown2 _ _ rfl hkey _ (mapD_at _ _) true ((mapD_has _ _).trans hh) ?_)
            refine hR.mono ?_
            rintro e W3 ⟨rfl, hJ3, hk3⟩
            gi_wp2
            go_roundw
            case rel => exact ⟨k + 1, by omega, by go_num, by rw [firsts_succ hlt]; exact hJ3, hKT.trans hk3⟩
            case measure => simp [intOf]; omega
        · obtain rfl : k = d.pages.length := by omega
          gi_wp2
          go_end0
          exact ⟨⟨_, rfl⟩, _, rfl, by rw [← firsts_all]; exact hJk⟩

set_option maxHeartbeats 1000000 in
theorem cont_in (F : Fence) (n : Nat) (hF : F.fn 35) (hro : F.round = none) (v0 v1 v2 v3 : Value) (w : World) :
    CallsIn F n Try.prog 35 #[.agg #[v0, v1, v2, v3]] w fun e w' => e = .returned (.func (.func 44) #[] #[.pointer (some ⟨w.heap.size, 0, none⟩)]) ∧ w' = w.alloc (.cells #[v0, v1, v2, v3] 25) := by
  refine callsIn_of_wp Try.func35 rfl hF ?_ hro
  simp only [Try.ntmps35, List.size_toArray, List.length_cons, List.length_nil, Nat.reduceAdd, Nat.reduceSub, Array.replicate_succ, Array.replicate_zero, List.push_toArray, List.append_toArray, List.nil_append, List.cons_append]
  gi_wp2
  go_ret
  exact ⟨rfl, rfl⟩
end Go.Proofs.Ytjbcagijfodfgaa
