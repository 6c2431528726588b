/- A map whose keys are digests and whose elements are true: a set. slices.Clone, IndexFunc, DeleteFunc of lists of digests. slices.DeleteFunc of a list of digests of one's own. reconcile.without. -/
import Derived.Test.YtebgopdmeghmhaaGreatRcAcc
import Derived.Maps.OwnSet
import Derived.DeepKeys4
import Derived.WalkSpells
import Derived.Lib.SliceRun
import Derived.Test.YtebgopdmeghmhaaGreatRcSpec
namespace Go.Proofs.YtebgopdmeghmhaaGreat
open Go.RowKit

theorem laidOutP : laidOutB Tryz.prog = true := by kernel_rfl
theorem rowDg : (39 : TypeId) < Tryz.prog.types.size := of_decide_eq_true (by kernel_rfl)
theorem wideDg : (match Tryz.prog.underlying 39 with | some (.array _ _) | some (.struct _) => true | _ => false) = true := by rw [Tryz.underlying39]
theorem keyTypeDg : Tryz.prog.keyType 39 = true := by kernel_rfl
set_option maxRecDepth 100000 in
theorem keyedDg : Maps.Keyed Tryz.prog 39 := Maps.Keyed.of_law (deep_law_laid laidOutP (m := 2) (by omega) rowDg (by kernel_rfl) wideDg)
theorem cellsDg : Tryz.prog.cellsOf 39 = 32 := by kernel_rfl
theorem cellsB8 : Tryz.prog.cellsOf 5 = 1 := by kernel_rfl
theorem mapM_some {α β : Type} {f : α → Option β} : ∀ (l : List α), (∀ x ∈ l, (f x).isSome = true) → (l.mapM f).isSome = true
  | [], _ => rfl
  | x :: l, h => by
    obtain ⟨y, hy⟩ := Option.isSome_iff_exists.1 (h x (by simp))
    obtain ⟨ys, hys⟩ := Option.isSome_iff_exists.1 (mapM_some l fun z hz => h z (by simp [hz]))
    rw [List.mapM_cons, hy, hys]
    rfl
theorem keyed_some {d : List UInt8} (hd : d.length = 32) : (keyOf Tryz.prog 39 (dgV d)).isSome = true := by
  have hf : (dgV d).formed Tryz.prog 39 = true := by
    unfold dgV
    simp [Value.formed, Tryz.underlying39, cellsDg, bytesV_len, hd]
  obtain ⟨m, hm⟩ : ∃ m, Tryz.prog.types.size = m + 1 := Nat.exists_eq_succ_of_ne_zero (Nat.ne_of_gt (Nat.lt_of_le_of_lt (Nat.zero_le _) rowDg))
  have hl : (Tryz.prog.keyLits (Tryz.prog.types.size + 1) 39 (dgV d).cells.toList).isSome = true := by
    rw [hm]
    unfold Program.keyLits
    simp only [Tryz.underlying39]
    have hc : (dgV d).cells.toList = bytesV d := by simp [dgV, Value.cells]
    rw [hc, if_pos (by rw [bytesV_len, cellsDg, hd]), Option.isSome_map]
    refine mapM_some _ fun i hi => ?_
    rw [List.mem_range] at hi
    rw [cellsB8, Nat.mul_one]
    have h1 : ((bytesV d).drop i).take 1 = [Value.int .u8 (d[i]'(by omega)).toNat] := by
      rw [List.drop_eq_getElem_cons (by rw [bytesV_len]; omega)]
      simp [bytesV]
    rw [h1]
    unfold Program.keyLits
    simp only [Tryz.underlying5]
    have hw : (Lit.int .u8 ((d[i]'(by omega)).toNat : Int)).wf = true := by
      have := (d[i]'(by omega)).toNat_lt
      simp [Lit.wf, IntKind.min, IntKind.max, IntKind.bits, IntKind.signed]
      try omega
    rw [if_pos ⟨trivial, hw⟩]
    rfl
  unfold keyOf
  simp only [Tryz.underlying39, keyTypeDg, hf, Bool.and_self, if_true]
  rw [Option.isSome_map]
  exact hl
noncomputable def keyD (d : List UInt8) : Lit := (keyOf Tryz.prog 39 (dgV d)).getD (.bool false)
theorem keyD_of {d : List UInt8} (hd : d.length = 32) : keyOf Tryz.prog 39 (dgV d) = some (keyD d) := by
  obtain ⟨k, hk⟩ := Option.isSome_iff_exists.1 (keyed_some hd)
  unfold keyD
  rw [hk]; rfl
theorem dgV_inj {a b : List UInt8} (h : dgV a = dgV b) : a = b := by
  unfold dgV at h
  injection h with h
  have h2 : bytesV a = bytesV b := by simpa using h
  unfold bytesV at h2
  exact (List.map_inj_right (fun x y e => by
    injection e with _ e
    exact UInt8.toNat_inj.1 (by omega))).1 h2
set_option maxRecDepth 100000 in
theorem keyD_inj {a b : List UInt8} (ha : a.length = 32) (hb : b.length = 32) (h : keyD a = keyD b) : a = b :=
  dgV_inj (keyedDg.inj (keyD_of ha) (h ▸ keyD_of hb))
/-- block b is a map with the members of l as its keys -/
def MapD (w : World) (b n : Nat) (l : List (List UInt8)) : Prop :=
  ∃ D : DataW Unit, w.ownsMap Tryz.prog 39 (plainElem Tryz.prog 4) b n D ∧ ∀ d, d.length = 32 → D.atKey (keyD d) (.lit (.bool false)) = .lit (.bool (decide (d ∈ l)))
theorem MapD.made (w : World) : MapD (w.alloc (.map #[] 0)) w.heap.size 0 [] := ⟨.map [], World.ownsMap_made _ _ _ _, fun _d _ => rfl⟩
theorem MapD.kept {w w' : World} {b n : Nat} {l : List (List UInt8)} {row : Option Nat} (h : MapD w b n l) (hg : w.grownBy w' row) (hne : some b ≠ row) : MapD w' b n l := by
  obtain ⟨D, h1, h2⟩ := h
  exact ⟨D, h1.kept hg hne, h2⟩
theorem MapD.lt {w : World} {b n : Nat} {l : List (List UInt8)} (h : MapD w b n l) : b < w.heap.size := by
  obtain ⟨D, h1, _⟩ := h
  exact h1.lt
theorem grownBy_below {B : Nat} {w w' : World} (h : Below B w w') (hB : w.heap.size ≤ B) (row : Option Nat) : w.grownBy w' row := ⟨h.os, h.tape, h.output, h.size, fun k hk _ => h.block k (Nat.lt_of_lt_of_le hk hB)⟩
theorem MapD.below {w w' : World} {b n : Nat} {l : List (List UInt8)} (h : MapD w b n l) (hb : Below w.heap.size w w') : MapD w' b n l := h.kept (grownBy_below hb (Nat.le_refl _) none) (by simp)
section
variable {ops : Array Oper} {rest : List Oper} {o : Oper} {a : Act} {Q : Exit → Act → World → Prop} {w : World}
set_option maxRecDepth 100000 in
/-- 'm[d] = true' -/
theorem wpList_putD (hg : o.guard = none) (m x v : Operand) (hop : o.op = Op.mapUpdate 93 m x v) {b n : Nat} {l : List (List UInt8)} (hm : a.eval m = .map (some b)) (hown : MapD w b n l) (hn : n < maxLen)
    (d : List UInt8) (hd : d.length = 32) (hx : a.eval x = dgV d) (hv : a.eval v = .bool true) (hK : ∀ w', MapD w' b (n + 1) (l ++ [d]) → w.grownBy w' (some b) → wpList Tryz.prog ops Q rest (a.put o.dst undef) w') : wpList Tryz.prog ops Q (o :: rest) a w := by
  obtain ⟨D, h1, h2⟩ := hown
  refine wpList_mapUpdate_own w hg m x v 93 hop 39 4 keyedDg Tryz.underlying93 _ b n D hm h1 hn (dgV d) (.bool true) (keyD d) hx hv (keyD_of hd) (.lit (.bool true)) [] (plainElem_bool Tryz.underlying4 true) fun w' ho hgr => hK w' ⟨_, ho, fun e he => ?_⟩ hgr
  by_cases hed : e = d
  · subst hed
    rw [Maps.atKey_put_same h1.isMap (keyedDg.key (keyD_of hd))]
    simp
  · rw [Maps.atKey_put_other (fun h => hed (keyD_inj he hd h)), h2 e he]
    simp [hed]
theorem zeroBool (w : World) : (zeroValue 4).run Tryz.prog w = .ok (.bool false) w := by kernel_rfl
set_option maxRecDepth 100000 in
/-- 'm[d]' -/
theorem run_getD {b n : Nat} {l : List (List UInt8)} (h : MapD w b n l) (d : List UInt8) (hd : d.length = 32) : (Instr.lookup 93 (.map (some b)) (dgV d) false).run Tryz.prog w = .ok (.bool (decide (d ∈ l))) w := by
  obtain ⟨D, h1, h2⟩ := h
  obtain ⟨v, ps, hr, hv⟩ := h1.lookup keyedDg Tryz.underlying93 (zeroBool w) (plainElem_bool Tryz.underlying4 false) (keyD_of hd)
  rw [h2 d hd] at hv
  rw [hr]
  unfold plainElem at hv
  simp only [Tryz.underlying4] at hv
  cases v <;> simp at hv
  rw [hv.1]
end
end Go.Proofs.YtebgopdmeghmhaaGreat
namespace Go.Proofs.YtebgopdmeghmhaaGreat
open Go.RowKit

set_option maxRecDepth 100000 in
set_option maxHeartbeats 1000000 in
theorem sl_Clone {S : Nat → Prop} (w : World) (v : Value) (l : List (List UInt8)) (h : DigR S w v l) (hm : l.length ≤ 1000000) :
    Calls Tryz.prog 29 #[v] w fun e w' => ∃ u, e = .returned u ∧ DgO w' w.heap.size u l ∧ Below w.heap.size w w' := by
  obtain ⟨o, c, rfl⟩ : ∃ o c, v = .slice o l.length c := by obtain ⟨⟨o, c, e, _⟩, _⟩ := h; rw [digC_size] at e; exact ⟨o, c, e⟩
  obtain ⟨idg, hidg, hzd, hsd, hbyd⟩ := info_parts infoDg
  have Hi := Lib.hid (And.intro hidg (And.intro hzd (And.intro hsd hbyd)))
  have HD := Lib.hid h
  have Heq := Lib.hid (Lib.run_eql_slice_nil (P := Tryz.prog) w 22 39 o l.length c 0 0 Tryz.underlying22)
  have hb1 := Below.one w (.cells #[] 39)
  clear hidg hzd hsd hbyd h
  go_enter Tryz.func29, Tryz.ntmps29
  cases o with
  | none =>
    have h0 : l = [] := List.eq_nil_of_length_eq_zero (HD.out.row.2 rfl).1
    have Hl := Lib.hid h0
    have he := Heq.out
    clear h0
    go_wp2
    go_ret
    exact ⟨_, rfl, by rw [Hl.out]; exact DgO.nil _ _, Below.refl _ _⟩
  | some ad =>
    have he := Heq.out
    have Hrow := Lib.hid (HD.out.below hb1).row.1
    have Hfl := Lib.hid (digC_flat HD.out.2)
    have Hown := Lib.hid (ownsRow_empty w w.heap.size w.heap.size 39 32 rfl (Nat.le_refl _))
    go_wp2_with (refine wpList_app rfl (.tmp 5) (.tmp 6) 22 rfl w.heap.size 39 idg _ 32 32 Tryz.underlying22 Hi.out.1 Hi.out.2.1 Hi.out.2.2.1 Hi.out.2.2.2 (by simp [Value.cells]) (by decide) _ _ _ rfl Hown.out (some ad) l.length c (digC l).flatten rfl (fun h => by cases h) Hfl.out Hrow.out (digC_one l) (by simp [maxLen]; omega) (by omega) (by simp) ?_; intro v' w2 ho hg)
    go_ret
    refine ⟨v', rfl, ⟨by simpa using ho, HD.out.2⟩, hb1.grown hg (by simp) (fun k hk => ?_)⟩
    exact (Hown.out.lt k hk).1
def idxI (p : List UInt8 → Bool) (l : List (List UInt8)) : Int := if l.findIdx p < l.length then (l.findIdx p : Int) else -1
theorem idx_hit {p : List UInt8 → Bool} {l : List (List UInt8)} {k : Nat} (hk : k < l.length) (hp : p l[k] = true) (h : ∀ j (hj : j < l.length), j < k → p l[j] = false) : l.findIdx p = k := by
  have h1 : l.findIdx p ≤ k := by
    rcases Nat.lt_or_ge k (l.findIdx p) with h1 | h1
    · have h2 := List.not_of_lt_findIdx h1
      rw [hp] at h2
      simp at h2
    · exact h1
  rcases Nat.lt_or_ge (l.findIdx p) k with h2 | h2
  · have h3 := List.findIdx_getElem (xs := l) (p := p) (w := by omega)
    rw [h _ (by omega) h2] at h3
    cases h3
  · omega
theorem idx_miss {p : List UInt8 → Bool} {l : List (List UInt8)} (h : ∀ j (hj : j < l.length), p l[j] = false) : l.findIdx p = l.length := by
  rcases Nat.lt_or_ge (l.findIdx p) l.length with h2 | h2
  · have h3 := List.findIdx_getElem (xs := l) (p := p) (w := h2)
    rw [h _ h2] at h3
    cases h3
  · have := List.findIdx_le_length (p := p) (xs := l); omega
set_option maxRecDepth 100000 in
set_option maxHeartbeats 2000000 in
theorem sl_Index {S : Nat → Prop} (w : World) (v : Value) (l : List (List UInt8)) (h : DigR S w v l) (hm : l.length ≤ 1000000) (p : List UInt8 → Bool) (gf : FuncId) (lb : Array Value) (eg : ∀ args w, (callFunc gf args).run Tryz.prog w = .ok (.enter gf args) w)
    (hp : ∀ W d, Below w.heap.size w W → d.length = 32 → Calls Tryz.prog gf (#[dgV d] ++ lb) W fun e w' => e = .returned (.bool (p d)) ∧ Below W.heap.size W w') :
    Calls Tryz.prog 61 #[v, .func (.func gf) #[] lb] w fun e w' => e = .returned (.int .i64 (idxI p l)) ∧ Below w.heap.size w w' := by
  obtain ⟨o, c, rfl⟩ : ∃ o c, v = .slice o l.length c := by obtain ⟨⟨o, c, e, _⟩, _⟩ := h; rw [digC_size] at e; exact ⟨o, c, e⟩
  have HD := Lib.hid h
  have Hp := Lib.hid hp
  clear h hp
  obtain ⟨n, hln⟩ : ∃ n, l.length = n := ⟨_, rfl⟩
  have Hn := Lib.hid hln
  rw [hln] at HD hm ⊢
  clear hln
  go_enter Tryz.func61, Tryz.ntmps61
  go_wp2
  go_loopw [8] (fun i wr => ∃ k : Nat, k ≤ n ∧ i = .int .i64 k ∧ Hid (∀ j (hj : j < l.length), j < k → p l[j] = false) ∧ Below w.heap.size w wr) (fun i _ => n - (intOf i).toNat)
  case atStart => exact ⟨0, by omega, rfl, Lib.hid (fun j hj h => absurd h (Nat.not_lt_zero _)), Below.refl _ _⟩
  case round =>
    obtain ⟨k, hk, rfl, Hno, hB⟩ := hrel
    by_cases hlt : k < n
    · have hltl : k < l.length := by rw [Hn.out]; exact hlt
      have hlt' : (k : Int) < (n : Int) := by omega
      obtain ⟨b, off, c', e', _, _, _, hb, hra⟩ := (HD.out.below hB).at hltl
      rw [Hn.out] at e'
      obtain ⟨rfl, rfl⟩ : o = some ⟨b, off, none⟩ ∧ c = c' := by simpa using e'
      have hxl : l[k].length = 32 := HD.out.2 _ (List.getElem_mem hltl)
      have Hxb : Hid ((bytesV l[k]).length = 32) := Lib.hid (by rw [bytesV_len, hxl])
      have Hra := Lib.hid hra
      have Hcall := Lib.hid (Hp.out wr l[k] hB hxl)
      have Hmem : Hid (∀ q, p l[k] = q → (q = true → idxI p l = k) ∧ (q = false → ∀ j (hj : j < l.length), j < k + 1 → p l[j] = false)) := Lib.hid (fun q hq => ⟨fun h1 => by
        have := idx_hit hltl (hq.trans h1) Hno.out
        unfold idxI
        rw [this, if_pos hltl], fun h1 j hj hjk => by
        rcases Nat.lt_succ_iff_lt_or_eq.1 hjk with h2 | rfl
        · exact Hno.out j hj h2
        · exact hq.trans h1⟩)
      clear hra hxl e'
      generalize l[k] = x at *
      clear hltl
      cases hq : p x
      · rw [hq] at Hcall
        have Hnx := Lib.hid ((Hmem.out false hq).2 rfl)
        go_wp2_with (first
          | (refine wpList_load_mid rfl 39 (.tmp 14) rfl b (off + k * 32) rfl (bytesV x) _ Hra.out Tryz.underlying39 rfl (by rw [sizeDg, Hxb.out]) ?_)
          | (go_at_fn gf; refine Hcall.out.mono ?_; rintro e w2 ⟨rfl, hb2⟩))
        have hB2 := Below.then hB hb2 hB.size
        go_wp2
        go_roundw
        case rel => exact ⟨k + 1, by omega, by go_num, Hnx, hB2⟩
        case measure => simp [intOf]; omega
      · rw [hq] at Hcall
        have Hres := Lib.hid ((Hmem.out true hq).1 rfl)
        go_wp2_with (first
          | (refine wpList_load_mid rfl 39 (.tmp 14) rfl b (off + k * 32) rfl (bytesV x) _ Hra.out Tryz.underlying39 rfl (by rw [sizeDg, Hxb.out]) ?_)
          | (go_at_fn gf; refine Hcall.out.mono ?_; rintro e w2 ⟨rfl, hb2⟩))
        have hB2 := Below.then hB hb2 hB.size
        go_wp2
        go_ret
        exact ⟨by rw [Hres.out]; rfl, hB2⟩
    · obtain rfl : k = n := by omega
      have hlt' : ¬ (k : Int) < (k : Int) := by omega
      have Hres : Hid (idxI p l = -1) := Lib.hid (by unfold idxI; rw [idx_miss (fun j hj => Hno.out j hj (by have := Hn.out; omega)), if_neg (Nat.lt_irrefl _)])
      go_wp2
      go_ret
      exact ⟨by rw [Hres.out]; rfl, hB⟩
end Go.Proofs.YtebgopdmeghmhaaGreat
namespace Go.Proofs.YtebgopdmeghmhaaGreat
open Go.RowKit

theorem zeroDgV (w : World) : (zeroValue 39).run Tryz.prog w = .ok (dgV zeroD) w := by
  obtain ⟨i, hi, hz, _, _⟩ := info_parts infoDg
  have hz' : i.zero = some (dgV zeroD) := hz.trans (congrArg some rfl)
  clear hz
  generalize dgV zeroD = Z at *
  simp [zeroValue, typeInfo, hi, hz']
theorem grown_setCells {b : Nat} : ∀ (l : List Value) (o : Nat) (w : World), w.grownBy (w.setCells b o l) (some b)
  | [], _, w => World.grownBy.refl w _
  | v :: l, o, w => by
    have h := grown_setCells (b := b) l (o + 1) (w.setCell ⟨b, o, none⟩ v)
    exact ⟨h.os, h.tape, h.output, by simp, fun k hk hne => (h.block k (by simpa using hk) hne).trans (Below.heap_setCell w ⟨b, o, none⟩ v k fun e => hne (by rw [e]))⟩
theorem zeroCells_dg (m : Nat) : (Builtin.zeroCells (dgV zeroD).cells m).toList = List.replicate (m * 32) (Value.int .u8 0) := by
  have hz : (dgV zeroD).cells = (List.replicate 32 (Value.int .u8 0)).toArray := rfl
  rw [hz]
  refine List.eq_replicate_iff.2 ⟨by simp [Builtin.zeroCells], fun v hv => ?_⟩
  simp only [Builtin.zeroCells, Array.toList_map, List.mem_map] at hv
  obtain ⟨i, _, rfl⟩ := hv
  have hlt : i % 32 < 32 := Nat.mod_lt _ (by decide)
  simp only [List.size_toArray, List.length_replicate]
  rw [getElem!_pos _ _ (by rw [List.size_toArray, List.length_replicate]; exact hlt), List.getElem_toArray]
  exact List.getElem_replicate _
/-- 'clear(s[i:])' -/
theorem clear_digs {w : World} {base g cap n i : Nat} {C : List (List UInt8)} (h : w.ownsRow base 39 32 (.slice (some ⟨g, 0, none⟩) n cap) n (digC C).flatten) (hC : Dok C) (hn : C.length = n) (hi : i < n) :
    ∃ w', (∀ ty c, (Builtin.clear_ #[22] ty #[.slice (some ⟨g, i * 32, none⟩) (n - i) c]).run Tryz.prog w = .ok (.tuple #[]) w') ∧
      w'.ownsRow base 39 32 (.slice (some ⟨g, 0, none⟩) i cap) i (digC (C.take i)).flatten ∧ w.grownBy w' (some g) := by
  rcases h.2 with ⟨h1, _⟩ | ⟨g', cap', cur, e', hb, hg, hnc, hcm, hs, ht⟩
  · cases h1
  obtain ⟨rfl, rfl⟩ : g = g' ∧ cap = cap' := by simpa using e'
  have hB : Bx w g cur 39 := hg
  have hle : n * 32 ≤ cap * 32 := Nat.mul_le_mul_right _ hnc
  obtain ⟨cs', b1, b2, b3⟩ := hB.setCells (List.replicate ((n - i) * 32) (Value.int .u8 0)) (i * 32)
  have hst := run_storeCells_cells (P := Tryz.prog) g (i * 32) (List.replicate ((n - i) * 32) (Value.int .u8 0)) 0 w
    (fun j hj => by rw [List.length_replicate] at hj; rw [hB.cell]; simp; omega) (fun j _ => hB.free _) (fun v hv => by rw [List.eq_of_mem_replicate hv]; rfl)
  simp only [Nat.add_zero] at hst
  refine ⟨w.setCells g (i * 32) (List.replicate ((n - i) * 32) (Value.int .u8 0)), fun ty c => ?_, ⟨?_, .inr ⟨g, cap, cs', rfl, hb, b1, by omega, hcm, by rw [b2]; exact hs, ?_⟩⟩, grown_setCells _ _ _⟩
  · obtain ⟨m, hm⟩ : ∃ m, n - i = m + 1 := ⟨n - i - 1, by omega⟩
    rw [hm] at hst ⊢
    have hz1 := zeroDgV
    have hz2 := zeroCells_dg (m + 1)
    generalize dgV zeroD = Z at hz1 hz2
    simp [Builtin.clear_, run_underlying Tryz.underlying22, hz1, hz2, hst]
  · rw [digC_flat (fun d hd => hC d (List.mem_of_mem_take hd)), List.length_take]
    congr 1
    omega
  · have hfl : (digC C).flatten = (digC (C.take i)).flatten ++ (digC (C.drop i)).flatten := by rw [← digC_app, List.take_append_drop]
    have hln : (digC (C.take i)).flatten.length = i * 32 := by
      rw [digC_flat (fun d hd => hC d (List.mem_of_mem_take hd)), List.length_take]
      congr 1
      omega
    apply List.ext_getElem?
    intro j
    rw [List.getElem?_take]
    by_cases hj : j < i * 32
    · rw [if_pos hj, Array.getElem?_toList, b3, if_neg (by omega), ← Array.getElem?_toList]
      have h2 : cur.toList[j]? = (digC C).flatten[j]? := by rw [← ht, List.getElem?_take, if_pos (by omega)]
      rw [h2, hfl, List.getElem?_append_left (by omega)]
    · rw [if_neg hj, List.getElem?_eq_none (by omega)]
theorem seg_digs {w : World} {base g cap n i : Nat} {C : List (List UInt8)} (h : w.ownsRow base 39 32 (.slice (some ⟨g, 0, none⟩) n cap) n (digC C).flatten) (hC : Dok C) (hn : C.length = n) (hi : i < n) {x : List UInt8} (hx : x.length = 32) :
    (w.setCells g (i * 32) (bytesV x)).ownsRow base 39 32 (.slice (some ⟨g, 0, none⟩) n cap) n (digC (C.set i x)).flatten ∧ w.there g (i * 32) 32 := by
  have hl : (digC C).length = n := by rw [digC_size, hn]
  have h2 := ownsRow_seg (L := digC C) (digC_len hC) (by rw [hl]; exact h) (i := i) (by omega) (x := bytesV x) (by rw [bytesV_len, hx]) (by decide)
  rw [hl] at h2
  refine ⟨?_, h2.2⟩
  have e : digC (C.set i x) = (digC C).set i (bytesV x) := by unfold digC; rw [List.map_set]
  rw [e]
  exact h2.1
theorem filt_start {p : List UInt8 → Bool} {l : List (List UInt8)} {k : Nat} (hk : k < l.length) (hp : p l[k] = true) (h : ∀ j (hj : j < l.length), j < k → p l[j] = false) : l.take k = (l.take (k + 1)).filter fun d => !p d := by
  rw [List.take_succ_eq_append_getElem hk, List.filter_append]
  have h1 : (l.take k).filter (fun d => !p d) = l.take k := by
    refine List.filter_eq_self.2 fun d hd => ?_
    obtain ⟨j, hj, rfl⟩ := List.mem_iff_getElem.1 hd
    simp only [List.length_take] at hj
    rw [List.getElem_take, h j (by omega) (by omega)]
    rfl
  rw [h1]
  simp [hp]
theorem idx_cases {p : List UInt8 → Bool} (l : List (List UInt8)) : (idxI p l = -1 ∧ l.filter (fun d => !p d) = l) ∨ ∃ k, ∃ _hk : k < l.length, idxI p l = k ∧ l.take k = (l.take (k + 1)).filter fun d => !p d := by
  unfold idxI
  by_cases h : l.findIdx p < l.length
  · right
    refine ⟨l.findIdx p, h, by rw [if_pos h], filt_start h (List.findIdx_getElem (w := h)) fun j hj hlt => ?_⟩
    have := List.not_of_lt_findIdx hlt
    simpa using this
  · left
    rw [if_neg h]
    refine ⟨rfl, List.filter_eq_self.2 fun d hd => ?_⟩
    obtain ⟨j, hj, rfl⟩ := List.mem_iff_getElem.1 hd
    have := List.not_of_lt_findIdx (xs := l) (p := p) (i := j) (by omega)
    simpa using this
structure DelI (p : List UInt8 → Bool) (l C : List (List UInt8)) (i j : Nat) : Prop where
  len : C.length = l.length
  ok : Dok C
  lt : i < j
  head : C.take i = (l.take j).filter fun d => !p d
  tail : C.drop j = l.drop j
theorem DelI.get {p : List UInt8 → Bool} {l C : List (List UInt8)} {i j : Nat} (h : DelI p l C i j) (hj : j < l.length) : ∃ hj' : j < C.length, C[j] = l[j] := by
  have hj' : j < C.length := by have := h.len; omega
  refine ⟨hj', ?_⟩
  have := congrArg (·[0]?) h.tail
  simp only [List.getElem?_drop, Nat.add_zero] at this
  rw [List.getElem?_eq_getElem hj', List.getElem?_eq_getElem hj] at this
  exact Option.some.inj this
theorem DelI.skip {p : List UInt8 → Bool} {l C : List (List UInt8)} {i j : Nat} (h : DelI p l C i j) (hj : j < l.length) (hp : p l[j] = true) : DelI p l C i (j + 1) := by
  refine ⟨h.len, h.ok, by have := h.lt; omega, ?_, ?_⟩
  · rw [h.head, List.take_succ_eq_append_getElem hj, List.filter_append]
    simp [hp]
  · rw [← List.drop_drop, h.tail, List.drop_drop]
theorem DelI.keep {p : List UInt8 → Bool} {l C : List (List UInt8)} {i j : Nat} (h : DelI p l C i j) (hj : j < l.length) (hd : l[j].length = 32) (hp : p l[j] = false) : DelI p l (C.set i l[j]) (i + 1) (j + 1) := by
  have hij := h.lt
  have hi : i < C.length := by have := h.len; omega
  refine ⟨by rw [List.length_set, h.len], fun d hd' => ?_, by omega, ?_, ?_⟩
  · rcases List.mem_or_eq_of_mem_set hd' with h1 | rfl
    · exact h.ok d h1
    · exact hd
  · rw [List.take_succ_eq_append_getElem hj, List.filter_append, ← h.head, List.take_add_one, List.take_set_of_le (Nat.le_refl _), List.getElem?_set_self hi]
    simp [hp]
  · rw [List.drop_set_of_lt (by omega), ← List.drop_drop, h.tail, List.drop_drop]
set_option maxRecDepth 100000 in
set_option maxHeartbeats 4000000 in
theorem sl_DeleteFunc (w : World) {base : Nat} (v : Value) (l : List (List UInt8)) (h : DgO w base v l) (hm : l.length ≤ 1000000) (hbase : base ≤ w.heap.size) (p : List UInt8 → Bool) (gf : FuncId) (lb : Array Value) (eg : ∀ args w, (callFunc gf args).run Tryz.prog w = .ok (.enter gf args) w)
    (hp : ∀ W d, w.grownBy W v.ownBlock → d.length = 32 → Calls Tryz.prog gf (#[dgV d] ++ lb) W fun e w' => e = .returned (.bool (p d)) ∧ Below W.heap.size W w') :
    Calls Tryz.prog 28 #[v, .func (.func gf) #[] lb] w fun e w' => ∃ u, e = .returned u ∧ DgO w' base u (l.filter fun d => !p d) ∧ w.grownBy w' v.ownBlock := by
  have hdg := h.dig
  have Hix := Lib.hid (sl_Index w v l hdg hm p gf lb eg fun W d hb hd => hp W d (grownBy_below hb (Nat.le_refl _) _) hd)
  rcases idx_cases (p := p) l with ⟨e1, e2⟩ | ⟨k, hk, e1, e2⟩
  · rw [e1] at Hix
    rw [e2]
    have Hh := Lib.hid h
    obtain ⟨o, m, c, rfl⟩ := ownsRow_slice h.1
    clear h e1 e2 hdg hp
    go_enter Tryz.func28, Tryz.ntmps28
    go_wp2_with fail
    refine Hix.out.mono ?_
    rintro e w1 ⟨rfl, hb1⟩
    go_wp2
    go_ret
    exact ⟨_, rfl, Hh.out.below hb1, grownBy_below hb1 (Nat.le_refl _) _⟩
  · rw [e1] at Hix
    obtain ⟨g, cap, rfl⟩ : ∃ g cap, v = .slice (some ⟨g, 0, none⟩) l.length cap := by
      rcases h.1.2 with ⟨rfl, h0⟩ | ⟨g, cap, cur, rfl, _⟩
      · omega
      · exact ⟨g, cap, rfl⟩
    obtain ⟨idg, hidg, hzd, hsd, hbyd⟩ := info_parts infoDg
    obtain ⟨z0, hz0⟩ : ∃ z, (.agg (List.replicate 32 (Value.int .u8 0)).toArray : Value) = .agg z := ⟨_, rfl⟩
    have hzl : z0.size = 32 := by injection hz0 with e; rw [← e]; simp
    have Hzi : Hid ((Tryz.prog.info? 39).map (·.zero) = some (some (.agg z0))) := Lib.hid (by rw [hidg, ← hz0]; simp only [Option.map_some, hzd]; rfl)
    have Hzl := Lib.hid hzl
    have Hh := Lib.hid h
    have Hp := Lib.hid hp
    have Hok := Lib.hid h.2
    have Hinv0 : Hid (DelI p l l k (k + 1)) := Lib.hid ⟨rfl, h.2, Nat.lt_succ_self k, e2, rfl⟩
    have hcapl : l.length ≤ cap ∧ cap ≤ maxLen := by
      rcases h.1.2 with ⟨h0, _⟩ | ⟨g', cap', cur, e', _, _, h1, h2, _⟩
      · cases h0
      · obtain ⟨_, rfl⟩ : g = g' ∧ cap = cap' := by simpa using e'
        exact ⟨h1, h2⟩
    obtain ⟨hc1, hc2⟩ := hcapl
    unfold maxLen at hc2
    obtain ⟨n, hln⟩ : ∃ n, l.length = n := ⟨_, rfl⟩
    have Hn := Lib.hid hln
    rw [hln] at Hix Hh hm hk hc1 Hp ⊢
    clear h e1 e2 hdg hp hidg hzd hsd hbyd hz0 hzl hln
    go_enter Tryz.func28, Tryz.ntmps28
    go_wp2_with fail
    refine Hix.out.mono ?_
    rintro e w1 ⟨rfl, hb1⟩
    have hne1 : ((k : Int) == -1) = false := beq_eq_false_iff_ne.2 (by omega)
    have Hh1 := Lib.hid (Hh.out.below hb1)
    have hg1 := grownBy_below hb1 (Nat.le_refl _) (some g)
    have hz1 : base ≤ w1.heap.size := Nat.le_trans hbase hb1.size
    clear hb1 Hh Hix
    go_wp2
    go_loopw [5, 6] (fun i j wr => ∃ (i' j' : Nat) (C : List (List UInt8)), i = .int .i64 i' ∧ j = .int .i64 j' ∧ j' ≤ n ∧ Hid (DelI p l C i' j') ∧ i' < n ∧ wr.ownsRow base 39 32 (.slice (some ⟨g, 0, none⟩) n cap) n (digC C).flatten ∧ w.grownBy wr (some g)) (fun _ j _ => n - (intOf j).toNat)
    case atStart => exact ⟨k, k + 1, l, rfl, by go_num, by omega, Hinv0, hk, by have := Hh1.out.1; rwa [Hn.out] at this, hg1⟩
    case round =>
      clear Hh1 Hinv0 hg1
      obtain ⟨i, j, C, rfl, rfl, hj, Hi, hin, ho, hg⟩ := hrel
      have hij := Hi.out.lt
      have Ho := Lib.hid ho
      have Hg := Lib.hid hg
      have HCn : Hid (C.length = n) := Lib.hid (by rw [Hi.out.len, Hn.out])
      by_cases hlt : j < n
      · have hlt' : (j : Int) < (n : Int) := by omega
        have hltl : j < l.length := by rw [Hn.out]; exact hlt
        obtain ⟨hjC, hCj⟩ := Hi.out.get hltl
        have hdr : DigR (fun b => base ≤ b ∧ b < wr.heap.size) wr (.slice (some ⟨g, 0, none⟩) n cap) C := by
          have h1 := DigR.owns (l := C) (by rw [HCn.out]; exact ho) Hi.out.ok
          exact h1
        obtain ⟨b', off', c', e', _, _, _, hb, hra⟩ := hdr.at hjC
        obtain ⟨⟨rfl, rfl⟩, -, -⟩ : (g = b' ∧ 0 = off') ∧ n = C.length ∧ cap = c' := by simpa using e'
        rw [hCj, Nat.zero_add] at hra
        have hxl : l[j].length = 32 := Hok.out _ (List.getElem_mem hltl)
        have Hxb : Hid ((bytesV l[j]).length = 32) := Lib.hid (by rw [bytesV_len, hxl])
        have Hra := Lib.hid hra
        have Hone1 : Hid (∀ u ∈ bytesV l[j], u.oneCell' = true) := Lib.hid (bytesV_one _)
        have hb6 : Below wr.heap.size wr ((wr.alloc (.cells z0 39)).setCells wr.heap.size 0 (bytesV l[j]).toArray.toList) := below_setCells (Nat.le_refl _) _ _ _ (Below.one wr (.cells z0 39))
        have xd := (Bx.new wr z0 39).setAll (cx := (bytesV l[j]).toArray) (by rw [Hzl.out, List.size_toArray, Hxb.out])
        have HXd : Hid (((wr.alloc (.cells z0 39)).setCells wr.heap.size 0 (bytesV l[j]).toArray.toList).rangeAt wr.heap.size 0 (bytesV l[j])) := Lib.hid (by simpa using xd.range)
        have lX := xd.lt
        have Hg6 := Lib.hid (hg.trans (grownBy_below hb6 (Nat.le_refl _) (some g)))
        have Hcall := Lib.hid (Hp.out _ _ Hg6.out hxl)
        have Ho6 := Lib.hid (ownsRow_belowAll ho hb6)
        have Hskip := Lib.hid (fun h => Hi.out.skip hltl h)
        have Hkeep := Lib.hid (fun h => Hi.out.keep hltl hxl h)
        have Hx32 := Lib.hid hxl
        have hsz6 := hb6.size
        clear hra e' hdr ho hg hxl xd hb6 hb hCj
        generalize l[j] = x at *
        clear hltl
        cases hq : p x
        · rw [hq] at Hcall
          go_wp2_with (first
            | (refine wpList_load_mid rfl 39 (.tmp 24) rfl g (j * 32) (by first | rfl | (simp)) (bytesV x) _ Hra.out Tryz.underlying39 rfl (by rw [sizeDg, Hxb.out]) ?_)
            | (refine wpList_alloc_row rfl 39 rfl z0 Hzi.out ?_)
            | (refine wpList_store_mid rfl 39 (.tmp 7) (.tmp 25) rfl wr.heap.size 0 (bytesV x).toArray rfl rfl (there_bx (Bx.new wr z0 39) (by rw [Hzl.out, List.size_toArray, Hxb.out]; exact Nat.le_refl _)) (by rw [sizeDg, List.size_toArray, Hxb.out]) (by simpa using Hone1.out) ?_; generalize (wr.alloc (.cells z0 39)).setCells wr.heap.size 0 (bytesV x).toArray.toList = w6 at *)
            | (refine wpList_load_mid rfl 39 (.tmp 7) rfl wr.heap.size 0 rfl (bytesV x) _ HXd.out Tryz.underlying39 rfl (by rw [sizeDg, Hxb.out]) ?_))
          refine Hcall.out.mono ?_
          rintro e w7 ⟨rfl, hb7⟩
          have Ho7 := ownsRow_belowAll Ho6.out hb7
          have HX7 := Lib.hid (rangeAt_below HXd.out hb7 lX)
          have Hg7 := Lib.hid (Hg6.out.trans (grownBy_below hb7 (Nat.le_refl _) (some g)))
          have Hseg := Lib.hid (seg_digs Ho7 Hi.out.ok HCn.out hin Hx32.out)
          have Hnx := Lib.hid (Hkeep.out hq)
          clear Ho7 hb7
          go_wp2_with (first
            | (refine wpList_load_mid rfl 39 (.tmp 7) rfl wr.heap.size 0 rfl (bytesV x) _ HX7.out Tryz.underlying39 rfl (by rw [sizeDg, Hxb.out]) ?_)
            | (refine wpList_store_mid rfl 39 (.tmp 33) (.tmp 32) rfl g (i * 32) (bytesV x).toArray rfl rfl (by rw [List.size_toArray, Hxb.out]; exact Hseg.out.2) (by rw [sizeDg, List.size_toArray, Hxb.out]) (by simpa using Hone1.out) ?_))
          have Hg8 := Lib.hid (Hg7.out.trans (grown_setCells (b := g) (bytesV x) (i * 32) w7))
          go_wp2
          go_roundw
          case rel => exact ⟨i + 1, j + 1, C.set i x, by go_num, by go_num, by omega, Hnx, by omega, Hseg.out.1, Hg8.out⟩
          case measure => simp [intOf]; omega
        · rw [hq] at Hcall
          go_wp2_with (first
            | (refine wpList_load_mid rfl 39 (.tmp 24) rfl g (j * 32) (by first | rfl | (simp)) (bytesV x) _ Hra.out Tryz.underlying39 rfl (by rw [sizeDg, Hxb.out]) ?_)
            | (refine wpList_alloc_row rfl 39 rfl z0 Hzi.out ?_)
            | (refine wpList_store_mid rfl 39 (.tmp 7) (.tmp 25) rfl wr.heap.size 0 (bytesV x).toArray rfl rfl (there_bx (Bx.new wr z0 39) (by rw [Hzl.out, List.size_toArray, Hxb.out]; exact Nat.le_refl _)) (by rw [sizeDg, List.size_toArray, Hxb.out]) (by simpa using Hone1.out) ?_; generalize (wr.alloc (.cells z0 39)).setCells wr.heap.size 0 (bytesV x).toArray.toList = w6 at *)
            | (refine wpList_load_mid rfl 39 (.tmp 7) rfl wr.heap.size 0 rfl (bytesV x) _ HXd.out Tryz.underlying39 rfl (by rw [sizeDg, Hxb.out]) ?_))
          refine Hcall.out.mono ?_
          rintro e w7 ⟨rfl, hb7⟩
          have Ho7 := Lib.hid (ownsRow_belowAll Ho6.out hb7)
          have Hg7 := Lib.hid (Hg6.out.trans (grownBy_below hb7 (Nat.le_refl _) (some g)))
          have Hnx := Lib.hid (Hskip.out hq)
          go_wp2
          go_roundw
          case rel => exact ⟨i, j + 1, C, rfl, by go_num, by omega, Hnx, hin, Ho7.out, Hg7.out⟩
          case measure => simp [intOf]; omega
      · obtain rfl : j = n := by omega
        have hlt' : ¬ (j : Int) < (j : Int) := by omega
        obtain ⟨wc, hrun, hoc, hgc⟩ := clear_digs ho Hi.out.ok HCn.out hin
        have Hoc := Lib.hid hoc
        have Hgc := Lib.hid (hg.trans hgc)
        have Hfin : Hid (C.take i = l.filter (fun d => !p d) ∧ i = (l.filter (fun d => !p d)).length) := Lib.hid (by
          have h1 := Hi.out.head
          rw [show l.take j = l from List.take_of_length_le (by rw [Hn.out]; exact Nat.le_refl _)] at h1
          refine ⟨h1, ?_⟩
          rw [← h1, List.length_take]
          have := HCn.out
          omega)
        have Hdok : Hid (Dok (C.take i)) := Lib.hid fun d hd => Hi.out.ok d (List.mem_of_mem_take hd)
        clear ho hg hoc hgc
        go_wp2
        go_ret
        refine ⟨_, rfl, ⟨?_, ?_⟩, Hgc.out⟩
        · have h1 := Hoc.out
          rw [Hfin.out.1] at h1
          rw [← Hfin.out.2]
          exact h1
        · rw [← Hfin.out.1]; exact Hdok.out
end Go.Proofs.YtebgopdmeghmhaaGreat
namespace Go.Proofs.YtebgopdmeghmhaaGreat
open Go.RowKit

set_option maxRecDepth 100000 in
set_option maxHeartbeats 1000000 in
/-- its function value: 'has[d]' -/
theorem rc_without1 (d : List UInt8) (hd : d.length = 32) (b M n : Nat) (l : List (List UInt8)) (w : World) (hx : Bx w b #[.map (some M)] 93) (hm : MapD w M n l) :
    Calls Tryz.prog 80 #[dgV d, .pointer (some ⟨b, 0, none⟩)] w fun e w' => e = .returned (.bool (decide (d ∈ l))) ∧ Below w.heap.size w w' := by
  have hB := Below.one w (.cells (bytesV d).toArray 39)
  have c0 : (w.alloc (.cells (bytesV d).toArray 39)).cell? ⟨b, 0, none⟩ = some (.map (some M)) := by rw [(hx.alloc _).cell]; rfl
  have HX : Hid ((w.alloc (.cells (bytesV d).toArray 39)).rangeAt w.heap.size 0 (bytesV d)) := Lib.hid (by simpa using (Bx.new w (bytesV d).toArray 39).range)
  have Hg := Lib.hid (run_getD (hm.below hB) d hd)
  have Hl : Hid ((bytesV d).length = 32) := Lib.hid (by rw [bytesV_len, hd])
  obtain ⟨q, hq⟩ : ∃ q, decide (d ∈ l) = q := ⟨_, rfl⟩
  rw [hq] at Hg ⊢
  have Hdg : Hid (dgV d = .agg (bytesV d).toArray) := Lib.hid rfl
  rw [Hdg.out] at Hg ⊢
  obtain ⟨cd, hcd⟩ : ∃ c, (bytesV d).toArray = c := ⟨_, rfl⟩
  rw [hcd] at hB c0 HX Hg ⊢
  have Hcd := Lib.hid hcd
  clear hx hm hd hq hcd
  go_enter Tryz.func80, Tryz.ntmps80
  have hget := Hg.out
  go_wp2_with (refine wpList_load_mid rfl 39 (.tmp 2) rfl w.heap.size 0 rfl (bytesV d) _ HX.out Tryz.underlying39 rfl (by rw [sizeDg, Hl.out]) ?_; rw [Hcd.out])
  go_ret
  exact ⟨rfl, hB⟩
set_option maxRecDepth 100000 in
set_option maxHeartbeats 2000000 in
theorem rc_without {S1 S2 : Nat → Prop} (w : World) (v v2 : Value) (l l2 : List (List UInt8)) (h : DigR S1 w v l) (h2 : DigR S2 w v2 l2) (hm : l.length ≤ 1000000) (hm2 : l2.length ≤ 1000000) :
    Calls Tryz.prog 59 #[v, v2] w fun e w' => ∃ u, e = .returned u ∧ DgO w' w.heap.size u (withoutD l l2) ∧ Below w.heap.size w w' := by
  obtain ⟨o1, c1, rfl⟩ : ∃ o c, v = .slice o l.length c := by obtain ⟨⟨o, c, e, _⟩, _⟩ := h; rw [digC_size] at e; exact ⟨o, c, e⟩
  obtain ⟨o, c, rfl⟩ : ∃ o c, v2 = .slice o l2.length c := by obtain ⟨⟨o, c, e, _⟩, _⟩ := h2; rw [digC_size] at e; exact ⟨o, c, e⟩
  obtain ⟨idg, hidg, hzd, hsd, hbyd⟩ := info_parts infoDg
  obtain ⟨z0, hz0⟩ : ∃ z, (.agg (List.replicate 32 (Value.int .u8 0)).toArray : Value) = .agg z := ⟨_, rfl⟩
  have hzl : z0.size = 32 := by injection hz0 with e; rw [← e]; simp
  have Hzi : Hid ((Tryz.prog.info? 39).map (·.zero) = some (some (.agg z0))) := Lib.hid (by rw [hidg, ← hz0]; simp only [Option.map_some, hzd]; rfl)
  have Hzl := Lib.hid hzl
  have hB2 : Below w.heap.size w ((w.alloc (.map #[] 0)).alloc (.cells #[.map (some w.heap.size)] 93)) := (Below.one w _).alloc (by simp) _
  have xm := Lib.hid ((MapD.made w).below (Below.one (w.alloc (.map #[] 0)) (.cells #[.map (some w.heap.size)] 93)))
  have xh := Lib.hid (Bx.newAt (w.alloc (.map #[] 0)) #[.map (some w.heap.size)] 93 (w.heap.size + 1) (by simp))
  have HD1 := Lib.hid h
  have HD2 := Lib.hid h2
  obtain ⟨n, hln⟩ : ∃ n, l2.length = n := ⟨_, rfl⟩
  have Hn := Lib.hid hln
  rw [hln] at HD2 hm2 ⊢
  clear hidg hzd hsd hbyd hz0 hzl h h2 hln
  have hmm := @run_makeMap Tryz.prog
  go_enter Tryz.func59, Tryz.ntmps59
  go_wp2
  clear hmm
  generalize (w.alloc (.map #[] 0)).alloc (.cells #[.map (some w.heap.size)] 93) = w2 at *
  go_loopw [11] (fun i wr => ∃ k : Nat, k ≤ n ∧ i = .int .i64 k ∧ MapD wr w.heap.size k (l2.take k) ∧ Bx wr (w.heap.size + 1) #[.map (some w.heap.size)] 93 ∧ Below w.heap.size w wr) (fun i _ => n - (intOf i).toNat)
  case atStart => exact ⟨0, by omega, rfl, xm.out, xh.out, hB2⟩
  case round =>
    clear xm xh hB2
    obtain ⟨k, hk, rfl, hmp, hX, hB⟩ := hrel
    have Hmp := Lib.hid hmp
    have HX := Lib.hid hX
    clear hmp hX
    by_cases hlt : k < n
    · have hltl : k < l2.length := by rw [Hn.out]; exact hlt
      have hlt' : (k : Int) < (n : Int) := by omega
      obtain ⟨b, off, c', e', _, _, _, hb, hra⟩ := (HD2.out.below hB).at hltl
      rw [Hn.out] at e'
      obtain ⟨rfl, rfl⟩ : o = some ⟨b, off, none⟩ ∧ c = c' := by simpa using e'
      have hxl : l2[k].length = 32 := HD2.out.2 _ (List.getElem_mem hltl)
      have Hxb : Hid ((bytesV l2[k]).length = 32) := Lib.hid (by rw [bytesV_len, hxl])
      have Hxl := Lib.hid hxl
      have Hra := Lib.hid hra
      have Hone1 : Hid (∀ u ∈ bytesV l2[k], u.oneCell' = true) := Lib.hid (bytesV_one _)
      have hb6 : Below wr.heap.size wr ((wr.alloc (.cells z0 39)).setCells wr.heap.size 0 (bytesV l2[k]).toArray.toList) := below_setCells (Nat.le_refl _) _ _ _ (Below.one wr (.cells z0 39))
      have xd := (Bx.new wr z0 39).setAll (cx := (bytesV l2[k]).toArray) (by rw [Hzl.out, List.size_toArray, Hxb.out])
      have HXd : Hid (((wr.alloc (.cells z0 39)).setCells wr.heap.size 0 (bytesV l2[k]).toArray.toList).rangeAt wr.heap.size 0 (bytesV l2[k])) := Lib.hid (by simpa using xd.range)
      have hB6 := Below.then hB hb6 hB.size
      have HX6 := HX.out.belowAll hb6
      have Hmp6 := Lib.hid (Hmp.out.below hb6)
      have Htk : Hid (l2.take (k + 1) = l2.take k ++ [l2[k]]) := Lib.hid (List.take_succ_eq_append_getElem hltl)
      have c0 : ((wr.alloc (.cells z0 39)).setCells wr.heap.size 0 (bytesV l2[k]).toArray.toList).cell? ⟨w.heap.size + 1, 0, none⟩ = some (.map (some w.heap.size)) := by rw [HX6.cell]; rfl
      have H6 := Lib.hid HX6
      clear hra e' hxl xd hb6 HX6 HX Hmp
      generalize l2[k] = x at *
      clear hltl
      go_wp2_with (first
        | (refine wpList_load_mid rfl 39 (.tmp 13) rfl b (off + k * 32) rfl (bytesV x) _ Hra.out Tryz.underlying39 rfl (by rw [sizeDg, Hxb.out]) ?_)
        | (refine wpList_alloc_row rfl 39 rfl z0 Hzi.out ?_)
        | (refine wpList_store_mid rfl 39 (.tmp 7) (.tmp 14) rfl wr.heap.size 0 (bytesV x).toArray rfl rfl (there_bx (Bx.new wr z0 39) (by rw [Hzl.out, List.size_toArray, Hxb.out]; exact Nat.le_refl _)) (by rw [sizeDg, List.size_toArray, Hxb.out]) (by simpa using Hone1.out) ?_; generalize (wr.alloc (.cells z0 39)).setCells wr.heap.size 0 (bytesV x).toArray.toList = w6 at *)
        | (refine wpList_load_mid rfl 39 (.tmp 7) rfl wr.heap.size 0 rfl (bytesV x) _ HXd.out Tryz.underlying39 rfl (by rw [sizeDg, Hxb.out]) ?_)
        | (refine wpList_putD rfl (.tmp 15) (.tmp 16) (.const (.bool true)) rfl rfl Hmp6.out (by unfold maxLen; omega) x Hxl.out rfl rfl ?_; intro w7 hmp7 hg7))
      have H7 := Lib.hid (H6.out.grown hg7 (by simp))
      have hB7 := hB6.grown hg7 hB6.size (fun k e => by obtain rfl := Option.some.inj e; exact Nat.le_refl _)
      rw [← Htk.out] at hmp7
      have Hmp7 := Lib.hid hmp7
      clear hmp7 hg7 c0
      go_wp2
      go_roundw
      case rel => exact ⟨k + 1, by omega, by go_num, Hmp7.out, H7.out, hB7⟩
      case measure => simp [intOf]; omega
    · obtain rfl : k = n := by omega
      have hlt' : ¬ (k : Int) < (k : Int) := by omega
      have hall : l2.take k = l2 := List.take_of_length_le (by rw [Hn.out]; exact Nat.le_refl _)
      rw [hall] at Hmp
      have Hcl := Lib.hid (sl_Clone wr _ l (HD1.out.below hB) hm)
      clear hall
      go_wp2_with fail
      refine Hcl.out.mono ?_
      rintro e w5 ⟨u, rfl, ho5, hb5⟩
      have hB5 := Below.then hB hb5 hB.size
      have hdel := sl_DeleteFunc w5 u l ho5 hm hb5.size (fun d => decide (d ∈ l2)) 80 #[.pointer (some ⟨w.heap.size + 1, 0, none⟩)] (fun args W => rfl) (fun W d hg hd => by
        have hne : ∀ q, q < wr.heap.size → some q ≠ u.ownBlock := fun q hq e => by have := (ho5.lt e.symm).1; omega
        exact rc_without1 d hd (w.heap.size + 1) w.heap.size k l2 W ((HX.out.belowAll hb5).grown hg (hne _ HX.out.lt)) ((Hmp.out.below hb5).kept hg (hne _ Hmp.out.lt)))
      have Hdel := Lib.hid hdel
      have Hlt := Lib.hid (fun q e => (ho5.lt (b := q) e).1)
      have hz5 := hB.size
      clear hdel ho5 hb5 Hcl
      go_wp2_with fail
      refine Hdel.out.mono ?_
      rintro e w8 ⟨u8, rfl, ho8, hg8⟩
      have Ho8 := Lib.hid ho8
      have hB8 := hB5.grown hg8 hB5.size (fun q e => by have := Hlt.out q e; omega)
      clear ho8 hg8
      go_wp2
      go_ret
      exact ⟨_, rfl, Ho8.out.lower hz5, hB8⟩
end Go.Proofs.YtebgopdmeghmhaaGreat
