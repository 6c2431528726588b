/- Digests sorted: the order, sha256.Compare with its world written out, slices.SortFunc over a list of one's own. -/
import Derived.Test.YtebgopdmeghmhaaGreatIbPut
import Derived.Test.YtebgopdmeghmhaaGreatDgCmp
import Derived.Test.YtebgopdmeghmhaaGreatShelf
import Derived.Shelf.SlSortCmp.NoneTotal
namespace Go.Proofs.YtebgopdmeghmhaaGreat
open Go.RowKit Go.Shelf Go.Sort Go.Lib

theorem cmpB_refl : ∀ a : List UInt8, Lib.compareBytes a a = 0
  | [] => rfl
  | x :: a => by rw [Lib.compareBytes, if_neg (by simp), if_neg (by simp)]; exact cmpB_refl a
theorem cmpB_val : ∀ a b : List UInt8, Lib.compareBytes a b = -1 ∨ Lib.compareBytes a b = 0 ∨ Lib.compareBytes a b = 1
  | [], [] => .inr (.inl rfl)
  | [], _ :: _ => .inl rfl
  | _ :: _, [] => .inr (.inr rfl)
  | x :: a, y :: b => by
    rw [Lib.compareBytes]
    split
    · exact .inl rfl
    · split
      · exact .inr (.inr rfl)
      · exact cmpB_val a b
theorem cmpB_eq : ∀ {a b : List UInt8}, Lib.compareBytes a b = 0 → a = b
  | [], [], _ => rfl
  | [], _ :: _, h => by simp [Lib.compareBytes] at h
  | _ :: _, [], h => by simp [Lib.compareBytes] at h
  | x :: a, y :: b, h => by
    rw [Lib.compareBytes] at h
    split at h
    · cases h
    · split at h
      · cases h
      · rename_i h1 h2
        have e : x = y := by
          simp only [UInt8.lt_iff_toNat_lt] at h1 h2
          exact UInt8.toNat_inj.1 (by omega)
        rw [e, cmpB_eq h]
theorem cmpB_neg : ∀ a b : List UInt8, Lib.compareBytes b a = - Lib.compareBytes a b
  | [], [] => rfl
  | [], _ :: _ => rfl
  | _ :: _, [] => rfl
  | x :: a, y :: b => by
    rw [Lib.compareBytes, Lib.compareBytes]
    simp only [UInt8.lt_iff_toNat_lt]
    by_cases h1 : x.toNat < y.toNat
    · rw [if_neg (by omega), if_pos h1, if_pos h1]; rfl
    · by_cases h2 : y.toNat < x.toNat
      · rw [if_pos h2, if_neg h1, if_pos h2]
      · rw [if_neg h2, if_neg h1, if_neg h1, if_neg h2]; exact cmpB_neg a b
theorem cmpB_trans : ∀ a b c : List UInt8, Lib.compareBytes a b < 0 → Lib.compareBytes b c < 0 → Lib.compareBytes a c < 0
  | [], [], _, h, _ => absurd h (by simp [Lib.compareBytes])
  | [], _ :: _, [], _, h => absurd h (by simp [Lib.compareBytes])
  | [], _ :: _, _ :: _, _, _ => by simp [Lib.compareBytes]
  | _ :: _, [], _, h, _ => absurd h (by simp [Lib.compareBytes])
  | _ :: _, _ :: _, [], _, h => absurd h (by simp [Lib.compareBytes])
  | x :: a, y :: b, z :: c, h1, h2 => by
    rw [Lib.compareBytes] at h1 h2 ⊢
    simp only [UInt8.lt_iff_toNat_lt] at h1 h2 ⊢
    by_cases g1 : x.toNat < z.toNat
    · rw [if_pos g1]; decide
    · rw [if_neg g1]
      by_cases a1 : x.toNat < y.toNat
      · by_cases b1 : y.toNat < z.toNat
        · omega
        · rw [if_neg b1] at h2
          by_cases b2 : z.toNat < y.toNat
          · rw [if_pos b2] at h2; omega
          · omega
      · rw [if_neg a1] at h1
        by_cases a2 : y.toNat < x.toNat
        · rw [if_pos a2] at h1; omega
        · rw [if_neg a2] at h1
          by_cases b1 : y.toNat < z.toNat
          · omega
          · rw [if_neg b1] at h2
            by_cases b2 : z.toNat < y.toNat
            · rw [if_pos b2] at h2; omega
            · rw [if_neg b2] at h2
              rw [if_neg (by omega)]
              exact cmpB_trans a b c h1 h2

/-- a digest, as the sort knows it -/
abbrev DgS : Type := { d : List UInt8 // d.length = 32 }
instance : Inhabited DgS := ⟨⟨zeroD, rfl⟩⟩
def DgS.enc (x : DgS) : List Value := bytesV x.1
def cmpS (x y : DgS) : Int := cmpD x.1 y.1
theorem ltS (x y : DgS) : ltOf cmpS x y = decide (cmpD x.1 y.1 < 0) := rfl
theorem swoS : SWO (ltOf cmpS) where
  irrefl x := by rw [ltS, cmpD, cmpB_refl]; rfl
  trans x y z h1 h2 := by
    rw [ltS] at *
    exact decide_eq_true (cmpB_trans _ _ _ (of_decide_eq_true h1) (of_decide_eq_true h2))
  ntrans x y z h1 h2 := by
    rw [ltS] at *
    have h1 := of_decide_eq_false h1
    have h2 := of_decide_eq_false h2
    refine decide_eq_false fun h => ?_
    rcases cmpB_val x.1 y.1 with e | e | e
    · exact h1 (by rw [cmpD, e]; decide)
    · have := cmpB_eq e
      rw [this] at h
      exact h2 h
    · have h3 : Lib.compareBytes y.1 x.1 < 0 := by rw [cmpB_neg, e]; decide
      exact h2 (cmpB_trans _ _ _ h3 h)
theorem totS (x y : DgS) (h1 : ltOf cmpS x y = false) (h2 : ltOf cmpS y x = false) : x = y := by
  rw [ltS] at *
  have h1 := of_decide_eq_false h1
  have h2 := of_decide_eq_false h2
  rcases cmpB_val x.1 y.1 with e | e | e
  · exact absurd (by rw [cmpD, e]; decide) h1
  · exact Subtype.ext (cmpB_eq e)
  · exact absurd (by rw [cmpD, cmpB_neg, e]; decide) h2
def digS (t : List (List UInt8)) (h : Dok t) : List DgS := t.attach.map fun c => ⟨c.1, h c.1 c.2⟩
theorem digS_len (t : List (List UInt8)) (h : Dok t) : (digS t h).length = t.length := by simp [digS]
theorem digS_val (t : List (List UInt8)) (h : Dok t) : (digS t h).map Subtype.val = t := by
  simp only [digS, List.map_map]
  show t.attach.map Subtype.val = t
  exact List.attach_map_subtype_val t
/-- sorted as Go sorts digests -/
def sortD (l : List (List UInt8)) : List (List UInt8) := l.mergeSort fun x y => !decide (cmpD y x < 0)
theorem sortD_len (l : List (List UInt8)) : (sortD l).length = l.length := List.length_mergeSort l
theorem sortD_mem {l : List (List UInt8)} {d : List UInt8} : d ∈ sortD l ↔ d ∈ l := List.mem_mergeSort
theorem sortD_ok {l : List (List UInt8)} (h : Dok l) : Dok (sortD l) := fun d hd => h d (sortD_mem.1 hd)
theorem digS_sort (t : List (List UInt8)) (h : Dok t) : ((digS t h).mergeSort fun x y => !(ltOf cmpS) y x).map Subtype.val = sortD t := by
  have e := List.map_mergeSort (l := digS t h) (f := Subtype.val) (r := fun x y => !(ltOf cmpS) y x) (s := fun x y => !decide (cmpD y x < 0)) (fun a _ b _ => rfl)
  rw [e, digS_val]; rfl

set_option maxHeartbeats 1000000 in
theorem sha_compareW (a b : List UInt8) (ha : a.length = 32) (hb : b.length = 32) (w : World) :
    Calls Tryz.prog 32 #[dgV a, dgV b] w fun e w' => e = .returned (.int .i64 (cmpD a b)) ∧ ∃ q os', w' = grow (w.drewN q) os' := by
  obtain ⟨ca, hca⟩ : ∃ c, (bytesV a).toArray = c := ⟨_, rfl⟩
  obtain ⟨cb, hcb⟩ : ∃ c, (bytesV b).toArray = c := ⟨_, rfl⟩
  unfold dgV
  rw [hca, hcb]
  have xa := Bx.new w ca 39 |>.alloc (.cells cb 39)
  have xb := Bx.new (w.alloc (.cells ca 39)) cb 39
  simp only [World.size_alloc] at xb
  have hB : (w.alloc (.cells ca 39)).alloc (.cells cb 39) = grow w #[.cells ca 39, .cells cb 39] := by
    rw [alloc_eq_grow, alloc_eq_grow, grow_grow]; rfl
  have hca' := Lib.hid hca
  have hcb' := Lib.hid hcb
  have hB' := Lib.hid hB
  clear hca hcb hB
  go_enter Tryz.func32, Tryz.ntmps32
  go_wp2
  generalize (w.alloc (.cells ca 39)).alloc (.cells cb 39) = w1 at *
  have cQ : ∀ (n b o : Nat), (w1.drewN n).cell? ⟨b, o, none⟩ = w1.cell? ⟨b, o, none⟩ := fun _ _ _ => rfl
  have hc : ∀ n : Nat, Calls Tryz.prog 62 #[.slice (some ⟨w.heap.size, 0, none⟩) 32 32, .slice (some ⟨w.heap.size + 1, 0, none⟩) 32 32] (w1.drewN n) fun e w' => e = .returned (.int .i64 (cmpD a b)) ∧ w' = w1.drewN n := fun n => by
    have h1 : RowAt (· = w.heap.size) (w1.drewN n) (some ⟨w.heap.size, 0, none⟩) (bytesV a) := by have := RowAt.bx (w := w1.drewN n) xa; rw [← hca'.out] at this; simpa using this
    have h2 : RowAt (· = w.heap.size + 1) (w1.drewN n) (some ⟨w.heap.size + 1, 0, none⟩) (bytesV b) := by have := RowAt.bx (w := w1.drewN n) xb; rw [← hcb'.out] at this; simpa using this
    have := bytes_compare a b _ _ 32 32 (w1.drewN n) h1 h2
    rw [ha, hb] at this
    exact this.mono fun _ _ ⟨h1, h2⟩ => ⟨h1, h2.symm⟩
  clear ha hb
  go_quiet (first | (go_at_call 62; refine Calls.quiet_of_same (hc _)))
  go_wp2
  go_ret
  exact ⟨rfl, nq, _, by rw [hB'.out]; rfl⟩

/-! SortFunc -/
theorem isAggDg (w : World) : (isAgg 39).run Tryz.prog w = .ok true w := isAgg_dg w
theorem sizeOfDg (w : World) : (Go.sizeOf 39).run Tryz.prog w = .ok 32 w := by
  obtain ⟨i, hi, _, hs, _⟩ := info_parts infoDg
  simp [sizeOf, typeInfo, hi, hs]
theorem flatK_digC (d : Array DgS) : (flatK DgS.enc 32 d).toList = (digC (d.toList.map Subtype.val)).flatten := by
  have hl : ∀ x ∈ digC (d.toList.map Subtype.val), x.length = 32 := digC_len (by
    intro x hx
    obtain ⟨y, _, rfl⟩ := List.mem_map.1 hx
    exact y.2)
  have hn : (digC (d.toList.map Subtype.val)).flatten.length = d.size * 32 := by rw [flat_len hl]; simp [digC]
  apply List.ext_getElem?
  intro j
  by_cases hj : j < d.size * 32
  · rw [Array.getElem?_toList, Array.getElem?_eq_getElem (by rw [size_flatK]; exact hj), ← getElem!_pos (flatK DgS.enc 32 d) j (by rw [size_flatK]; exact hj), get_flatK _ _ _ _ hj]
    have hq : j / 32 < d.size := by omega
    have hg := flat_get hl (j / 32) (j % 32) (by omega)
    rw [show j / 32 * 32 + j % 32 = j by omega] at hg
    rw [hg]
    have e1 : (digC (d.toList.map Subtype.val))[j / 32]? = some (DgS.enc d[j / 32]!) := by
      simp [digC, DgS.enc, hq]
    rw [e1]
    have h32 : (DgS.enc d[j / 32]!).length = 32 := by rw [DgS.enc, bytesV_len]; exact d[j / 32]!.2
    simp only [Option.bind_some]
    rw [List.getElem?_eq_getElem (by rw [h32]; omega), getElem!_pos _ _ (by rw [h32]; omega)]
  · rw [List.getElem?_eq_none (by simp; omega), List.getElem?_eq_none (by omega)]

/-- what the sort leaves alone -/
theorem sortWorldK_block (d : Array DgS) (w : World) (blk off n : Nat) (os : Array Obj) (j : Nat) (hj : j < w.heap.size) (hb : j ≠ blk) : (sortWorldK DgS.enc 32 w blk off n d os).heap[j]? = w.heap[j]? := by
  unfold sortWorldK
  rw [heap_grow_old _ _ (by rw [size_putRowK]; exact hj)]
  unfold putRowK putRow mapBlock
  simp only [Array.getElem?_modify]
  rw [if_neg (fun h => hb h.symm)]
  rfl
theorem sortWorldK_row (d : Array DgS) (w : World) (blk n : Nat) (os : Array Obj) {cur : Array Value} {e : TypeId} (hx : w.heap[blk]? = some (.cells cur e (0, 0))) :
    ∃ cur', (sortWorldK DgS.enc 32 w blk 0 n d os).heap[blk]? = some (.cells cur' e (0, 0)) ∧ cur'.size = cur.size ∧ (d.size * 32 ≤ cur.size → cur'.toList.take (d.size * 32) = (flatK DgS.enc 32 d).toList) := by
  have hlt : blk < w.heap.size := (Array.getElem?_eq_some_iff.1 hx).1
  refine ⟨putCells id 0 (flatK DgS.enc 32 d) cur, ?_, by simp [putCells], fun hle => ?_⟩
  · unfold sortWorldK
    rw [heap_grow_old _ _ (by rw [size_putRowK]; exact hlt)]
    unfold putRowK putRow mapBlock
    simp only [Array.getElem?_modify]
    rw [if_pos trivial]
    show Option.map _ w.heap[blk]? = _
    rw [hx]
    rfl
  · apply List.ext_getElem?
    intro j
    rw [List.getElem?_take]
    by_cases hj : j < d.size * 32
    · rw [if_pos hj]
      have hc : j < cur.size := by omega
      simp only [putCells, Array.getElem?_toList, Array.getElem?_mapIdx, size_flatK, Nat.zero_le, true_and, Nat.zero_add, Nat.sub_zero, id]
      rw [Array.getElem?_eq_getElem hc, Option.map_some, if_pos hj, getElem!_pos _ _ (by rw [size_flatK]; exact hj), Array.getElem?_eq_getElem (by rw [size_flatK]; exact hj)]
    · rw [if_neg hj, List.getElem?_eq_none (by simp; omega)]
set_option maxRecDepth 100000 in
/-- slices.SortFunc over a list of digests of one's own -/
theorem sort_digs {w : World} {base : Nat} {v : Value} {l : List (List UInt8)} (h : w.ownsRow base 39 32 v l.length (digC l).flatten) (hok : Dok l) (hbig : l.length < 4611686018427387904) :
    Calls Tryz.prog 33 #[v, .func (.func 32) #[] #[]] w fun e w' => e = .returned (.tuple #[]) ∧
      w'.ownsRow base 39 32 v l.length (digC (sortD l)).flatten ∧ w.grownBy w' v.ownBlock := by
  rcases h.2 with ⟨rfl, hl⟩ | ⟨g, cap, cur, rfl, hb, hg, hn, hc, hs, ht⟩
  · refine (AnyF.slices_SortFunc_none { Tryz.l_sort with } none 0 _ w).mono ?_ |> (by rw [hl]; exact ·)
    rintro e w' ⟨rfl, rfl⟩
    have : l = [] := List.eq_nil_of_length_eq_zero hl
    subst this
    exact ⟨rfl, by simpa [sortD] using h, ⟨rfl, rfl, rfl, Nat.le_refl _, fun _ _ _ => rfl⟩⟩
  · have hlt : g < w.heap.size := (Array.getElem?_eq_some_iff.1 hg).1
    have hH : HoldsK DgS.enc 32 w g 0 (digS l hok).toArray := by
      intro j hj
      rw [size_flatK] at hj
      have hj' : j < l.length * 32 := by simpa [digS_len] using hj
      have hB : Bx w g cur 39 := hg
      rw [Nat.zero_add, hB.cell, hB.free]
      refine ⟨?_, rfl⟩
      have e1 : cur.toList[j]? = (digC l).flatten[j]? := by rw [← ht, List.getElem?_take, if_pos hj']
      have e2 := flatK_digC (digS l hok).toArray
      rw [List.toList_toArray, digS_val] at e2
      rw [← Array.getElem?_toList, e1, ← e2, Array.getElem?_toList, id, Array.getElem?_eq_getElem (by rw [size_flatK]; exact hj), getElem!_pos _ _ (by rw [size_flatK]; exact hj)]
    have hlen : (digS l hok).toArray.size = l.length := by simp [digS_len]
    have hS := AnyQ.slices_SortFunc_total Tryz.l_sort 32 isAggDg sizeOfDg DgS.enc (fun x => by rw [DgS.enc, bytesV_len]; exact x.2) (fun x v hv => bytesV_one _ v hv) cmpS swoS 32 #[] g 0 cap (digS l hok).toArray w
      (by intro args W; rfl) (fun m os dk _ x y => sha_compareW x.1 y.1 x.2 y.2 _) hH hlt (by rw [hlen]; exact hbig) totS
    rw [hlen] at hS
    refine Calls.mono hS ?_
    rintro e w' ⟨rfl, n, os, rfl⟩
    obtain ⟨cur', b1, b2, b3⟩ := sortWorldK_row ((digS l hok).toArray.toList.mergeSort fun x y => !(ltOf cmpS) y x).toArray w g n os hg
    have hsz : ((digS l hok).toArray.toList.mergeSort fun x y => !(ltOf cmpS) y x).toArray.size = l.length := by simp [digS_len]
    rw [hsz, flatK_digC] at b3
    have b4 := b3 (by rw [hs]; omega)
    simp only at b4
    rw [digS_sort] at b4
    have hfl : (digC (sortD l)).flatten.length = l.length * 32 := by rw [flat_len (digC_len (sortD_ok hok)), digC_size, sortD_len]
    refine ⟨rfl, ⟨hfl, .inr ⟨g, cap, cur', rfl, hb, b1, hn, hc, by rw [b2]; exact hs, b4⟩⟩, ⟨rfl, rfl, rfl, ?_, fun k hk hne => sortWorldK_block _ w g 0 n os k hk (fun e => hne (by rw [e]; rfl))⟩⟩
    unfold sortWorldK
    rw [size_grow, size_putRowK]
    exact Nat.le_add_right _ _
end Go.Proofs.YtebgopdmeghmhaaGreat
