/- quiltref47.Sorted: a digest put into a sorted list. Sorted digests: the sorted list is told by its members; putting a digest in keeps it sorted. -/
import Derived.Test.YtebgopdmeghmhaaGreatLAw
import Derived.Test.YtebgopdmeghmhaaGreatIbSort
namespace Go.Proofs.YtebgopdmeghmhaaGreat
open Go.RowKit

def leD (d x : List UInt8) : Bool := decide (cmpD x d ≤ 0)
def insD (l : List (List UInt8)) (d : List UInt8) : List (List UInt8) := l.takeWhile (leD d) ++ d :: l.dropWhile (leD d)
theorem insD_at {l : List (List UInt8)} {d : List UInt8} {k : Nat} (hk : k ≤ l.length) (hle : ∀ j (h : j < l.length), j < k → leD d l[j] = true) (hgt : ∀ h : k < l.length, leD d l[k] = false) : insD l d = l.take k ++ d :: l.drop k := by
  have h1 : l.takeWhile (leD d) = l.take k ∧ l.dropWhile (leD d) = l.drop k := by
    have e : l = l.take k ++ l.drop k := (List.take_append_drop k l).symm
    have hall : ∀ x ∈ l.take k, leD d x = true := by
      intro x hx
      obtain ⟨i, hi, rfl⟩ := List.mem_iff_getElem.1 hx
      rw [List.getElem_take]
      simp only [List.length_take] at hi
      exact hle i (by omega) (by omega)
    have hd : (l.drop k).takeWhile (leD d) = [] ∧ (l.drop k).dropWhile (leD d) = l.drop k := by
      rcases Nat.lt_or_ge k l.length with h | h
      · rw [List.drop_eq_getElem_cons h, List.takeWhile_cons, List.dropWhile_cons, hgt h]
        exact ⟨rfl, rfl⟩
      · rw [List.drop_eq_nil_of_le h]; exact ⟨rfl, rfl⟩
    constructor
    · conv => lhs; rw [e]
      rw [List.takeWhile_append_of_pos hall, hd.1, List.append_nil]
    · conv => lhs; rw [e]
      rw [List.dropWhile_append_of_pos hall, hd.2]
  unfold insD
  rw [h1.1, h1.2]
theorem insD_len (l : List (List UInt8)) (d : List UInt8) : (insD l d).length = l.length + 1 := by
  unfold insD
  rw [List.length_append, List.length_cons]
  have := congrArg List.length (List.takeWhile_append_dropWhile (p := leD d) (l := l))
  rw [List.length_append] at this
  omega
theorem insD_ok {l : List (List UInt8)} (h : Dok l) {d : List UInt8} (hd : d.length = 32) : Dok (insD l d) := by
  intro x hx
  rcases List.mem_append.1 hx with h1 | h1
  · exact h x ((List.takeWhile_subset _) h1)
  · rcases List.mem_cons.1 h1 with rfl | h1
    · exact hd
    · exact h x ((List.dropWhile_subset _) h1)
/-- an append to an empty slice -/
theorem run_append_empty {P : Program} (w : World) (t ty e : TypeId) (i : TypeInfo) (z : Value) (ht : P.underlying t = some (.slice e)) (hi : P.info? e = some i) (hz : i.zero = some z) (hzs : z.cells.size = i.size)
    (g : Nat) {base : Nat} (hb : base ≤ g) (hgl : g < w.heap.size) (hg : w.heap[g]? = some (.cells #[] e (0, 0))) (a : Addr) (m c : Nat) (news : List Value) (hl : news.length = m * i.size) (hnews : ∀ j u, news[j]? = some u → w.cell? (a.add j) = some u)
    (h63 : m ≤ maxLen) (hbytes : m * i.bytes ≤ 140737488355328) :
    ∃ v' w', (Builtin.append_ #[t, t] ty #[.slice (some ⟨g, 0, none⟩) 0 0, .slice (some a) m c]).run P w = .ok v' w' ∧ w'.ownsRow base e i.size v' m news ∧ Below w.heap.size w w' := by
  rcases Nat.eq_zero_or_pos m with rfl | hm
  · have hn : news = [] := List.eq_nil_of_length_eq_zero (by simpa using hl)
    subst hn
    have hr := run_append_room (P := P) w t ty e i ht hi g 0 0 #[] hg a 0 c [] (by simp) (by simp) (by simp) (Nat.le_refl _) (by simp)
    have e0 : ((#[] : Array Value).toList.take (0 * i.size) ++ [] ++ (#[] : Array Value).toList.drop (0 * i.size + ([] : List Value).length)).toArray = #[] := by simp
    rw [Nat.add_zero, e0] at hr
    refine ⟨_, _, hr, ?_, ?_⟩
    · refine ⟨by simp, .inr ⟨g, 0, #[], rfl, hb, ?_, Nat.le_refl _, Nat.zero_le _, by simp, by simp⟩⟩
      exact setRow_heap w g #[] _ e _ hg
    · refine ⟨rfl, rfl, rfl, by simp, fun k hk => ?_⟩
      rcases Nat.decEq k g with h | h
      · exact setRow_other w g k _ h
      · subst h
        rw [hg]
        exact setRow_heap w k #[] _ e _ hg
  · have hsmall : m ≤ 9223372036854775807 := by simp only [maxLen] at h63; omega
    have hr := run_append_grow (P := P) w t ty e i z ht hi hz ⟨g, 0, none⟩ 0 0 [] (by simp) (by simp) a m c news hl hnews (by omega) (by omega) (growslice_fits (by omega) (by rw [Nat.zero_add]; exact hbytes))
    simp only [Nat.zero_add] at hr
    have hge := grownCap_ge w m 0 e
    have hcm : grownCap w m 0 e ≤ maxLen := grownCap_le_maxLen w m 0 e h63
    refine ⟨_, _, hr, ⟨hl, .inr ⟨w.heap.size, _, _, rfl, by omega, heap_alloc_new w.drew _, hge, hcm, ?_, ?_⟩⟩, ⟨rfl, rfl, rfl, by simp, fun k hk => Below.heap_alloc w.drew _ k hk⟩⟩
    · simp only [Array.size_append, List.size_toArray, size_zeroCells, hzs, hl, List.length_nil, Nat.zero_add, ← Nat.add_mul]
      congr 1
      omega
    · simp only [Array.toList_append, List.nil_append]
      rw [← hl]
      exact List.take_left
theorem lz_app {P : Program} {o : Oper} {a : Act} {W : World} (s x : Operand) (t : TypeId) (hop : o.op = .call { callee := .builtin .append, args := #[s, x], argTypes := #[t, t] }) {vs vx : Value} (hs : a.eval s = vs) (hx : a.eval x = vx) {v' : Value} {w' : World} (hr : (Builtin.append_ #[t, t] o.type #[vs, vx]).run P W = .ok v' w')
    {Post : Value → World → Prop} (h : Post v' w') : lzAt P o a W Post := by
  unfold lzAt execOp
  simp only [hop, resolve, invoke, builtin, Sem.run_bind, Sem.run_pure, Result.andThen_ok, List.map_toArray, List.map_cons, List.map_nil, hs, hx, hr]
  exact h
theorem ownsRow_lower {w : World} {base base' : Nat} {e : TypeId} {size : Nat} {v : Value} {n : Nat} {xs : List Value} (h : w.ownsRow base e size v n xs) (hb : base' ≤ base) : w.ownsRow base' e size v n xs := by
  refine ⟨h.1, ?_⟩
  rcases h.2 with h1 | ⟨g, cap, cur, e1, hg, r⟩
  · exact .inl h1
  · exact .inr ⟨g, cap, cur, e1, Nat.le_trans hb hg, r⟩
theorem RowAt.lt {S : Nat → Prop} {w : World} {o : Option Addr} {l : List Value} (h : RowAt S w o l) : RowAt (· < w.heap.size) w o l := by
  intro i hi
  obtain ⟨b, off, ho, hc, _⟩ := h i hi
  exact ⟨b, off, ho, hc, World.block_lt_of_cell? w _ hc⟩
theorem cmp_le_bool (a d : List UInt8) : leD d a = decide (cmpD a d ≤ 0) := rfl
set_option maxRecDepth 100000 in
set_option maxHeartbeats 2000000 in
theorem ref47_Sorted {S : Nat → Prop} (w : World) (g cap : Nat) (l : List (List UInt8)) (d : List UInt8) (h : DigR S w (.slice (some ⟨g, 0, none⟩) l.length cap) l) (hd : d.length = 32) (hm : l.length ≤ 1000000) (hcap : l.length ≤ cap) :
    Calls Tryz.prog 42 #[.slice (some ⟨g, 0, none⟩) l.length cap, dgV d] w fun e w' => ∃ g' cap', e = .returned (.slice (some ⟨g', 0, none⟩) (insD l d).length cap') ∧
      w'.ownsRow w.heap.size 39 32 (.slice (some ⟨g', 0, none⟩) (insD l d).length cap') (insD l d).length (digC (insD l d)).flatten ∧ Below w.heap.size w w' := by
  obtain ⟨cd, hcd⟩ : ∃ c, (bytesV d).toArray = c := ⟨_, rfl⟩
  have hdg : dgV d = .agg cd := by unfold dgV; rw [hcd]
  have hcl : cd.size = 32 := by rw [← hcd]; simp [bytesV, hd]
  rw [hdg]
  obtain ⟨idg, hidg, hzd, hsd, hbyd⟩ := info_parts infoDg
  have Hidg : Hid (Tryz.prog.info? 39 = some idg ∧ idg.zero = some (.agg (List.replicate 32 (Value.int .u8 0)).toArray) ∧ idg.size = 32 ∧ idg.bytes = 32) := Lib.hid ⟨hidg, by rw [hzd]; rfl, hsd, hbyd⟩
  have xd0 := Bx.new w cd 39
  have hB0 := Below.one w (.cells cd 39)
  have HD := Lib.hid h
  have Hdg := Lib.hid hdg
  have Hcl := Lib.hid hcl
  clear hdg hcd hcl h hidg hzd hsd hbyd
  go_enter Tryz.func42, Tryz.ntmps42
  go_wp2
  go_loopw [5] (fun i wr => ∃ k : Nat, k ≤ l.length ∧ i = .int .i64 k ∧ (∀ j (h : j < l.length), j < k → leD d l[j] = true) ∧ Bx wr w.heap.size cd 39 ∧ Below w.heap.size w wr) (fun i _ => l.length - (intOf i).toNat)
  case atStart => exact ⟨0, by omega, rfl, (fun j _ h => by omega), xd0, hB0⟩
  case round =>
    clear xd0 hB0
    obtain ⟨k, hk, rfl, hle, xd, hB⟩ := hrel
    have cQ := Lat.cells wr
    have lD := xd.lt
    have Xd := Lib.hid xd
    by_cases hlt : k < l.length
    · have hlt' : (k : Int) < (l.length : Int) := by omega
      obtain ⟨b', off', c', e', _, _, _, hb, hra⟩ := HD.out.at hlt
      obtain ⟨⟨rfl, rfl⟩, rfl⟩ : (g = b' ∧ 0 = off') ∧ cap = c' := by simpa using e'
      have hlk : l[k].length = 32 := HD.out.2 _ (List.getElem_mem hlt)
      have hcmp := fun W => ref02_compare l[k] d hlk hd W
      rw [Hdg.out] at hcmp
      have Hcmp := Lib.hid hcmp
      have Hbl : Hid ((bytesV l[k]).length = 32) := Lib.hid (by rw [bytesV_len, hlk])
      have Hra : Hid (wr.rangeAt g (k * 32) (bytesV l[k])) := Lib.hid (by have := rangeAt_below hra hB hb; rwa [Nat.zero_add] at this)
      have lG : g < wr.heap.size := Nat.lt_of_lt_of_le hb hB.size
      have Hle := Lib.hid hle
      clear hra hcmp hlk e' hle xd
      cases hq : decide (cmpD l[k] d ≤ 0)
      · have hgt : ∀ h : k < l.length, leD d l[k] = false := fun _ => hq
        generalize l[k] = x at *
        go_wp2_with fail
        refine wp_region_lat (by kernel_rfl) (by kernel_rfl) ?_
        repeat (first | go_big_quiet_skip | (go_big_quiet_want; first | ((first | (refine quiet_load_row 39 (.tmp 14) rfl g (k * 32) rfl (bytesV x) _ (lat_range Hra.out lG) Tryz.underlying39 rfl (by rw [sizeDg, Hbl.out]) ?_) | (refine quiet_load_row 39 (.tmp 3) rfl w.heap.size 0 rfl cd.toList _ (lat_range Xd.out.range lD) Tryz.underlying39 rfl (by rw [sizeDg]; simp [Hcl.out]) ?_)); simp only [Act.put, List.setIfInBounds_toArray, List.set_cons_zero, List.set_cons_succ]; go_big_quiet_on) | (go_big_quiet_op; first | go_big_quiet_on | go_big_quiet_call ((exact Calls.lat (Hcmp.out _))))))
        refine wpQuiet_nil ?_
        rintro W4 ⟨⟨_, hb4⟩, rfl⟩
        have hB := Below.then hB hb4 hB.size
        have Xd := Lib.hid (Xd.out.belowAll hb4)
        clear cQ hb4 lD
        have Hins := Lib.hid (insD_at hk Hle.out hgt)
        clear hgt
        have hrow := HD.out.1
        obtain ⟨o1, c1, e1, _, hrr⟩ := hrow
        obtain ⟨rfl, rfl⟩ : some (⟨g, 0, none⟩ : Addr) = o1 ∧ cap = c1 := by rw [digC_size] at e1; simpa using e1
        have hrr4 := Lib.hid (hrr.below hB)
        have Hrr := Lib.hid hrr
        have hkc : (k : Int) ≤ (cap : Int) := by omega
        clear e1 hrr
        have cQ := Lat.cells W4
        have lD4 := Xd.out.lt
        go_wp2_with fail
        refine wp_region_lz 7 2 #[true, true, true, true, true, true, true, false, false] (fun i => if i = 0 then some ⟨fun r => .slice (some ⟨r.lo, 0, none⟩) 0 0, fun r W => W4.heap.size ≤ r.lo ∧ Bx W r.lo #[] 39⟩ else if i = 4 then some ⟨fun r => r.x 0, fun r W => W.ownsRow W4.heap.size 39 32 (r.x 0) k (digC (l.take k)).flatten⟩ else if i = 6 then some (annD d) else none) (by kernel_rfl) (by rfl) (by rfl) (by kernel_rfl) ?_
        simp only [List.take_succ_cons, List.take_zero]
        refine LW.lzy _ (by rfl) (by rfl) ?_ ?_
        · intro y _
          unfold lzAt
          go_simp
          exact ⟨Below.one _ _, fun _ => undef, rfl, fun w'' hb => ⟨y.h.size, (Bx.new _ _ _).belowAll hb⟩⟩
        intro r0
        simp only [Act.put, List.setIfInBounds_toArray, List.set_cons_zero, List.set_cons_succ]
        refine LW.block 3 4 (by rfl) (by kernel_rfl) (by kernel_rfl) ?_
        simp only [List.take_succ_cons, List.take_zero, List.drop_succ_cons, List.drop_zero]
        repeat (first | go_big_quiet_skip | (go_big_quiet_want; go_big_quiet_op; go_big_quiet_on))
        refine wpQuiet_nil ?_
        refine LW.lzy _ (by rfl) (by rfl) ?_ ?_
        · intro y hF
          have hb0 : W4.heap.size ≤ r0.lo ∧ Bx y.w r0.lo #[] 39 := (hF 0 (by kernel_rfl)).get rfl rfl
          have hokk : Dok (l.take k) := fun x hx => HD.out.2 x (List.mem_of_mem_take hx)
          have hfl : (digC (l.take k)).flatten.length = k * 32 := by rw [flat_len (digC_len hokk), digC_size, List.length_take, Nat.min_eq_left hk]
          obtain ⟨v', w', hr, ho, hb⟩ := run_append_empty (P := Tryz.prog) y.w 22 22 39 idg _ Tryz.underlying22 Hidg.out.1 Hidg.out.2.1 (by rw [Hidg.out.2.2.1]; simp [Value.cells]) r0.lo hb0.1 hb0.2.lt hb0.2 ⟨g, 0, none⟩ k cap (digC (l.take k)).flatten (by rw [Hidg.out.2.2.1]; exact hfl) (by
            intro j u hu
            refine (hrr4.out.below y.h).src ⟨g, 0, none⟩ rfl j u ?_
            have e : (digC l).flatten = (digC (l.take k)).flatten ++ (digC (l.drop k)).flatten := by rw [← List.flatten_append]; unfold digC; rw [← List.map_append, List.take_append_drop]
            rw [e, List.getElem?_append_left (List.getElem?_eq_some_iff.1 hu).1]
            exact hu) (by unfold maxLen; omega) (by rw [Hidg.out.2.2.2]; omega)
          rw [Hidg.out.2.2.1] at ho
          exact lz_app (.tmp 22) (.tmp 25) 22 rfl rfl rfl hr ⟨hb, fun _ => v', rfl, fun w'' hb2 => ownsRow_belowAll ho hb2⟩
        intro r4
        simp only [Act.put, List.setIfInBounds_toArray, List.set_cons_zero, List.set_cons_succ]
        refine LW.block 1 6 (by rfl) (by kernel_rfl) (by kernel_rfl) ?_
        simp only [List.take_succ_cons, List.take_zero, List.drop_succ_cons, List.drop_zero]
        repeat (first | go_big_quiet_skip | (go_big_quiet_want; first | (((refine quiet_load_row 39 (.tmp 3) rfl w.heap.size 0 rfl cd.toList _ (lat_range Xd.out.range lD4) Tryz.underlying39 rfl (by rw [sizeDg]; simp [Hcl.out]) ?_)); simp only [Act.put, List.setIfInBounds_toArray, List.set_cons_zero, List.set_cons_succ]; go_big_quiet_on) | (go_big_quiet_op; go_big_quiet_on)))
        refine wpQuiet_nil ?_
        refine LW.lzy _ (by rfl) (by rfl) ?_ ?_
        · intro y _
          exact lz_build1 22 (.tmp 27) rfl 39 idg (List.replicate 32 (Value.int .u8 0)) 32 Tryz.underlying22 Hidg.out.1 Hidg.out.2.1 Hidg.out.2.2.1 (by simp) (by decide) (bytesV d) (by rw [bytesV_len]; exact hd) (by have e : Value.agg (bytesV d).toArray = .agg cd := Hdg.out; rw [e]; rfl)
        intro r6
        simp only [Act.put, List.setIfInBounds_toArray, List.set_cons_zero, List.set_cons_succ]
        (try simp only [annD])
        refine LW.done ?_
        intro W' hG
        have hbx : Bx W' r6.lo (bytesV d).toArray 39 := hG.get 6 rfl rfl
        have ho4 : W'.ownsRow W4.heap.size 39 32 (r4.x 0) k (digC (l.take k)).flatten := hG.get 4 rfl rfl
        have hb4 := hG.below
        generalize r4.x 0 = v4 at *
        clear hG
        refine wpAny_ready (rs := [7]) (by kernel_rfl) (by simp) ?_
        refine AllReady.cons rfl (fun K hK => ?_) AllReady.nil
        refine wp_app (S := (· = r6.lo)) (.tmp 26) (.tmp 28) 22 rfl W4.heap.size 39 idg _ 32 32 Tryz.underlying22 Hidg.out.1 Hidg.out.2.1 Hidg.out.2.2.1 Hidg.out.2.2.2 (by simp [Value.cells]) (by decide) v4 k (digC (l.take k)).flatten rfl ho4 (some ⟨r6.lo, 0, none⟩) 1 1 (bytesV d) rfl (by simp) (by rw [bytesV_len, hd]) (by have := RowAt.bx hbx; simpa using this) (bytesV_one d) (by unfold maxLen; omega) (by omega) hb4.size ?_
        intro v5 w5 ho5 hg5
        refine hK _ _ ?_
        clear hK K
        refine wpAny_ready (rs := [8]) (by kernel_rfl) (by simp) ?_
        refine AllReady.cons rfl (fun K hK => ?_) AllReady.nil
        go_simp
        refine hK _ _ ?_
        clear hK K
        refine wpAny_done (by kernel_rfl) ?_ _
        have hBz := hB.size
        have hb4z := hb4.size
        have hB5 := (Below.then hB hb4 hB.size).grown hg5 (Below.then hB hb4 hB.size).size (fun b e => by have := (ho4.lt b e).1; omega)
        have hl5 := hrr4.out.below hb4
        have hl6 : RowAt (· < w.heap.size) w5 (some ⟨g, 0, none⟩) (digC l).flatten := Hrr.out.lt.same (Same.of_below hB5 fun _ h => h)
        have hfl : (digC l).flatten.length = l.length * 32 := by rw [flat_len (digC_len HD.out.2), digC_size]
        have hok1 : Dok (l.drop k) := fun x hx => HD.out.2 x (List.mem_of_mem_drop hx)
        have hfl2 : (digC (l.drop k)).flatten.length = (l.length - k) * 32 := by rw [flat_len (digC_len hok1), digC_size, List.length_drop]
        have hfl3 : (digC (l.take k)).flatten.length = k * 32 := by rw [flat_len (digC_len fun x hx => HD.out.2 x (List.mem_of_mem_take hx)), digC_size, List.length_take, Nat.min_eq_left hk]
        have hcut : (digC l).flatten = (digC (l.take k)).flatten ++ (digC (l.drop k)).flatten := by rw [← List.flatten_append]; unfold digC; rw [← List.map_append, List.take_append_drop]
        have hl7 : RowAt (· < w.heap.size) w5 (some ⟨g, k * 32, none⟩) (digC (l.drop k)).flatten := by
          have := hl6.cut (k * 32) ((l.length - k) * 32)
          rw [hcut, ← hfl3, List.drop_left, hfl3, ← hfl2, List.take_length, Nat.zero_add] at this
          exact this
        have hone : ∀ u ∈ (digC (l.drop k)).flatten, u.oneCell' = true := by
          intro u hu
          obtain ⟨x, hx, hu⟩ := List.mem_flatten.1 hu
          obtain ⟨y, _, rfl⟩ := List.mem_map.1 hx
          exact bytesV_one y u hu
        obtain ⟨o5, c5, rfl, _, _, _⟩ := ownsRow_at ho5
        have Ho5 := Lib.hid ho5
        have Hl7 := Lib.hid hl7
        have Hf2 := Lib.hid hfl2
        have hbz4 := hb4.size
        have hgz := hg5.size
        have HB5 := Lib.hid hB5
        clear ho5 hg5 cQ hl6 hl7 hfl hfl2 hfl3 hcut hB5
        have hkcap : k < cap := by omega
        go_wp2_with (refine wpList_app rfl (.tmp 30) (.tmp 33) 22 rfl W4.heap.size 39 idg _ 32 32 Tryz.underlying22 Hidg.out.1 Hidg.out.2.1 Hidg.out.2.2.1 Hidg.out.2.2.2 (by simp [Value.cells]) (by decide) _ _ _ rfl Ho5.out (some ⟨g, k * 32, none⟩) (l.length - k) (cap - k) (digC (l.drop k)).flatten rfl (by simp) Hf2.out Hl7.out hone (by unfold maxLen; omega) (by omega) (by omega) ?_; intro v6 w6 ho6 hg6)
        have ho7 : w6.ownsRow w.heap.size 39 32 v6 (l.length + 1) (digC (insD l d)).flatten := by
          have e1 : (digC (insD l d)).flatten = (digC (l.take k)).flatten ++ bytesV d ++ (digC (l.drop k)).flatten := by rw [Hins.out]; simp [digC]
          rw [e1, show l.length + 1 = k + 1 + (l.length - k) from by omega]
          exact ownsRow_lower ho6 (by omega)
        have hB6 : Below w.heap.size w w6 := HB5.out.grown hg6 HB5.out.size (fun b e => by have := (Ho5.out.lt b e).1; omega)
        obtain ⟨g', cap', rfl⟩ := ownsRow_succ ho7
        clear ho6 hg6
        go_ret
        rw [insD_len]
        exact ⟨g', cap', rfl, ho7, hB6⟩
      · have Hx : Hid (∀ j (h : j < l.length), j = k → leD d l[j] = true) := Lib.hid (fun j h e => by subst e; exact hq)
        generalize l[k] = x at *
        go_wp2_with fail
        refine wp_region_lat (by kernel_rfl) (by kernel_rfl) ?_
        repeat (first | go_big_quiet_skip | (go_big_quiet_want; first | ((first | (refine quiet_load_row 39 (.tmp 14) rfl g (k * 32) rfl (bytesV x) _ (lat_range Hra.out lG) Tryz.underlying39 rfl (by rw [sizeDg, Hbl.out]) ?_) | (refine quiet_load_row 39 (.tmp 3) rfl w.heap.size 0 rfl cd.toList _ (lat_range Xd.out.range lD) Tryz.underlying39 rfl (by rw [sizeDg]; simp [Hcl.out]) ?_)); simp only [Act.put, List.setIfInBounds_toArray, List.set_cons_zero, List.set_cons_succ]; go_big_quiet_on) | (go_big_quiet_op; first | go_big_quiet_on | go_big_quiet_call ((exact Calls.lat (Hcmp.out _))))))
        refine wpQuiet_nil ?_
        rintro W4 ⟨⟨_, hb4⟩, rfl⟩
        have hB4 := Below.then hB hb4 hB.size
        have Xd4 := Xd.out.belowAll hb4
        clear cQ
        go_wp2
        go_roundw
        case rel =>
          refine ⟨k + 1, by omega, by go_num, fun j hj hjk => ?_, Xd4, hB4⟩
          rcases Nat.lt_succ_iff_lt_or_eq.1 hjk with h1 | rfl
          · exact Hle.out j hj h1
          · exact Hx.out j hj rfl
        case measure => simp [intOf]; omega
    · have hkk : Hid (k = l.length) := by unfold Hid; omega
      have hlt' : ¬ (k : Int) < (l.length : Int) := by omega
      have hgt : ∀ h : k < l.length, leD d l[k] = false := fun h => absurd h (by omega)
      have Hle := Lib.hid hle
      clear hle xd
      go_wp2_with fail
      refine wp_region_lat (by kernel_rfl) (by kernel_rfl) ?_
      repeat (first | go_big_quiet_skip | (go_big_quiet_want; first | ((fail); simp only [Act.put, List.setIfInBounds_toArray, List.set_cons_zero, List.set_cons_succ]; go_big_quiet_on) | (go_big_quiet_op; first | go_big_quiet_on | go_big_quiet_call ((fail)))))
      refine wpQuiet_nil ?_
      rintro W4 ⟨⟨_, hb4⟩, rfl⟩
      have hB := Below.then hB hb4 hB.size
      have Xd := Lib.hid (Xd.out.belowAll hb4)
      clear cQ hb4 lD
      have Hins := Lib.hid (insD_at hk Hle.out hgt)
      clear hgt
      have hrow := HD.out.1
      obtain ⟨o1, c1, e1, _, hrr⟩ := hrow
      obtain ⟨rfl, rfl⟩ : some (⟨g, 0, none⟩ : Addr) = o1 ∧ cap = c1 := by rw [digC_size] at e1; simpa using e1
      have hrr4 := Lib.hid (hrr.below hB)
      have Hrr := Lib.hid hrr
      have hkc : (k : Int) ≤ (cap : Int) := by omega
      clear e1 hrr
      have cQ := Lat.cells W4
      have lD4 := Xd.out.lt
      go_wp2_with fail
      refine wp_region_lz 7 2 #[true, true, true, true, true, true, true, false, false] (fun i => if i = 0 then some ⟨fun r => .slice (some ⟨r.lo, 0, none⟩) 0 0, fun r W => W4.heap.size ≤ r.lo ∧ Bx W r.lo #[] 39⟩ else if i = 4 then some ⟨fun r => r.x 0, fun r W => W.ownsRow W4.heap.size 39 32 (r.x 0) k (digC (l.take k)).flatten⟩ else if i = 6 then some (annD d) else none) (by kernel_rfl) (by rfl) (by rfl) (by kernel_rfl) ?_
      simp only [List.take_succ_cons, List.take_zero]
      refine LW.lzy _ (by rfl) (by rfl) ?_ ?_
      · intro y _
        unfold lzAt
        go_simp
        exact ⟨Below.one _ _, fun _ => undef, rfl, fun w'' hb => ⟨y.h.size, (Bx.new _ _ _).belowAll hb⟩⟩
      intro r0
      simp only [Act.put, List.setIfInBounds_toArray, List.set_cons_zero, List.set_cons_succ]
      refine LW.block 3 4 (by rfl) (by kernel_rfl) (by kernel_rfl) ?_
      simp only [List.take_succ_cons, List.take_zero, List.drop_succ_cons, List.drop_zero]
      repeat (first | go_big_quiet_skip | (go_big_quiet_want; go_big_quiet_op; go_big_quiet_on))
      refine wpQuiet_nil ?_
      refine LW.lzy _ (by rfl) (by rfl) ?_ ?_
      · intro y hF
        have hb0 : W4.heap.size ≤ r0.lo ∧ Bx y.w r0.lo #[] 39 := (hF 0 (by kernel_rfl)).get rfl rfl
        have hokk : Dok (l.take k) := fun x hx => HD.out.2 x (List.mem_of_mem_take hx)
        have hfl : (digC (l.take k)).flatten.length = k * 32 := by rw [flat_len (digC_len hokk), digC_size, List.length_take, Nat.min_eq_left hk]
        obtain ⟨v', w', hr, ho, hb⟩ := run_append_empty (P := Tryz.prog) y.w 22 22 39 idg _ Tryz.underlying22 Hidg.out.1 Hidg.out.2.1 (by rw [Hidg.out.2.2.1]; simp [Value.cells]) r0.lo hb0.1 hb0.2.lt hb0.2 ⟨g, 0, none⟩ k cap (digC (l.take k)).flatten (by rw [Hidg.out.2.2.1]; exact hfl) (by
          intro j u hu
          refine (hrr4.out.below y.h).src ⟨g, 0, none⟩ rfl j u ?_
          have e : (digC l).flatten = (digC (l.take k)).flatten ++ (digC (l.drop k)).flatten := by rw [← List.flatten_append]; unfold digC; rw [← List.map_append, List.take_append_drop]
          rw [e, List.getElem?_append_left (List.getElem?_eq_some_iff.1 hu).1]
          exact hu) (by unfold maxLen; omega) (by rw [Hidg.out.2.2.2]; omega)
        rw [Hidg.out.2.2.1] at ho
        exact lz_app (.tmp 22) (.tmp 25) 22 rfl rfl rfl hr ⟨hb, fun _ => v', rfl, fun w'' hb2 => ownsRow_belowAll ho hb2⟩
      intro r4
      simp only [Act.put, List.setIfInBounds_toArray, List.set_cons_zero, List.set_cons_succ]
      refine LW.block 1 6 (by rfl) (by kernel_rfl) (by kernel_rfl) ?_
      simp only [List.take_succ_cons, List.take_zero, List.drop_succ_cons, List.drop_zero]
      repeat (first | go_big_quiet_skip | (go_big_quiet_want; first | (((refine quiet_load_row 39 (.tmp 3) rfl w.heap.size 0 rfl cd.toList _ (lat_range Xd.out.range lD4) Tryz.underlying39 rfl (by rw [sizeDg]; simp [Hcl.out]) ?_)); simp only [Act.put, List.setIfInBounds_toArray, List.set_cons_zero, List.set_cons_succ]; go_big_quiet_on) | (go_big_quiet_op; go_big_quiet_on)))
      refine wpQuiet_nil ?_
      refine LW.lzy _ (by rfl) (by rfl) ?_ ?_
      · intro y _
        exact lz_build1 22 (.tmp 27) rfl 39 idg (List.replicate 32 (Value.int .u8 0)) 32 Tryz.underlying22 Hidg.out.1 Hidg.out.2.1 Hidg.out.2.2.1 (by simp) (by decide) (bytesV d) (by rw [bytesV_len]; exact hd) (by have e : Value.agg (bytesV d).toArray = .agg cd := Hdg.out; rw [e]; rfl)
      intro r6
      simp only [Act.put, List.setIfInBounds_toArray, List.set_cons_zero, List.set_cons_succ]
      (try simp only [annD])
      refine LW.done ?_
      intro W' hG
      have hbx : Bx W' r6.lo (bytesV d).toArray 39 := hG.get 6 rfl rfl
      have ho4 : W'.ownsRow W4.heap.size 39 32 (r4.x 0) k (digC (l.take k)).flatten := hG.get 4 rfl rfl
      have hb4 := hG.below
      generalize r4.x 0 = v4 at *
      clear hG
      refine wpAny_ready (rs := [7]) (by kernel_rfl) (by simp) ?_
      refine AllReady.cons rfl (fun K hK => ?_) AllReady.nil
      refine wp_app (S := (· = r6.lo)) (.tmp 26) (.tmp 28) 22 rfl W4.heap.size 39 idg _ 32 32 Tryz.underlying22 Hidg.out.1 Hidg.out.2.1 Hidg.out.2.2.1 Hidg.out.2.2.2 (by simp [Value.cells]) (by decide) v4 k (digC (l.take k)).flatten rfl ho4 (some ⟨r6.lo, 0, none⟩) 1 1 (bytesV d) rfl (by simp) (by rw [bytesV_len, hd]) (by have := RowAt.bx hbx; simpa using this) (bytesV_one d) (by unfold maxLen; omega) (by omega) hb4.size ?_
      intro v5 w5 ho5 hg5
      refine hK _ _ ?_
      clear hK K
      refine wpAny_ready (rs := [8]) (by kernel_rfl) (by simp) ?_
      refine AllReady.cons rfl (fun K hK => ?_) AllReady.nil
      go_simp
      refine hK _ _ ?_
      clear hK K
      refine wpAny_done (by kernel_rfl) ?_ _
      have hBz := hB.size
      have hb4z := hb4.size
      have hB5 := (Below.then hB hb4 hB.size).grown hg5 (Below.then hB hb4 hB.size).size (fun b e => by have := (ho4.lt b e).1; omega)
      have hl5 := hrr4.out.below hb4
      have hl6 : RowAt (· < w.heap.size) w5 (some ⟨g, 0, none⟩) (digC l).flatten := Hrr.out.lt.same (Same.of_below hB5 fun _ h => h)
      have hfl : (digC l).flatten.length = l.length * 32 := by rw [flat_len (digC_len HD.out.2), digC_size]
      have hok1 : Dok (l.drop k) := fun x hx => HD.out.2 x (List.mem_of_mem_drop hx)
      have hfl2 : (digC (l.drop k)).flatten.length = (l.length - k) * 32 := by rw [flat_len (digC_len hok1), digC_size, List.length_drop]
      have hfl3 : (digC (l.take k)).flatten.length = k * 32 := by rw [flat_len (digC_len fun x hx => HD.out.2 x (List.mem_of_mem_take hx)), digC_size, List.length_take, Nat.min_eq_left hk]
      have hcut : (digC l).flatten = (digC (l.take k)).flatten ++ (digC (l.drop k)).flatten := by rw [← List.flatten_append]; unfold digC; rw [← List.map_append, List.take_append_drop]
      have hl7 : RowAt (· < w.heap.size) w5 (some ⟨g, k * 32, none⟩) (digC (l.drop k)).flatten := by
        have := hl6.cut (k * 32) ((l.length - k) * 32)
        rw [hcut, ← hfl3, List.drop_left, hfl3, ← hfl2, List.take_length, Nat.zero_add] at this
        exact this
      have hone : ∀ u ∈ (digC (l.drop k)).flatten, u.oneCell' = true := by
        intro u hu
        obtain ⟨x, hx, hu⟩ := List.mem_flatten.1 hu
        obtain ⟨y, _, rfl⟩ := List.mem_map.1 hx
        exact bytesV_one y u hu
      obtain ⟨o5, c5, rfl, _, _, _⟩ := ownsRow_at ho5
      have Ho5 := Lib.hid ho5
      have Hl7 := Lib.hid hl7
      have Hf2 := Lib.hid hfl2
      have hbz4 := hb4.size
      have hgz := hg5.size
      have HB5 := Lib.hid hB5
      clear ho5 hg5 cQ hl6 hl7 hfl hfl2 hfl3 hcut hB5
      by_cases hkcap : k < cap
      · go_wp2_with (refine wpList_app rfl (.tmp 30) (.tmp 33) 22 rfl W4.heap.size 39 idg _ 32 32 Tryz.underlying22 Hidg.out.1 Hidg.out.2.1 Hidg.out.2.2.1 Hidg.out.2.2.2 (by simp [Value.cells]) (by decide) _ _ _ rfl Ho5.out (some ⟨g, k * 32, none⟩) (l.length - k) (cap - k) (digC (l.drop k)).flatten rfl (by simp) Hf2.out Hl7.out hone (by unfold maxLen; omega) (by omega) (by omega) ?_; intro v6 w6 ho6 hg6)
        have ho7 : w6.ownsRow w.heap.size 39 32 v6 (l.length + 1) (digC (insD l d)).flatten := by
          have e1 : (digC (insD l d)).flatten = (digC (l.take k)).flatten ++ bytesV d ++ (digC (l.drop k)).flatten := by rw [Hins.out]; simp [digC]
          rw [e1, show l.length + 1 = k + 1 + (l.length - k) from by omega]
          exact ownsRow_lower ho6 (by omega)
        have hB6 : Below w.heap.size w w6 := HB5.out.grown hg6 HB5.out.size (fun b e => by have := (Ho5.out.lt b e).1; omega)
        obtain ⟨g', cap', rfl⟩ := ownsRow_succ ho7
        clear ho6 hg6
        go_ret
        rw [insD_len]
        exact ⟨g', cap', rfl, ho7, hB6⟩
      · have hnl : ∀ o, RowAt (fun _ => False) w5 o (digC (l.drop k)).flatten := fun o => by rw [List.drop_eq_nil_of_le (by have := hkk.out; omega)]; exact RowAt.nil _ _ _
        have Hnl := Lib.hid hnl
        clear hnl
        go_wp2_with (refine wpList_app rfl (.tmp 30) (.tmp 33) 22 rfl W4.heap.size 39 idg _ 32 32 Tryz.underlying22 Hidg.out.1 Hidg.out.2.1 Hidg.out.2.2.1 Hidg.out.2.2.2 (by simp [Value.cells]) (by decide) _ _ _ rfl Ho5.out _ _ _ (digC (l.drop k)).flatten rfl (by simp) Hf2.out (Hnl.out _) hone (by unfold maxLen; omega) (by omega) (by omega) ?_; intro v6 w6 ho6 hg6)
        have ho7 : w6.ownsRow w.heap.size 39 32 v6 (l.length + 1) (digC (insD l d)).flatten := by
          have e1 : (digC (insD l d)).flatten = (digC (l.take k)).flatten ++ bytesV d ++ (digC (l.drop k)).flatten := by rw [Hins.out]; simp [digC]
          rw [e1, show l.length + 1 = k + 1 + (l.length - k) from by omega]
          exact ownsRow_lower ho6 (by omega)
        have hB6 : Below w.heap.size w w6 := HB5.out.grown hg6 HB5.out.size (fun b e => by have := (Ho5.out.lt b e).1; omega)
        obtain ⟨g', cap', rfl⟩ := ownsRow_succ ho7
        clear ho6 hg6
        go_ret
        rw [insD_len]
        exact ⟨g', cap', rfl, ho7, hB6⟩
end Go.Proofs.YtebgopdmeghmhaaGreat
namespace Go.Proofs.YtebgopdmeghmhaaGreat
open Go.RowKit

theorem leq_iff (x y : List UInt8) : (!decide (cmpD y x < 0)) = true ↔ cmpD x y ≤ 0 := by
  rw [Bool.not_eq_true', decide_eq_false_iff_not]
  have := cmpB_neg x y
  unfold cmpD at *
  omega
theorem leq_trans {a b c : List UInt8} (h1 : cmpD a b ≤ 0) (h2 : cmpD b c ≤ 0) : cmpD a c ≤ 0 := by
  unfold cmpD at *
  rcases Int.lt_or_eq_of_le h1 with h | h
  · rcases Int.lt_or_eq_of_le h2 with k | k
    · exact Int.le_of_lt (cmpB_trans a b c h k)
    · rw [← cmpB_eq k]; exact h1
  · rw [cmpB_eq h]; exact h2
theorem leq_total (a b : List UInt8) : cmpD a b ≤ 0 ∨ cmpD b a ≤ 0 := by
  have := cmpB_neg a b
  unfold cmpD
  omega
theorem leq_antisymm {a b : List UInt8} (h1 : cmpD a b ≤ 0) (h2 : cmpD b a ≤ 0) : a = b := by
  have := cmpB_neg a b
  unfold cmpD at *
  exact cmpB_eq (by omega)
def SortedD (l : List (List UInt8)) : Prop := l.Pairwise fun x y => cmpD x y ≤ 0
theorem sortD_sorted (l : List (List UInt8)) : SortedD (sortD l) := by
  have h := List.pairwise_mergeSort (le := fun x y => !decide (cmpD y x < 0)) (fun a b c h1 h2 => (leq_iff a c).2 (leq_trans ((leq_iff a b).1 h1) ((leq_iff b c).1 h2))) (fun a b => by
    rw [Bool.or_eq_true, leq_iff, leq_iff]; exact leq_total a b) l
  exact h.imp (fun h => (leq_iff _ _).1 h)
theorem sortD_perm (l : List (List UInt8)) : (sortD l).Perm l := List.mergeSort_perm l _
theorem sorted_uniq {l m : List (List UInt8)} (hl : SortedD l) (hm : SortedD m) (h : l.Perm m) : l = m :=
  List.Perm.eq_of_pairwise (fun _a _b _ _ h1 h2 => leq_antisymm h1 h2) hl hm h
theorem sortD_eq {l m : List (List UInt8)} (h : l.Perm m) : sortD l = sortD m :=
  sorted_uniq (sortD_sorted l) (sortD_sorted m) (((sortD_perm l).trans h).trans (sortD_perm m).symm)
theorem insD_perm (l : List (List UInt8)) (d : List UInt8) : (insD l d).Perm (l ++ [d]) := by
  unfold insD
  refine List.perm_middle.trans ?_
  rw [List.takeWhile_append_dropWhile]
  exact List.perm_append_comm (l₁ := [d])
theorem dropW_gt {l : List (List UInt8)} (h : SortedD l) (d : List UInt8) : ∀ x ∈ l.dropWhile (leD d), cmpD d x ≤ 0 := by
  induction l with
  | nil => intro x hx; cases hx
  | cons a l ih =>
    rw [List.dropWhile_cons]
    have hp := List.pairwise_cons.1 h
    split
    · exact ih hp.2
    · rename_i hn
      have hda : cmpD d a ≤ 0 := by
        rcases leq_total d a with h1 | h1
        · exact h1
        · exact absurd (decide_eq_true h1) hn
      intro x hx
      rcases List.mem_cons.1 hx with rfl | hx
      · exact hda
      · exact leq_trans hda (hp.1 x hx)
theorem insD_sorted {l : List (List UInt8)} (h : SortedD l) (d : List UInt8) : SortedD (insD l d) := by
  unfold insD SortedD
  have hl := h
  unfold SortedD at hl
  rw [← List.takeWhile_append_dropWhile (p := leD d) (l := l), List.pairwise_append] at hl
  have htk : ∀ x ∈ l.takeWhile (leD d), cmpD x d ≤ 0 := fun x hx => of_decide_eq_true (List.all_eq_true.1 (List.all_takeWhile (p := leD d) (l := l)) x hx)
  rw [List.pairwise_append]
  refine ⟨hl.1, List.pairwise_cons.2 ⟨dropW_gt h d, hl.2.1⟩, fun x hx y hy => ?_⟩
  rcases List.mem_cons.1 hy with rfl | hy
  · exact htk x hx
  · exact hl.2.2 x hx y hy
theorem insD_sort (l : List (List UInt8)) (d : List UInt8) : insD (sortD l) d = sortD (l ++ [d]) :=
  sorted_uniq (insD_sorted (sortD_sorted l) d) (sortD_sorted _) ((insD_perm _ d).trans (((sortD_perm l).append_right [d]).trans (sortD_perm _).symm))
end Go.Proofs.YtebgopdmeghmhaaGreat
