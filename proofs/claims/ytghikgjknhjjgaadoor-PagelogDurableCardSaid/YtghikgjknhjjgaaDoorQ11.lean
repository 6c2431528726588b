/- pagelog.pages: the operations that write bytes into the area. pagelog.finish = finL. slices.Grow, Concat, Clone, ContainsFunc of records. pagelog.Cut = cutL. -/
import Derived.Test.YtghikgjknhjjgaaDoorQ10
import Derived.Test.YtghikgjknhjjgaaDoorQ06
import Derived.Test.YtghikgjknhjjgaaDoorQ07
import Derived.Lib.AppendZeros
namespace Go.Proofs.YtghikgjknhjjgaaDoor
set_option maxRecDepth 100000
open Go.RowKit Go.Shelf
/-- values that are operations, one by one -/
def OpL (w : World) (vs : List Value) (ops : List DOp) : Prop := vs.length = ops.length ∧ ∀ j (h : j < ops.length) (h' : j < vs.length), OpV w vs[j] ops[j]
theorem OpL.nil (w : World) : OpL w [] [] := ⟨rfl, fun j h => absurd h (by simp)⟩
theorem OpL.below {w w' : World} {vs : List Value} {ops : List DOp} (h : OpL w vs ops) (hb : Below w.heap.size w w') : OpL w' vs ops := ⟨h.1, fun j h1 h2 => (h.2 j h1 h2).below hb⟩
theorem OpL.app {w : World} {vs us : List Value} {ops ops' : List DOp} (h : OpL w vs ops) (k : OpL w us ops') : OpL w (vs ++ us) (ops ++ ops') := by
 refine ⟨by simp [h.1, k.1], fun j h1 h2 => ?_⟩
 by_cases hj : j < ops.length
 ·
  rw [List.getElem_append_left (by rw [h.1]; exact hj), List.getElem_append_left hj]
  exact h.2 j hj _
 ·
  rw [List.getElem_append_right (by rw [h.1]; omega), List.getElem_append_right (by omega)]
  simp only [h.1]
  exact k.2 _ (by simp at h1; omega) _
theorem OpV.kept {w w' : World} {v : Value} {o : DOp} (h : OpV w v o) (hk : ∀ (b : Nat) (cs : Array Value) (t : TypeId), (t = 3 ∨ t = 9) → Bx w b cs t → Bx w' b cs t) : OpV w' v o := by
 cases o with
 | wr i data =>
  obtain ⟨bi, bd, e, h1, h2, h3⟩ := h
  exact ⟨bi, bd, e, hk _ _ _ (.inl rfl) h1, hk _ _ _ (.inr rfl) h2, h3⟩
 | fl => exact h
theorem OpL.kept {w w' : World} {vs : List Value} {ops : List DOp} (h : OpL w vs ops) (hk : ∀ (b : Nat) (cs : Array Value) (t : TypeId), (t = 3 ∨ t = 9) → Bx w b cs t → Bx w' b cs t) : OpL w' vs ops := ⟨h.1, fun j h1 h2 => (h.2 j h1 h2).kept hk⟩
/-- over an append to a row of operations -/
theorem OpL.grown {w w' : World} {vs : List Value} {ops : List DOp} {base n : Nat} {v : Value} {xs : List Value} (h : OpL w vs ops) (ho : w.ownsRow base 99 1 v n xs) (hg : w.grownBy w' v.ownBlock) : OpL w' vs ops :=
 h.kept fun b cs t ht hx => hx.grown hg (fun e => by
  have := ownsRow_ne_bx ho hx (by rcases ht with rfl | rfl <;> decide)
  exact this e.symm)
theorem OpsAt.row {w : World} {o : Option Addr} {ops : List DOp} (h : OpsAt w o ops) : ∃ vs, RowAt (· < w.heap.size) w o vs ∧ OpL w vs ops := by
 by_cases hn : ops = []
 ·
  subst hn
  exact ⟨[], RowAt.nil _ _ _, OpL.nil w⟩
 ·
  have hp : 0 < ops.length := List.length_pos_iff.2 hn
  obtain ⟨b, off, u, rfl, _, _⟩ := h 0 hp
  have hall : ∀ j (hj : j < ops.length), w.cell? ⟨b, off + j, none⟩ = some ((w.cell? ⟨b, off + j, none⟩).getD undef) ∧ OpV w ((w.cell? ⟨b, off + j, none⟩).getD undef) ops[j] := by
   intro j hj
   obtain ⟨b', off', u, e, hc, hu⟩ := h j hj
   obtain ⟨rfl, rfl⟩ : b = b' ∧ off = off' := by simpa using e
   rw [hc]
   exact ⟨rfl, hu⟩
  refine ⟨(List.range ops.length).map fun j => (w.cell? ⟨b, off + j, none⟩).getD undef, ?_, by simp, ?_⟩
  ·
   intro j hj
   have hj' : j < ops.length := by simpa using hj
   refine ⟨b, off, rfl, ?_, World.block_lt_of_cell? w _ (hall j hj').1⟩
   rw [(hall j hj').1]
   simp
  ·
   intro j h1 h2
   simpa using (hall j h1).2
theorem OpsAt.of {w : World} {o : Option Addr} {S : Nat → Prop} {vs : List Value} {ops : List DOp} (hr : RowAt S w o vs) (hl : OpL w vs ops) : OpsAt w o ops := by
 intro j hj
 obtain ⟨b, off, e, hc, _⟩ := hr j (by rw [hl.1]; exact hj)
 exact ⟨b, off, _, e, hc, hl.2 j hj _⟩
/-- a row of the call's own that holds operations -/
def OpsOwn (w : World) (base : Nat) (v : Value) (ops : List DOp) : Prop := ∃ vs, w.ownsRow base 99 1 v ops.length vs ∧ OpL w vs ops
theorem OpsOwn.below {w w' : World} {base : Nat} {v : Value} {ops : List DOp} (h : OpsOwn w base v ops) (hb : Below w.heap.size w w') : OpsOwn w' base v ops := by
 obtain ⟨vs, h1, h2⟩ := h
 exact ⟨vs, ownsRow_belowAll h1 hb, h2.below hb⟩
theorem infoOp : (Tryd.prog.info? 99).map (fun i => (i.zero, i.size, i.bytes)) = some (some .nilFunc, 1, 8) := by kernel_rfl
theorem wrsP_cons (l : Lg) (f a : Nat) (s : List UInt8) (h : s ≠ []) : wrsP l (f + 1) a s =
  .wr (l.frm + 2 + (a / l.disk.size.toNat : Nat)) (bs ((pageL l.disk (l.frm + 2 + (a / l.disk.size.toNat : Nat))).take (a % l.disk.size.toNat) ++ s.take (l.disk.size.toNat - a % l.disk.size.toNat)
   ++ (pageL l.disk (l.frm + 2 + (a / l.disk.size.toNat : Nat))).drop (a % l.disk.size.toNat + min s.length (l.disk.size.toNat - a % l.disk.size.toNat))))
  :: wrsP l f (a + min s.length (l.disk.size.toNat - a % l.disk.size.toNat)) (s.drop (l.disk.size.toNat - a % l.disk.size.toNat)) := by
 cases s with
 | nil => exact absurd rfl h
 | cons c r => rw [wrsP]
theorem page_cut {P : List UInt8} {T B : ByteArray} {z k m : Nat} (hP : P.length = z) (hk : k < z) (hm : min T.size (z - k) = m) (hB : bs P = B) :
  ∃ D, bs (P.take k ++ T.data.toList.take (z - k) ++ P.drop (k + min T.data.toList.length (z - k))) = D ∧ D.size = z ∧ B.extract 0 k ++ T.extract 0 m ++ B.extract (k + m) z = D ∧ (T.extract m T.size).data.toList = T.data.toList.drop (z - k) := by
 have hlT : T.data.toList.length = T.size := len_size T
 obtain ⟨L, hL⟩ : ∃ L, P.take k ++ T.data.toList.take (z - k) ++ P.drop (k + min T.data.toList.length (z - k)) = L := ⟨_, rfl⟩
 have hLl : L.length = z := by
  rw [← hL]
  simp only [List.length_append, List.length_take, List.length_drop]
  omega
 have htk : T.data.toList.take (z - k) = T.data.toList.take m := by
  by_cases h : T.size ≤ z - k
  ·
   rw [List.take_of_length_le (by omega), List.take_of_length_le (by omega)]
  ·
   rw [show m = z - k by omega]
 refine ⟨bs L, by rw [hL], by rw [bs_size]; exact hLl, ?_, ?_⟩
 ·
  have hT : T.extract 0 m = bs (T.data.toList.take m) := by
   apply ByteArray.ext
   apply Array.ext'
   simp
  rw [hT, ← hL, ← hB, bs_cut, bs_cut, hlT, hm, htk, bs_app, bs_app, List.take_of_length_le (l := P.drop (k + m)) (by rw [List.length_drop]; omega)]
  rfl
 ·
  rw [cut_list, List.take_of_length_le (by rw [List.length_drop]; omega)]
  by_cases h : T.size ≤ z - k
  ·
   rw [List.drop_of_length_le (by omega), List.drop_of_length_le (by omega)]
  ·
   rw [show m = z - k by omega]
def szV : Value → Nat
 | .string s => s.size
 | _ => 0
set_option maxRecDepth 100000 in
set_option maxHeartbeats 1000000 in
theorem pl_pages (l : Lg) (v : Value) (a0 : Nat) (s0 : ByteArray) (w : World) (hL : LgV w v l) (hf : fitE l.disk l.frm l.til = 0) (hb : (a0 : Int) + s0.size ≤ areaN l.disk l.frm l.til) :
  Calls Tryd.prog 40 #[v, .int .i64 a0, .string s0] w fun e w' => ∃ v', e = .returned v' ∧ OpsOwn w' w.heap.size v' (wrsL l a0 s0.data.toList) ∧ Below w.heap.size w w' := by
 have hab := area_bd hf
 have hfz := fitE_zero hf
 obtain ⟨tot, htot⟩ : ∃ tot, wrsL l a0 s0.data.toList = tot := ⟨_, rfl⟩
 rw [htot]
 have htot0 : [] ++ wrsP l s0.data.toList.length a0 s0.data.toList = tot := htot
 clear htot
 obtain ⟨⟨size, pages, cache, left⟩, frm, til, ver, recs⟩ := l
 simp only at hab hfz hb hf
 obtain ⟨z, rfl⟩ : ∃ z : Nat, size = z := ⟨size.toNat, by omega⟩
 obtain ⟨po, pc, co, cc, ro, rc, rfl, hD, hsl, hst⟩ := hL
 obtain ⟨N, hN⟩ : ∃ N, w.heap.size = N := ⟨_, rfl⟩
 obtain ⟨io, hio, hz0, hs0, hby0⟩ := info_parts infoOp
 have Hio : Hid (Tryd.prog.info? 99 = some io ∧ io.zero = some .nilFunc ∧ io.size = 1 ∧ io.bytes = 8) := Lib.hid ⟨hio, hz0, hs0, hby0⟩
 have HD := Lib.hid hD
 have Hfz := Lib.hid hfz
 clear hst hsl hD hio hz0 hs0 hby0 hfz
 simp only at HD
 go_enter Tryd.func40, Tryd.ntmps40
 go_wp2
 have x0 : Bx (w.alloc (.cells (lgC ⟨z, pages, cache, left⟩ po co pc cc frm til ver ro recs.length rc) 32)) N (lgC ⟨z, pages, cache, left⟩ po co pc cc frm til ver ro recs.length rc) 32 := by subst hN; exact Bx.new w _ _
 have hB0 : Below w.heap.size w (w.alloc (.cells (lgC ⟨z, pages, cache, left⟩ po co pc cc frm til ver ro recs.length rc) 32)) := Below.one w _
 generalize (w.alloc (.cells (lgC ⟨z, pages, cache, left⟩ po co pc cc frm til ver ro recs.length rc) 32)) = W0 at *
 go_loopw [1, 2, 7] (fun ta ts tv wr => ∃ (a f : Nat) (T : ByteArray) (ops : List DOp), ta = .int .i64 a ∧ ts = .string T ∧ OpsOwn wr w.heap.size tv ops ∧ T.size ≤ f ∧ (a : Int) + T.size ≤ areaN ⟨z, pages, cache, left⟩ frm til ∧ ops.length ≤ a ∧
  ops ++ wrsP ⟨⟨z, pages, cache, left⟩, frm, til, ver, recs⟩ f a T.data.toList = tot ∧ Below w.heap.size w wr ∧ Bx wr N (lgC ⟨z, pages, cache, left⟩ po co pc cc frm til ver ro recs.length rc) 32) (fun _ ts _ _ => szV ts)
 case atStart => exact ⟨a0, s0.data.toList.length, s0, [], rfl, rfl, ⟨[], ⟨by simp, .inl ⟨rfl, rfl⟩⟩, OpL.nil _⟩, by rw [len_size]; exact Nat.le_refl _, hb, Nat.zero_le _, htot0, hB0, x0⟩
 case round =>
  clear x0 hB0 htot0 hb
  obtain ⟨a, f, T, ops, rfl, rfl, hown, hf1, hb, hol, htot, hB, xX⟩ := hrel
  by_cases hT0 : 0 < T.size
  ·
   have hne := nonempty_bytes hT0
   have hTl : T.data.toList ≠ [] := by intro e; rw [← len_size, e] at hT0; simp at hT0
   obtain ⟨f, rfl⟩ : ∃ g, f = g + 1 := ⟨f - 1, by omega⟩
   rw [wrsP_cons _ _ _ _ hTl] at htot
   simp only [Int.toNat_natCast] at htot
   obtain ⟨k, hk⟩ : ∃ k, a % z = k := ⟨_, rfl⟩
   obtain ⟨i, hi⟩ : ∃ i, a / z = i := ⟨_, rfl⟩
   have hki : (a : Int) % (z : Int) = k := by rw [← hk]; simp
   have hii : (a : Int) / (z : Int) = i := by rw [← hi]; simp
   have hz1 : 0 < z := by omega
   have cX := xX.cell
   have lX := xX.lt
   have hz0' : ¬ ((z : Int) = 0) := by omega
   go_wp2
   have hfr : 0 ≤ frm ∧ frm ≤ 2000 := by have h0 := Hfz.out; have h1 := rangedB_true (chk_zero h0.1).1; simp only at h0 h1; omega
   have hfr0 := hfr.1
   have hfr1 := hfr.2
   have hkz : k < z := by rw [← hk]; exact Nat.mod_lt _ hz1
   have hai : a = i * z + k := by rw [← hi, ← hk, Nat.mul_comm]; exact (Nat.div_add_mod a z).symm
   have hil : i ≤ 2000 := by
    have h24 : i * 24 ≤ i * z := Nat.mul_le_mul_left _ (by omega)
    have hq : i * z ≤ 2000 * z := by
     have h1 : (til - frm - 2) * (z : Int) ≤ 2000 * (z : Int) := Int.mul_le_mul_of_nonneg_right (by omega) (by omega)
     have h2 : (a : Int) + T.size ≤ (til - frm - 2) * (z : Int) := hb
     omega
    exact Nat.le_of_mul_le_mul_right hq hz1
   have hpl : (pageL ⟨z, pages, cache, left⟩ (frm + 2 + (i : Nat))).length = z := by
    have h2 : (a : Int) + T.size ≤ (til - frm - 2) * (z : Int) := hb
    have hm : (i : Int) < til - frm - 2 := by
     refine Int.lt_of_mul_lt_mul_right (a := (z : Int)) ?_ (by omega)
     omega
    have h0 := Hfz.out
    have := pageL_len (d := ⟨z, pages, cache, left⟩) h0.1 (i := frm + 2 + (i : Nat)) (by omega) (by have := h0.2.2.2.2.1; simp only at this ⊢; omega)
    simpa using this
   obtain ⟨P, hP⟩ : ∃ P, pageL ⟨z, pages, cache, left⟩ (frm + 2 + (i : Nat)) = P := ⟨_, rfl⟩
   obtain ⟨er, hrd⟩ : ∃ er, readD ⟨z, pages, cache, left⟩ (frm + 2 + (i : Nat)) = (bs P, er) := ⟨_, by rw [← hP]; unfold pageL; rw [bs_of]⟩
   rw [hi, hk, hP] at htot
   rw [hP] at hpl
   have hread := fun W (h : Below w.heap.size w W) => v_read ⟨z, pages, cache, left⟩ _ (frm + 2 + (i : Nat)) W (HD.out.below h) hrd
   have Hread := Lib.hid hread
   have Hpl := Lib.hid hpl
   have Htot := Lib.hid htot
   have Hb := Lib.hid hb
   have Hab := Lib.hid hab
   clear hread hpl htot hb hP hrd hai hab
   go_quiet (fail)
   go_wp2_with fail
   refine (Hread.out _ (Below.drewN hB _)).mono ?_
   rintro e w1 ⟨rfl, hb1⟩
   have y0 := (xX.drewN _).belowAll hb1
   have hB1 := btr (Below.drewN hB _) hb1
   have hown1 := hown.below (Below.then (Below.drewN (Below.refl _ _) _) hb1 (by simp))
   clear cX lX hown xX hb1
   have cX := y0.cell
   have lX := y0.lt
   have hsub : (z : Int) - (k : Int) = ((z - k : Nat) : Int) := by omega
   obtain ⟨B, hBP⟩ : ∃ B, bs P = B := ⟨_, rfl⟩
   have hBz : B.size = z := by rw [← hBP, bs_size]; exact Hpl.out
   rw [hBP]
   go_wp2
   obtain ⟨m, hm⟩ : ∃ m, min T.size (z - k) = m := ⟨_, rfl⟩
   have hmT : m ≤ T.size := by rw [← hm]; exact Nat.min_le_left _ _
   have hmz : k + m ≤ z := by have := Nat.min_le_right T.size (z - k); omega
   have hm1 : 1 ≤ m := by omega
   have hz512 : z ≤ 512 := by have := Hab.out; omega
   have hw64 : wrap64 ((z - k : Nat) : Int) = ((z - k : Nat) : Int) := IntWalk.wrap64_in _ (by omega)
   have hmi : min (T.size : Int) ((z - k : Nat) : Int) = m := by omega
   simp only [hki, hw64, hmi]
   obtain ⟨D, hD0, hDz, hDD, hdr⟩ := page_cut (T := T) (B := B) Hpl.out hkz hm hBP
   have Htot2 : Hid (ops ++ .wr (frm + 2 + i) D :: wrsP ⟨⟨z, pages, cache, left⟩, frm, til, ver, recs⟩ f (a + m) ((T.extract m T.size).data.toList) = tot) := by
    refine Lib.hid ?_
    rw [← Htot.out, hD0, hdr, len_size, hm]
   clear hki hw64 hmi hsub hii hk hi
   refine wp_region_lz 17 2 #[true, true, true, true, true, true, true, true, true, true, true, true, true, true, true, true, true, false, false] (fun j => if j = 15 then some (annOp (.wr (frm + 2 + i) D)) else if j = 16 then some (annOps [.wr (frm + 2 + i) D] 1) else none) (by kernel_rfl) (by rfl) (by rfl) (by kernel_rfl) ?_
   simp only [List.take_succ_cons, List.take_zero]
   have hTi : T.size ≤ 2000000 := by have := Hb.out; have := Hab.out; omega
   have hal : a ≤ 1024000 := by have := Hb.out; have := Hab.out; omega
   refine LW.block 15 15 (by rfl) (by kernel_rfl) (by kernel_rfl) ?_
   simp only [List.take_succ_cons, List.take_zero, List.drop_succ_cons, List.drop_zero]
   repeat (first | go_big_quiet_skip | (go_big_quiet_want; go_big_quiet_op; go_big_quiet_on))
   refine wpQuiet_nil ?_
   refine LW.lzy _ (by rfl) (by rfl) ?_ ?_
   ·
    intro yL _
    unfold lzAt
    go_simp
    exact lz_op (pl_write _ _ _ (by omega))
   intro r15
   simp only [Act.put, List.setIfInBounds_toArray, List.set_cons_zero, List.set_cons_succ]
   refine LW.lzy _ (by rfl) (by rfl) ?_ ?_
   ·
    intro yL hf
    have hx : OpV yL.w (r15.x 0) (.wr (frm + 2 + i) D) := (hf 15 (by decide +kernel)).get (by rfl) (by rfl)
    have hx' := hx
    obtain ⟨bi, bd, e, _, _, _⟩ := hx
    have e' : (annOp (.wr (frm + 2 + i) D)).f r15 = .func (.func 63) #[] #[.pointer (some ⟨bi, 0, none⟩), .pointer (some ⟨bd, 0, none⟩)] := e
    rw [e']
    unfold lzAt
    go_simp
    refine ⟨Below.one _ _, fun _ => undef, rfl, fun w'' hb => ?_⟩
    have hX := (Bx.new yL.w #[.func (.func 63) #[] #[.pointer (some ⟨bi, 0, none⟩), .pointer (some ⟨bd, 0, none⟩)]] 99).belowAll hb
    refine OpsAt.bx (vs := [.func (.func 63) #[] #[.pointer (some ⟨bi, 0, none⟩), .pointer (some ⟨bd, 0, none⟩)]]) hX rfl ?_
    intro j h1 h2
    rcases j with _ | j
    ·
     have := (hx'.below (Below.one _ _)).below hb
     rw [e] at this
     exact this
    ·
     exact absurd h2 (by simp)
   intro r16
   simp only [Act.put, List.setIfInBounds_toArray, List.set_cons_zero, List.set_cons_succ]
   refine LW.done ?_
   intro w2 hG
   have hR : OpsAt w2 (some ⟨r16.lo, 0, none⟩) [.wr (frm + 2 + i) D] := hG.get 16 rfl rfl
   obtain ⟨us, hus, hul⟩ := hR.row
   have hG2 := hG.below
   obtain ⟨vs, hv1, hv2⟩ := hown1.below hG2
   have y2 := y0.belowAll hG2
   have hB2 := btr hB1 hG2
   have hz2 := hB2.size
   have hul1 : us.length = 1 := hul.1
   have hone : ∀ u ∈ us, u.oneCell' = true := by
    intro u hu
    obtain ⟨j, hj, rfl⟩ := List.getElem_of_mem hu
    have h1 : j < 1 := by omega
    obtain rfl : j = 0 := by omega
    obtain ⟨bi, bd, e, _⟩ := hul.2 0 (by simp) hj
    rw [e]
    rfl
   clear hR hG cX lX hG2
   simp only [annOps, annOp]
   refine wpAny_ready (rs := [17]) (by kernel_rfl) (by simp) ?_
   refine AllReady.cons rfl (fun K hK => ?_) AllReady.nil
   refine wp_app (.tmp 44) (.tmp 60) 90 rfl w.heap.size 99 io _ 1 8 Tryd.underlying90 Hio.out.1 Hio.out.2.1 Hio.out.2.2.1 Hio.out.2.2.2 rfl (by decide) u7 ops.length vs rfl hv1 (some ⟨r16.lo, 0, none⟩) 1 1 us rfl (fun h => by cases h) (by omega) hus hone (by unfold maxLen; omega) (by omega) hz2 ?_
   intro v5 w5 ho5 hg5
   refine hK _ _ ?_
   clear hK K
   refine wpAny_ready (rs := [18]) (by kernel_rfl) (by simp) ?_
   refine AllReady.cons rfl (fun K hK => ?_) AllReady.nil
   go_simp
   refine hK _ _ ?_
   clear hK K
   refine wpAny_done (by kernel_rfl) ?_ _
   have hul5 : OpL w5 (vs ++ us) (ops ++ [.wr (frm + 2 + i) D]) := (OpL.app hv2 hul).grown hv1 hg5
   have y5 := y2.grown hg5 (fun e => ownsRow_ne_bx hv1 y2 (by decide) e.symm)
   have hB5 := hB2.grown hg5 hz2 (fun b e => (hv1.lt b e).1)
   have hown5 : OpsOwn w5 w.heap.size v5 (ops ++ [.wr (frm + 2 + i) D]) := ⟨vs ++ us, by rw [List.length_append]; exact ho5, hul5⟩
   have Hown5 := Lib.hid hown5
   have HB5 := Lib.hid hB5
   have Hy5 := Lib.hid y5
   clear ho5 hg5 hul5 y5 hB5 hown5 hv1 hv2 hul hus y2 hB2 hown1 y0 hB1 hB hz2 hDD
   have hbm : (a : Int) + (m : Int) ≤ 1024000 := by have := Hb.out; have := Hab.out; omega
   go_wp2
   go_quiet (fail)
   go_wp2
   go_roundw
   case rel =>
    refine ⟨a + m, f, T.extract m T.size, ops ++ [.wr (frm + 2 + i) D], by go_num, rfl, OpsOwn.below Hown5.out (Below.drewN (Below.refl _ _) _), ?_, ?_, ?_, ?_, Below.drewN HB5.out _, Hy5.out.drewN _⟩
    ·
     simp; omega
    ·
     have := Hb.out; simp; omega
    ·
     simp; omega
    ·
     rw [List.append_assoc]; exact Htot2.out
   case measure => simp [szV]; omega
  ·
   have hT0' : T.size = 0 := by omega
   have hem := empty_bytes hT0'
   have hTn : T.data.toList = [] := List.eq_nil_of_length_eq_zero (by rw [len_size]; exact hT0')
   rw [hTn, wrsP_nil, List.append_nil] at htot
   subst htot
   clear hTn
   have HO := Lib.hid hown
   have HB := Lib.hid hB
   clear hown hB
   go_wp2
   go_ret
   exact ⟨_, rfl, HO.out, by first | exact HB.out | (rw [← hN]; exact HB.out)⟩
end Go.Proofs.YtghikgjknhjjgaaDoor
namespace Go.Proofs.YtghikgjknhjjgaaDoor
set_option maxRecDepth 100000
open Go.RowKit Go.Shelf
set_option maxRecDepth 100000 in
set_option maxHeartbeats 1000000 in
theorem pl_finish (l : Lg) (v : Value) (recs : List ByteArray) (ro' : Option Addr) (rc' : Nat) (ops : List DOp) (oo : Option Addr) (oc : Nat) (w : World) (hL : LgV w v l) (hsl' : SlW ro' recs.length rc') (hst' : StrsAt (· < w.heap.size) w ro' recs)
  (ho : OpsAt w oo ops) (hn : l.disk.cache.length + ops.length ≤ 1000000) (hv0 : 0 ≤ l.ver) (hv1 : l.ver ≤ 1099511627776) :
  Calls Tryd.prog 43 #[v, .slice ro' recs.length rc', .slice oo ops.length oc] w (RetLE w (finL l recs ops).1 (finL l recs ops).2) := by
 obtain ⟨po, pc, co, cc, ro, rc, rfl, hD, hsl, hst⟩ := hL
 obtain ⟨d, frm, til, ver, recs0⟩ := l
 simp only at hD hsl hst hn hv0 hv1
 obtain ⟨N, hN⟩ : ∃ N, w.heap.size = N := ⟨_, rfl⟩
 obtain ⟨W0, hW0⟩ : ∃ W0, (w.alloc (.cells (lgC d po co pc cc frm til ver ro recs0.length rc) 32)).alloc (.cells lgZ 32) = W0 := ⟨_, rfl⟩
 have x0 : Bx W0 N (lgC d po co pc cc frm til ver ro recs0.length rc) 32 := by subst hW0 hN; exact (Bx.new w _ _).alloc _
 have x1 : Bx W0 (N + 1) lgZ 32 := by subst hW0 hN; exact Bx.newAt _ _ _ _ (by simp)
 have hB0 : Below w.heap.size w W0 := by subst hW0; exact (Below.one w _).alloc (by simp) _
 obtain ⟨A, er, he⟩ : ∃ A er, perfP d ops = (A, er) := ⟨_, _, rfl⟩
 have hp := pl_perform d _ ops oo oc W0 (hD.below hB0) (ho.below hB0) hn
 rw [he] at hp
 have Hp := Lib.hid hp
 have hfin : finL ⟨d, frm, til, ver, recs0⟩ recs ops = if er ≠ 0 then (⟨A, frm, til, ver, recs0⟩, er) else (⟨A, frm, til, ver + 1, recs⟩, 0) := by unfold finL; simp only; rw [he]
 obtain ⟨R, hR⟩ : ∃ R, finL ⟨d, frm, til, ver, recs0⟩ recs ops = R := ⟨_, rfl⟩
 rw [hR] at hfin ⊢
 have HR := Lib.hid hfin
 have Hst := Lib.hid hst
 have Hst' := Lib.hid hst'
 have Hsl := Lib.hid hsl
 have Hsl' := Lib.hid hsl'
 clear hp he hfin hR hD ho hst hst' hsl hsl'
 have c0 := x0.cell
 have l0 := x0.lt
 go_enter Tryd.func43, Tryd.ntmps43
 go_wp2_with fail
 refine Hp.out.mono ?_
 rintro e w1 ⟨v1, rfl, hM1, hb1⟩
 have hM2 := hM1
 obtain ⟨po1, pc1, co1, cc1, rfl⟩ := hM1.agg
 have y0 := x0.belowAll hb1
 have y1 := x1.belowAll hb1
 have hB1 := btr hB0 hb1
 have hz1 := hB1.size
 clear c0 l0 x0 x1 hW0
 have c0 := y0.cell
 have l0 := y0.lt
 have f0 := y0.free
 have c1 := y1.cell
 have l1 := y1.lt
 have f1 := y1.free
 have hw : wrap64 (ver + 1) = ver + 1 := IntWalk.wrap64_in _ (by omega)
 cases g : (er != 0)
 ·
  have ge : er = 0 := by simpa using g
  subst ge
  have hLg : LgV w1 (.agg (lgC A po1 co1 pc1 cc1 frm til (ver + 1) ro' recs.length rc')) ⟨A, frm, til, ver + 1, recs⟩ := ⟨po1, pc1, co1, cc1, ro', rc', rfl, hM2, Hsl'.out, (Hst'.out.below hB1).mono fun b hb => Nat.lt_of_lt_of_le hb hz1⟩
  obtain ⟨Wa, hWa⟩ : ∃ Wa, (st4 w1 N (.int .i64 A.size) (.slice po1 A.pages.length pc1) (.slice co1 A.cache.length cc1) (.int .i64 A.left) |>.setCell ⟨N, 6, none⟩ (.int .i64 (ver + 1))).setCell ⟨N, 7, none⟩ (.slice ro' recs.length rc') = Wa := ⟨_, rfl⟩
  have hOa : Only N w1 Wa := by subst hWa; exact (only_st4.set 6 _).set 7 _
  have hBa : Below w.heap.size w Wa := by subst hWa; exact below_set1 (b := N) (below_set1 (b := N) (below_st4 hB1 (by omega)) (by omega)) (by omega)
  obtain ⟨Wf, hWf⟩ : ∃ Wf, (st8 Wa (N + 1) (.int .i64 A.size) (.slice po1 A.pages.length pc1) (.slice co1 A.cache.length cc1) (.int .i64 A.left) (.int .i64 frm) (.int .i64 til) (.int .i64 (ver + 1)) (.slice ro' recs.length rc')).alloc (.cells (dC A po1 co1 pc1 cc1) 30) = Wf := ⟨_, rfl⟩
  have ya := y1.only hOa (by omega)
  have zR : Bx Wf (N + 1) (lgC A po1 co1 pc1 cc1 frm til (ver + 1) ro' recs.length rc') 32 := by subst hWf; exact ya.set8.alloc _
  have zB : Below w.heap.size w Wf := by subst hWf; exact (below_set8 hBa (by omega)).alloc (by rw [size_set8]; have := hOa.1; omega) _
  have zL : LgV Wf (.agg (lgC A po1 co1 pc1 cc1 frm til (ver + 1) ro' recs.length rc')) ⟨A, frm, til, ver + 1, recs⟩ := by subst hWf; exact ((hLg.only y0 (noS_lg _ _ _ _ _ _ _ _ _ _ _ _ _ _) hOa).only ya (noS_lg _ _ _ _ _ _ _ _ _ _ _ _ _ _) Only.eight).below (Below.one _ _)
  have HWa := Lib.hid hWa
  have HWf := Lib.hid hWf
  have HB := Lib.hid zB
  have HL := Lib.hid zL
  clear hWf hWa zB zL ya hOa hBa hLg hM1 hM2 hB1 hB0 hb1
  go_wp2
  have HW := HWf.out
  rw [← HWa.out] at HW
  unfold st4 st8 at HW
  rw [HW]
  have cZ := zR.cell
  refine bodyPost_ret (v := .tuple #[.agg (lgC A po1 co1 pc1 cc1 frm til (ver + 1) ro' recs.length rc'), .int .i64 0]) (by simp [results, Tryd.results43, go_sem, cZ]) rfl ?_
  rw [HR.out, if_neg (by simp)]
  exact ⟨_, rfl, HL.out, HB.out⟩
 ·
  have ge : er ≠ 0 := by simpa using g
  have hLg : LgV w1 (.agg (lgC A po1 co1 pc1 cc1 frm til ver ro recs0.length rc)) ⟨A, frm, til, ver, recs0⟩ := ⟨po1, pc1, co1, cc1, ro, rc, rfl, hM2, Hsl.out, (Hst.out.below hB1).mono fun b hb => Nat.lt_of_lt_of_le hb hz1⟩
  obtain ⟨Wf, hWf⟩ : ∃ Wf, (st8 (st4 w1 N (.int .i64 A.size) (.slice po1 A.pages.length pc1) (.slice co1 A.cache.length cc1) (.int .i64 A.left)) (N + 1) (.int .i64 A.size) (.slice po1 A.pages.length pc1) (.slice co1 A.cache.length cc1) (.int .i64 A.left) (.int .i64 frm) (.int .i64 til) (.int .i64 ver) (.slice ro recs0.length rc)).alloc (.cells (dC A po1 co1 pc1 cc1) 30) = Wf := ⟨_, rfl⟩
  have ya := y1.only (r := N) (only_st4 (v0 := .int .i64 A.size) (v1 := .slice po1 A.pages.length pc1) (v2 := .slice co1 A.cache.length cc1) (v3 := .int .i64 A.left)) (by omega)
  have zR : Bx Wf (N + 1) (lgC A po1 co1 pc1 cc1 frm til ver ro recs0.length rc) 32 := by subst hWf; exact ya.set8.alloc _
  have zB : Below w.heap.size w Wf := by subst hWf; exact (below_set8 (below_st4 hB1 (by omega)) (by omega)).alloc (by rw [size_set8, size_st4]; omega) _
  have zL : LgV Wf (.agg (lgC A po1 co1 pc1 cc1 frm til ver ro recs0.length rc)) ⟨A, frm, til, ver, recs0⟩ := by subst hWf; exact ((hLg.only y0 (noS_lg _ _ _ _ _ _ _ _ _ _ _ _ _ _) only_st4).only ya (noS_lg _ _ _ _ _ _ _ _ _ _ _ _ _ _) Only.eight).below (Below.one _ _)
  have HWf := Lib.hid hWf
  have HB := Lib.hid zB
  have HL := Lib.hid zL
  clear hWf zB zL ya hLg hM1 hM2 hB1 hB0 hb1
  go_wp2
  have HW := HWf.out
  unfold st4 st8 at HW
  rw [HW]
  have cZ := zR.cell
  refine bodyPost_ret (v := .tuple #[.agg (lgC A po1 co1 pc1 cc1 frm til ver ro recs0.length rc), .int .i64 er]) (by simp [results, Tryd.results43, go_sem, cZ]) rfl ?_
  rw [HR.out, if_pos ge]
  exact ⟨_, rfl, HL.out, HB.out⟩
end Go.Proofs.YtghikgjknhjjgaaDoor
namespace Go.Proofs.YtghikgjknhjjgaaDoor
set_option maxRecDepth 100000
open Go.RowKit Go.Shelf
/-- the value v is a slice of these strings -/
def SlR (S : Nat → Prop) (w : World) (v : Value) (l : List ByteArray) : Prop := ∃ o c, v = .slice o l.length c ∧ SlW o l.length c ∧ StrsAt S w o l
theorem SlR.below {S : Nat → Prop} {w w' : World} {v : Value} {l : List ByteArray} {B : Nat} (h : SlR S w v l) (hb : Below B w w') (hB : w.heap.size ≤ B) : SlR S w' v l := by
 obtain ⟨o, c, e, h1, h2⟩ := h
 exact ⟨o, c, e, h1, h2.below (hb.mono hB)⟩
theorem SlR.owns {w : World} {base : Nat} {v : Value} {l : List ByteArray} (h : w.ownsRow base 9 1 v l.length (l.map .string)) : SlR (· < w.heap.size) w v l := by
 obtain ⟨o, c, e, h1, h2, _⟩ := ownsRow_at h
 exact ⟨o, c, e, h1, (StrsAt.of_row h2).mono fun b hb => hb.2⟩
theorem SlR.owns2 {w : World} {base : Nat} {v : Value} {l : List ByteArray} (h : w.ownsRow base 9 1 v l.length (l.map .string)) : SlR (fun b => base ≤ b ∧ b < w.heap.size) w v l := by
 obtain ⟨o, c, e, h1, h2, _⟩ := ownsRow_at h
 exact ⟨o, c, e, h1, StrsAt.of_row h2⟩
theorem SlR.mono {S T : Nat → Prop} {w : World} {v : Value} {l : List ByteArray} (h : SlR S w v l) (hT : ∀ b, S b → T b) : SlR T w v l := by
 obtain ⟨o, c, e, h1, h2⟩ := h
 exact ⟨o, c, e, h1, h2.mono hT⟩
theorem SlR.row {S : Nat → Prop} {w : World} {o : Option Addr} {c : Nat} {l : List ByteArray} (h : SlR S w (.slice o l.length c) l) : RowAt S w o (l.map .string) ∧ (o = none → l.length = 0 ∧ c = 0) := by
 obtain ⟨o', c', e, h1, h2⟩ := h
 obtain ⟨rfl, rfl⟩ : o = o' ∧ c = c' := by simpa using e
 exact ⟨h2.row, h1.nil⟩
theorem ownsRow_lowerS {w : World} {base base' : Nat} {e : TypeId} {size : Nat} {v : Value} {n : Nat} {xs : List Value} (h : w.ownsRow base e size v n xs) (hb : base' ≤ base) : w.ownsRow base' e size v n xs := by
 refine ⟨h.1, ?_⟩
 rcases h.2 with h1 | ⟨g, cap, cur, e1, hg, r⟩
 ·
  exact .inl h1
 ·
  exact .inr ⟨g, cap, cur, e1, Nat.le_trans hb hg, r⟩
theorem infoStrg : (Tryd.prog.info? 9).map (fun i => (i.zero, i.size, i.bytes)) = some (some (.string .empty), 1, 16) := by kernel_rfl
set_option maxRecDepth 100000 in
set_option maxHeartbeats 1000000 in
theorem sl_GrowS (w : World) (m : Int) (n : Nat) (hm : m = n) (hn : n ≤ 3000000) :
  Calls Tryd.prog 62 #[.slice none 0 0, .int .i64 m] w fun e w' => ∃ v, e = .returned v ∧ w'.ownsRow w.heap.size 9 1 v 0 [] ∧ Below w.heap.size w w' := by
 subst hm
 obtain ⟨idg, hidg, hzd, hsd, hbyd⟩ := info_parts infoStrg
 rcases Nat.eq_zero_or_pos n with rfl | hp
 ·
  have h0 : ¬ (0 : Int) < ((0 : Nat) : Int) := by omega
  go_enter Tryd.func62, Tryd.ntmps62
  go_wp2
  go_ret
  exact ⟨_, rfl, World.ownsRow_nil _ _ _ _, Below.refl _ _⟩
 ·
  have hr := Lib.run_append_nil_zeros (P := Tryd.prog) w 27 3 27 9 idg _ .i64 .i64 Tryd.underlying27 Tryd.underlying3 hidg hzd n hp (by rw [hsd]; decide) (by omega) (by rw [hbyd]; omega)
  have hge := grownCap_ge w n 0 9
  have hcm := grownCap_le_maxLen w n 0 9 (by unfold maxLen; omega)
  have hsz : (Builtin.zeroCells (Value.string .empty).cells n ++ Builtin.zeroCells (Value.string .empty).cells (grownCap w n 0 9 - n)).size = grownCap w n 0 9 * 1 := by
   rw [Array.size_append, size_zeroCells, size_zeroCells, ← Nat.add_mul]
   simp [Value.cells]
   omega
  have hp' : (0 : Int) < (n : Int) := by omega
  generalize grownCap w n 0 9 = c at *
  have hc0 : 0 ≤ c := by omega
  have Hr := Lib.hid hr
  have Hsz := Lib.hid hsz
  have Hc := Lib.hid hcm
  clear hr hsz hcm hidg hzd hsd hbyd
  go_enter Tryd.func62, Tryd.ntmps62
  go_wp2_with (refine Lib.wpList_append_run _ rfl (.tmp 20) (.tmp 21) 27 3 rfl (.slice none 0 0) (.int .i64 n) rfl rfl _ _ Hr.out ?_)
  go_ret
  rw [show (Value.string .empty).cells = #[Value.string .empty] from rfl] at Hsz
  refine ⟨_, rfl, ⟨by simp, .inr ⟨w.heap.size, c, _, rfl, Nat.le_refl _, heap_alloc_new w _, Nat.zero_le _, Hc.out, Hsz.out, by simp⟩⟩, ?_⟩
  exact (Below.one w _).drew
set_option maxRecDepth 100000 in
set_option maxHeartbeats 2000000 in
theorem sl_ConcatS {S1 S2 : Nat → Prop} (w : World) (g : Nat) (va vb : Value) (x : Bx w g #[va, vb] 27) (a b : List ByteArray) (hA : SlR S1 w va a) (hB : SlR S2 w vb b) (la : a.length ≤ 2000000) (lb : b.length ≤ 1000) :
  Calls Tryd.prog 44 #[.slice (some ⟨g, 0, none⟩) 2 2] w fun e w' => ∃ v, e = .returned v ∧ SlR (fun k => w.heap.size ≤ k ∧ k < w'.heap.size) w' v (a ++ b) ∧ Below w.heap.size w w' := by
 obtain ⟨oa, ca, rfl⟩ : ∃ o c, va = .slice o a.length c := by obtain ⟨o, c, e, _⟩ := hA; exact ⟨o, c, e⟩
 obtain ⟨ob, cb, rfl⟩ : ∃ o c, vb = .slice o b.length c := by obtain ⟨o, c, e, _⟩ := hB; exact ⟨o, c, e⟩
 obtain ⟨idg, hidg, hzd, hsd, hbyd⟩ := info_parts infoStrg
 have Hidg : Hid (Tryd.prog.info? 9 = some idg ∧ idg.zero = some (.string .empty) ∧ idg.size = 1 ∧ idg.bytes = 16) := Lib.hid ⟨hidg, hzd, hsd, hbyd⟩
 have HA := Lib.hid hA
 have HB := Lib.hid hB
 have X := Lib.hid x
 clear hA hB x hidg hzd hsd hbyd
 go_enter Tryd.func44, Tryd.ntmps44
 go_wp2
 go_loopw [3, 11] (fun s i wr => ((i = .int .i64 0 ∧ s = .int .i64 0) ∨ (i = .int .i64 1 ∧ s = .int .i64 (a.length : Int)) ∨ (i = .int .i64 2 ∧ s = .int .i64 ((a.length : Int) + (b.length : Int)))) ∧ Below w.heap.size w wr) (fun _ i _ => 2 - (intOf i).toNat)
 case atStart => exact ⟨.inl ⟨rfl, rfl⟩, Below.refl _ _⟩
 case round =>
  obtain ⟨hi, hb⟩ := hrel
  have xr := X.out.below hb X.out.lt
  have c0 : wr.cell? ⟨g, 0, none⟩ = some (.slice oa a.length ca) := by rw [xr.cell]; rfl
  have c1 : wr.cell? ⟨g, 1, none⟩ = some (.slice ob b.length cb) := by rw [xr.cell]; rfl
  rcases hi with ⟨rfl, rfl⟩ | ⟨rfl, rfl⟩ | ⟨rfl, rfl⟩
  ·
   have h0 : ¬ ((a.length : Int) < 0) := by omega
   go_wp2
   go_roundw
   case rel => exact ⟨.inr (.inl ⟨rfl, rfl⟩), hb⟩
   case measure => simp [intOf]
  ·
   have h0 : ¬ ((a.length : Int) + (b.length : Int) < 0) := by omega
   go_wp2
   go_roundw
   case rel => exact ⟨.inr (.inr ⟨rfl, rfl⟩), hb⟩
   case measure => simp [intOf]
  ·
   have hgr := sl_GrowS wr ((a.length : Int) + (b.length : Int)) (a.length + b.length) (by omega) (by omega)
   have Hgr := Lib.hid hgr
   clear hgr c0 c1 xr
   go_wp2_with fail
   refine Hgr.out.mono ?_
   rintro e w2 ⟨v2, rfl, ho2, hb2⟩
   have hB2 := Below.then hb hb2 hb.size
   have Ho2 := Lib.hid (ownsRow_lowerS ho2 hb.size)
   clear ho2 hb hb2 Hgr
   go_wp2
   go_loopw [6, 27] (fun u i wr => (∃ l : List ByteArray, ((i = .int .i64 0 ∧ l = []) ∨ (i = .int .i64 1 ∧ l = a) ∨ (i = .int .i64 2 ∧ l = a ++ b)) ∧ wr.ownsRow w.heap.size 9 1 u l.length (l.map .string)) ∧ Below w.heap.size w wr) (fun _ i _ => 2 - (intOf i).toNat)
   case atStart => exact ⟨⟨[], .inl ⟨rfl, rfl⟩, Ho2.out⟩, hB2⟩
   case round =>
    clear Ho2
    obtain ⟨⟨l, hi, ho⟩, hb⟩ := hrel
    have xr := X.out.below hb X.out.lt
    have c0 : wr.cell? ⟨g, 0, none⟩ = some (.slice oa a.length ca) := by rw [xr.cell]; rfl
    have c1 : wr.cell? ⟨g, 1, none⟩ = some (.slice ob b.length cb) := by rw [xr.cell]; rfl
    have Ho := Lib.hid ho
    have hz := hb.size
    clear ho
    rcases hi with ⟨rfl, hl⟩ | ⟨rfl, hl⟩ | ⟨rfl, hl⟩
    ·
     rw [hl] at Ho
     have HR := Lib.hid (HA.out.below hb (Nat.le_refl _)).row
     have Hf : Hid ((a.map Value.string).length = a.length * 1) := Lib.hid (by simp)
     have Hone := Lib.hid (strs_one a)
     go_wp2_with (refine wpList_app rfl (.tmp 31) (.tmp 32) 27 rfl w.heap.size 9 idg _ 1 16 Tryd.underlying27 Hidg.out.1 Hidg.out.2.1 Hidg.out.2.2.1 Hidg.out.2.2.2 rfl (by decide) _ _ _ rfl Ho.out oa a.length ca (a.map .string) rfl HR.out.2 Hf.out HR.out.1 Hone.out (by simp [maxLen]; omega) (by simp; omega) (by omega) ?_; intro v3 w3 ho3 hg3)
     have hb3 : Below w.heap.size w w3 := hb.grown hg3 hz (fun k e => (Ho.out.lt k e).1)
     rw [List.length_nil, Nat.zero_add] at ho3
     have ho4 : w3.ownsRow w.heap.size 9 1 v3 a.length (a.map .string) := ho3
     go_roundw
     case rel => exact ⟨⟨a, .inr (.inl ⟨rfl, rfl⟩), ho4⟩, hb3⟩
     case measure => simp [intOf]
    ·
     rw [hl] at Ho
     have HR := Lib.hid (HB.out.below hb (Nat.le_refl _)).row
     have Hf : Hid ((b.map Value.string).length = b.length * 1) := Lib.hid (by simp)
     have Hone := Lib.hid (strs_one b)
     go_wp2_with (refine wpList_app rfl (.tmp 31) (.tmp 32) 27 rfl w.heap.size 9 idg _ 1 16 Tryd.underlying27 Hidg.out.1 Hidg.out.2.1 Hidg.out.2.2.1 Hidg.out.2.2.2 rfl (by decide) _ _ _ rfl Ho.out ob b.length cb (b.map .string) rfl HR.out.2 Hf.out HR.out.1 Hone.out (by simp [maxLen]; omega) (by omega) (by omega) ?_; intro v3 w3 ho3 hg3)
     have hb3 : Below w.heap.size w w3 := hb.grown hg3 hz (fun k e => (Ho.out.lt k e).1)
     have ho4 : w3.ownsRow w.heap.size 9 1 v3 (a ++ b).length ((a ++ b).map .string) := by rw [List.length_append, List.map_append]; exact ho3
     go_roundw
     case rel => exact ⟨⟨a ++ b, .inr (.inr ⟨rfl, rfl⟩), ho4⟩, hb3⟩
     case measure => simp [intOf]
    ·
     rw [hl] at Ho
     have HD := Lib.hid (SlR.owns2 Ho.out)
     clear c0 c1 xr
     go_wp2
     go_ret
     exact ⟨_, rfl, HD.out, hb⟩
theorem sl_CloneS {S : Nat → Prop} (l : List ByteArray) (o : Option Addr) (c n : Nat) (w : World) (ha : StrsAt S w o l) (hsl : SlW o l.length c) (hl : l.length ≤ 2000000) (hn : n ≤ l.length) :
  Calls Tryd.prog 12 #[.slice o n c] w fun e w' => ∃ v, e = .returned v ∧ SlR (· < w'.heap.size) w' v (l.take n) ∧ Below w.heap.size w w' := by
 have hlt : (l.take n).length = n := by rw [List.length_take]; omega
 rcases o with _ | a
 ·
  refine (Tryd.slices_Clone_string_nil n c w).mono ?_
  rintro e w' ⟨rfl, rfl⟩
  have h0 : l.length = 0 := (hsl.nil rfl).1
  have hnil : l.take n = [] := List.eq_nil_of_length_eq_zero (by omega)
  rw [hnil]
  exact ⟨_, rfl, ⟨none, 0, rfl, .inl ⟨rfl, rfl, rfl⟩, fun j h => absurd h (by simp)⟩, Below.refl _ _⟩
 ·
  by_cases hp : l = []
  ·
   subst hp
   obtain rfl : n = 0 := by simpa using hn
   refine (Tryd.slices_Clone_string_zero a c w).mono ?_
   rintro e w' ⟨v', rfl, h1, _, hb⟩
   exact ⟨v', rfl, SlR.owns (l := []) h1, hb⟩
  ·
   obtain ⟨b, off, e, _⟩ := ha 0 (List.length_pos_iff.2 hp)
   obtain rfl := Option.some.inj e
   refine (Tryd.slices_Clone_string b off n c l w hn (by omega) (fun j hj => ?_)).mono ?_
   ·
    obtain ⟨b', off', e, hc, _⟩ := ha j hj
    obtain ⟨rfl, rfl⟩ : b = b' ∧ off = off' := by simpa using e
    rw [hc, List.getD, List.getElem?_eq_getElem hj, Option.getD_some]
   ·
    rintro e w' ⟨v', rfl, h1, _, hb⟩
    refine ⟨v', rfl, SlR.owns (base := w.heap.size) ?_, hb⟩
    rw [hlt]
    exact h1
theorem ap_big (s : ByteArray) (w : World) : Calls Tryd.prog 39 #[.string s] w fun e w' => e = .returned (.bool (decide (65536 < (s.size : Int)))) ∧ w' = w := by
 go_enter Tryd.func39, Tryd.ntmps39
 go_wp2
 go_ret
 exact ⟨rfl, rfl⟩
theorem bigR_step {l : List ByteArray} {k : Nat} (h : k < l.length) (e : decide (65536 < (l[k].size : Int)) = false) : bigR (l.drop k) = bigR (l.drop (k + 1)) := by
 rw [List.drop_eq_getElem_cons h]
 unfold bigR
 have : ¬ 65536 < l[k].size := by have := of_decide_eq_false e; omega
 rw [List.any_cons, decide_eq_false this, Bool.false_or]
theorem bigR_hit {l : List ByteArray} {k : Nat} (h : k < l.length) (e : decide (65536 < (l[k].size : Int)) = true) : bigR (l.drop k) = true := by
 rw [List.drop_eq_getElem_cons h]
 unfold bigR
 have : 65536 < l[k].size := by have := of_decide_eq_true e; omega
 rw [List.any_cons, decide_eq_true this, Bool.true_or]
set_option maxHeartbeats 800000 in
theorem sl_IndexS {S : Nat → Prop} (l : List ByteArray) (o : Option Addr) (c : Nat) (w : World) (ha : StrsAt S w o l) (hl : l.length ≤ 2000000) :
  Calls Tryd.prog 58 #[.slice o l.length c, .func (.func 39) #[] #[]] w fun e w' => (∃ i : Int, e = .returned (.int .i64 i) ∧ decide (0 ≤ i) = bigR l) ∧ Below w.heap.size w w' := by
 obtain ⟨r, hr⟩ : ∃ r, bigR l = r := ⟨_, rfl⟩
 rw [hr]
 go_enter Tryd.func58, Tryd.ntmps58
 go_wp2
 go_loopw [8] (fun i wr => ∃ k : Nat, k ≤ l.length ∧ i = .int .i64 k ∧ bigR (l.drop k) = r ∧ Below w.heap.size w wr) (fun i _ => l.length - (intOf i).toNat)
 case atStart => exact ⟨0, Nat.zero_le _, rfl, by simpa using hr, Below.refl _ _⟩
 case round =>
  obtain ⟨k, hk, rfl, hq, hB⟩ := hrel
  by_cases hlt : k < l.length
  ·
   obtain ⟨b, off, rfl, hc0, _⟩ := ha k hlt
   have hc : wr.cell? ⟨b, off + k, none⟩ = some (.string l[k]) := by rw [hB.cell (World.block_lt_of_cell? w _ hc0)]; exact hc0
   clear hc0
   cases g : decide (65536 < (l[k].size : Int))
   ·
    rw [bigR_step hlt g] at hq
    have Hq := Lib.hid hq
    have hcall := ap_big l[k] wr
    rw [g] at hcall
    clear hq hr
    go_wp2_with fail
    refine hcall.mono ?_
    rintro e w1 ⟨rfl, rfl⟩
    go_wp2
    go_roundw
    case rel => exact ⟨k + 1, by omega, by go_num, Hq.out, hB⟩
    case measure => simp [intOf]; omega
   ·
    rw [bigR_hit hlt g] at hq
    have Hq := Lib.hid hq
    have hcall := ap_big l[k] wr
    rw [g] at hcall
    clear hq hr
    go_wp2_with fail
    refine hcall.mono ?_
    rintro e w1 ⟨rfl, rfl⟩
    go_wp2
    go_ret
    exact ⟨⟨k, rfl, by rw [← Hq.out]; simp⟩, hB⟩
  ·
   have Hq : Hid (false = r) := Lib.hid (by rw [← hq, List.drop_of_length_le (by omega)]; rfl)
   clear hq hr
   go_wp2
   go_ret
   exact ⟨⟨-1, rfl, by rw [← Hq.out]; rfl⟩, hB⟩
theorem sl_ContainsS {S : Nat → Prop} (l : List ByteArray) (o : Option Addr) (c : Nat) (w : World) (ha : StrsAt S w o l) (hl : l.length ≤ 2000000) :
  Calls Tryd.prog 38 #[.slice o l.length c, .func (.func 39) #[] #[]] w fun e w' => e = .returned (.bool (bigR l)) ∧ Below w.heap.size w w' := by
 obtain ⟨r, hr⟩ : ∃ r, bigR l = r := ⟨_, rfl⟩
 have hc := sl_IndexS l o c w ha hl
 rw [hr] at hc ⊢
 go_enter Tryd.func38, Tryd.ntmps38
 go_wp2_with fail
 refine hc.mono ?_
 rintro e w1 ⟨⟨i, rfl, hi⟩, hb⟩
 cases r with
 | true =>
  have hi' := of_decide_eq_true hi
  clear hi hr
  go_wp2
  go_ret
  exact ⟨by simp, hb⟩
 | false =>
  have hi' := of_decide_eq_false hi
  clear hi hr
  go_wp2
  go_ret
  exact ⟨by simp [hi'], hb⟩
end Go.Proofs.YtghikgjknhjjgaaDoor
namespace Go.Proofs.YtghikgjknhjjgaaDoor
set_option maxRecDepth 100000
open Go.RowKit Go.Shelf
def annSl (l : List ByteArray) : Ann := ⟨fun r => r.x 0, fun r W => SlR (· < W.heap.size) W (r.x 0) l⟩
theorem SlR.belowAll {w w' : World} {v : Value} {l : List ByteArray} (h : SlR (· < w.heap.size) w v l) (hb : Below w.heap.size w w') : SlR (· < w'.heap.size) w' v l := by
 obtain ⟨o, c, e, h1, h2⟩ := h
 exact ⟨o, c, e, h1, (h2.below hb).mono fun b hs => Nat.lt_of_lt_of_le hs hb.size⟩
theorem lz_sl {f : FuncId} {args : Array Value} {l : List ByteArray} {W : World} (h : Calls Tryd.prog f args W fun e w' => ∃ v, e = .returned v ∧ SlR (· < w'.heap.size) w' v l ∧ Below W.heap.size W w') : Calls Tryd.prog f args W fun e w' => ∃ u, e = .returned u ∧ lzPost (annSl l) W u w' :=
 h.mono fun _ _ ⟨v, he, ho, hb⟩ => ⟨v, he, hb, fun _ => v, rfl, fun _ hb' => ho.belowAll hb'⟩
def annLE (l : Lg) (er : Int) : Ann := ⟨fun r => .tuple #[r.x 0, .int .i64 er], fun r W => LgV W (r.x 0) l⟩
theorem lz_le {f : FuncId} {args : Array Value} {l : Lg} {er : Int} {W : World} (h : Calls Tryd.prog f args W (RetLE W l er)) : Calls Tryd.prog f args W fun e w' => ∃ u, e = .returned u ∧ lzPost (annLE l er) W u w' :=
 h.mono fun _ _ ⟨v, he, ho, hb⟩ => ⟨_, he, hb, fun _ => v, rfl, fun _ hb' => ho.below hb'⟩
def annOpB (ops : List DOp) (n : Nat) : Ann := ⟨fun r => .slice (some ⟨(match r.x 0 with | .int _ b => b.toNat | _ => 0), 0, none⟩) n n, fun r W => OpsAt W (some ⟨(match r.x 0 with | .int _ b => b.toNat | _ => 0), 0, none⟩) ops⟩
theorem lz_opB {f : FuncId} {args : Array Value} {ops : List DOp} {n : Nat} {W : World} (h : Calls Tryd.prog f args W fun e w' => ∃ b, e = .returned (.slice (some ⟨b, 0, none⟩) n n) ∧ OpsAt w' (some ⟨b, 0, none⟩) ops ∧ Below W.heap.size W w') : Calls Tryd.prog f args W fun e w' => ∃ u, e = .returned u ∧ lzPost (annOpB ops n) W u w' :=
 h.mono fun _ _ ⟨b, he, ho, hb⟩ => ⟨_, he, hb, fun _ => .int .i64 b, by simp [annOpB], fun _ hb' => by simpa [annOpB] using ho.below hb'⟩
theorem valid_ver {l : Lg} (h : validL l = true) : ∃ V : Nat, l.ver = V ∧ 1 ≤ V ∧ V ≤ 1099511627776 := by
 obtain ⟨_, h2, h3, _⟩ := validL_parts h
 exact ⟨_, h3, by omega, (headL_bd _ _ _).1⟩
/-- a log box, and the box of the result -/
structure LgS (w : World) (N : Nat) (l : Lg) (po co ro : Option Addr) (pc cc rc : Nat) (W : World) : Prop where
 box : Bx W N (lgC l.disk po co pc cc l.frm l.til l.ver ro l.recs.length rc) 32
 res : Bx W (N + 1) lgZ 32
 below : Below w.heap.size w W
 val : LgV W (.agg (lgC l.disk po co pc cc l.frm l.til l.ver ro l.recs.length rc)) l
theorem LgS.next {w : World} {N : Nat} {l : Lg} {po co ro : Option Addr} {pc cc rc : Nat} {W W' : World} (h : LgS w N l po co ro pc cc rc W) (hb : Below W.heap.size W W') : LgS w N l po co ro pc cc rc W' :=
 ⟨h.box.belowAll hb, h.res.belowAll hb, btr h.below hb, h.val.below hb⟩
theorem LgS.start {w : World} {N : Nat} {l : Lg} {po co ro : Option Addr} {pc cc rc : Nat} (hN : w.heap.size = N) (h : LgV w (.agg (lgC l.disk po co pc cc l.frm l.til l.ver ro l.recs.length rc)) l) :
  LgS w N l po co ro pc cc rc ((w.alloc (.cells (lgC l.disk po co pc cc l.frm l.til l.ver ro l.recs.length rc) 32)).alloc (.cells lgZ 32)) := by
 have hB := (Below.one w (.cells (lgC l.disk po co pc cc l.frm l.til l.ver ro l.recs.length rc) 32)).alloc (by simp) (.cells lgZ 32)
 subst hN
 exact ⟨(Bx.new w _ _).alloc _, Bx.newAt _ _ _ _ (by simp), hB, h.below hB⟩
/-- a log is stored as the result -/
theorem LgS.out {w : World} {N : Nat} {l l' : Lg} {po co ro po' co' ro' : Option Addr} {pc cc rc pc' cc' rc' : Nat} {W Wf : World} (h : LgS w N l po co ro pc cc rc W) (hN : w.heap.size = N)
  (hv : LgV W (.agg (lgC l'.disk po' co' pc' cc' l'.frm l'.til l'.ver ro' l'.recs.length rc')) l')
  (hWf : st8 W (N + 1) (.int .i64 l'.disk.size) (.slice po' l'.disk.pages.length pc') (.slice co' l'.disk.cache.length cc') (.int .i64 l'.disk.left) (.int .i64 l'.frm) (.int .i64 l'.til) (.int .i64 l'.ver) (.slice ro' l'.recs.length rc') = Wf) :
  Bx Wf (N + 1) (lgC l'.disk po' co' pc' cc' l'.frm l'.til l'.ver ro' l'.recs.length rc') 32 ∧ Below w.heap.size w Wf ∧ LgV Wf (.agg (lgC l'.disk po' co' pc' cc' l'.frm l'.til l'.ver ro' l'.recs.length rc')) l' := by
 subst hWf
 exact ⟨h.res.set8, below_set8 h.below (by omega), hv.only h.res (noS_lg _ _ _ _ _ _ _ _ _ _ _ _ _ _) Only.eight⟩
theorem LgS.outZ {w : World} {N : Nat} {l : Lg} {po co ro : Option Addr} {pc cc rc : Nat} {W Wf : World} (h : LgS w N l po co ro pc cc rc W) (hN : w.heap.size = N)
  (hWf : st8 W (N + 1) (.int .i64 0) (.slice none 0 0) (.slice none 0 0) (.int .i64 0) (.int .i64 0) (.int .i64 0) (.int .i64 0) (.slice none 0 0) = Wf) :
  Bx Wf (N + 1) lgZ 32 ∧ Below w.heap.size w Wf := by
 subst hWf
 exact ⟨h.res.set8, below_set8 h.below (by omega)⟩
theorem cutL_full {l : Lg} {n : Int} (h : validL l = true) (h1 : ¬ (n < 0 ∨ (l.recs.length : Int) < n)) (h2 : n ≠ l.recs.length) : cutL l n = if 1099511627776 ≤ l.ver then (zeroL, 17) else finL l (l.recs.take n.toNat) (nextL l (sizeL (l.recs.take n.toNat))) := by
 unfold cutL; rw [if_neg (by simp [h]), if_neg h1, if_neg h2]
set_option maxRecDepth 100000 in
set_option maxHeartbeats 2000000 in
theorem pl_Cut (l : Lg) (v : Value) (n : Int) (w : World) (hL : LgV w v l) (hT : TabW w) (hc : l.disk.cache.length ≤ 999990) :
  Calls Tryd.prog 20 #[v, .int .i64 n] w (RetLE w (cutL l n).1 (cutL l n).2) := by
 obtain ⟨R, hR⟩ : ∃ R, cutL l n = R := ⟨_, rfl⟩
 rw [hR]
 have hL0 := hL
 obtain ⟨po, pc, co, cc, ro, rc, rfl, hD, hsl, hst⟩ := hL
 obtain ⟨N, hN⟩ : ∃ N, w.heap.size = N := ⟨_, rfl⟩
 obtain ⟨W0, hW0⟩ : ∃ W0, (w.alloc (.cells (lgC l.disk po co pc cc l.frm l.til l.ver ro l.recs.length rc) 32)).alloc (.cells lgZ 32) = W0 := ⟨_, rfl⟩
 have s0 : LgS w N l po co ro pc cc rc W0 := by subst hW0; exact LgS.start hN hL0
 have hv := pl_valid l _ W0 s0.val
 have c0 := s0.box.cell
 have l0 := s0.box.lt
 cases g : validL l
 ·
  rw [g] at hv
  have Hv := Lib.hid hv
  obtain ⟨er0, her⟩ : ∃ er : Int, er = 1 := ⟨1, rfl⟩
  have Her := Lib.hid her
  have HRR : Hid (R = (zeroL, er0)) := Lib.hid (by rw [← hR, her]; unfold cutL; rw [if_pos g])
  clear hv hR her g
  go_enter Tryd.func20, Tryd.ntmps20
  go_wp2_with fail
  refine Hv.out.mono ?_
  rintro e w1 ⟨rfl, hb1⟩
  have s1 := s0.next hb1
  clear c0 l0 hW0 hb1
  have c0 := s1.box.cell
  have l0 := s1.box.lt
  obtain ⟨Wf, hWf⟩ : ∃ Wf, st8 w1 (N + 1) (.int .i64 0) (.slice none 0 0) (.slice none 0 0) (.int .i64 0) (.int .i64 0) (.int .i64 0) (.int .i64 0) (.slice none 0 0) = Wf := ⟨_, rfl⟩
  obtain ⟨zR, zB⟩ := s1.outZ hN hWf
  have cX := s1.res.cell
  have lX := s1.res.lt
  have fX := s1.res.free
  have ZB := Lib.hid zB
  have HWf := Lib.hid hWf
  clear zB hWf
  go_wp2
  have HW := HWf.out
  unfold st8 at HW
  rw [HW]
  have cZ := zR.cell
  refine bodyPost_ret (v := .tuple #[.agg lgZ, .int .i64 er0]) (by simp [results, Tryd.results20, go_sem, cZ, Her.out]) rfl ?_
  rw [HRR.out]
  exact ⟨_, rfl, LgV.zero _, ZB.out⟩
 ·
  rw [g] at hv
  have Hv := Lib.hid hv
  obtain ⟨V, hver, hV1, hV2⟩ := valid_ver g
  have hbd := valid_bd g
  have hfit := (validL_parts g).1
  have hcf := fun h1 h2 => cutL_full (n := n) g h1 h2
  have hc0 : cutL l n = if n < 0 ∨ (l.recs.length : Int) < n then (zeroL, 2) else if n = l.recs.length then (l, 0) else cutL l n := by
   by_cases h1 : n < 0 ∨ (l.recs.length : Int) < n
   ·
    rw [if_pos h1]; unfold cutL; rw [if_neg (by simp [g]), if_pos h1]
   ·
    rw [if_neg h1]
    by_cases h2 : n = l.recs.length
    ·
     rw [if_pos h2]; unfold cutL; rw [if_neg (by simp [g]), if_neg h1, if_pos h2]
    ·
     rw [if_neg h2]
  rw [hR] at hc0 hcf
  have Hc0 := Lib.hid hc0
  have Hcf := Lib.hid hcf
  have Hver : Hid (l.ver = V ∧ 1 ≤ V ∧ V ≤ 1099511627776) := Lib.hid ⟨hver, hV1, hV2⟩
  have Hbd := Lib.hid hbd
  have Hfit := Lib.hid hfit
  clear hv hc0 hcf hR g hver hV1 hV2 hbd hfit
  cases g1 : decide (n < 0)
  ·
   cases g2 : decide ((l.recs.length : Int) < n)
   ·
    cases g3 : (n == (l.recs.length : Int))
    ·
     cases g4 : decide (1099511627776 ≤ l.ver)
     ·
      have e1 := of_decide_eq_false g1
      have e2 := of_decide_eq_false g2
      have e3 : n ≠ l.recs.length := by simpa using g3
      obtain ⟨q, rfl⟩ : ∃ q : Nat, n = q := ⟨n.toNat, by omega⟩
      have hq : q < l.recs.length := by omega
      have HRR : Hid (R = finL l (l.recs.take q) (nextL l (sizeL (l.recs.take q)))) := Lib.hid (by rw [Hcf.out (by omega) e3, if_neg (of_decide_eq_false g4)]; rfl)
      obtain ⟨b, off, rfl, -⟩ := hst 0 (by omega)
      have hq1 : ¬ l.recs.length < q := by omega
      have hq2 : ¬ q = l.recs.length := by omega
      clear g1 g2 g3 e1 e2 e3
      obtain ⟨F, er, hF⟩ : ∃ F er, finL l (l.recs.take q) (nextL l (sizeL (l.recs.take q))) = (F, er) := ⟨_, _, rfl⟩
      rw [hF] at HRR
      have HF := Lib.hid hF
      obtain ⟨sz, hsz⟩ : ∃ sz, sizeL (l.recs.take q) = sz := ⟨_, rfl⟩
      have hszb : sz ≤ 1024000 := by have := sizeL_take l.recs q; have := Hbd.out.1; omega
      have Hszb := Lib.hid hszb
      have Hsz := Lib.hid hsz
      have hstT : StrsAt (· < w.heap.size) w (some ⟨b, off, none⟩) (l.recs.take q) := by
       intro j hj
       have hj' : j < q ∧ j < l.recs.length := by rw [List.length_take] at hj; omega
       obtain ⟨b', o', e, h1, h2⟩ := hst j hj'.2
       exact ⟨b', o', e, by rw [h1]; simp, h2⟩
      have HstT := Lib.hid hstT
      have Hst := Lib.hid hst
      have Hsl := Lib.hid hsl
      have Hl0 := Lib.hid hL0
      have HlT : Hid ((l.recs.take q).length = q) := Lib.hid (by rw [List.length_take]; omega)
      have hqc : q ≤ rc := by rcases hsl with ⟨h, _⟩ | ⟨_, _, h, _⟩; cases h; omega
      have hqc' : ¬ rc < q := by omega
      have hqi : (q : Int) ≤ (rc : Int) := by omega
      clear hF hsz hszb hstT hst hsl hD
      go_enter Tryd.func20, Tryd.ntmps20
      go_wp2_with fail
      refine Hv.out.mono ?_
      rintro e w1 ⟨rfl, hb1⟩
      have s1 := s0.next hb1
      clear c0 l0 hW0 hb1
      have c0 := s1.box.cell
      have l0 := s1.box.lt
      have cQ := Lat.cells w1
      have hBw : ∀ x : Lat w1, Below w.heap.size w x.w := fun x => btr s1.below x.h
      have HBw := Lib.hid hBw
      clear hBw
      go_wp2
      refine wp_region_lz 16 2 #[true, true, true, true, true, true, true, true, true, true, true, true, true, true, true, true, false, false] (fun i => if i = 5 then some (annSl (l.recs.take q)) else if i = 11 then some (annK (.int .i64 sz)) else if i = 12 then some (annOpB (nextL l sz) 2) else if i = 13 then some (annLE F er) else none) (by kernel_rfl) (by rfl) (by rfl) (by kernel_rfl) ?_
      simp only [List.take_succ_cons, List.take_zero]
      refine LW.block 5 5 (by rfl) (by kernel_rfl) (by kernel_rfl) ?_
      simp only [List.take_succ_cons, List.take_zero, List.drop_succ_cons, List.drop_zero]
      repeat (first | go_big_quiet_skip | (go_big_quiet_want; go_big_quiet_op; go_big_quiet_on))
      refine wpQuiet_nil ?_
      refine LW.lzy _ (by rfl) (by rfl) ?_ ?_
      ·
       intro yL _
       unfold lzAt
       go_simp
       exact lz_sl (sl_CloneS l.recs (some ⟨b, off, none⟩) rc q _ (Hst.out.below (HBw.out _)) Hsl.out (by have := Hbd.out.2; omega) (by omega))
      intro r5
      simp only [Act.put, List.setIfInBounds_toArray, List.set_cons_zero, List.set_cons_succ]
      refine LW.block 5 11 (by rfl) (by kernel_rfl) (by kernel_rfl) ?_
      simp only [List.take_succ_cons, List.take_zero, List.drop_succ_cons, List.drop_zero]
      repeat (first | go_big_quiet_skip | (go_big_quiet_want; go_big_quiet_op; go_big_quiet_on))
      refine wpQuiet_nil ?_
      refine LW.lzy _ (by rfl) (by rfl) ?_ ?_
      ·
       intro yL _
       unfold lzAt
       go_simp
       have hS := pl_Size yL.w (some ⟨b, off, none⟩) rc (l.recs.take q) (HstT.out.below (HBw.out _)) (by rw [Hsz.out]; have := Hszb.out; omega) (hT.below (HBw.out _)) (by rw [HlT.out]; have := Hbd.out.2; omega)
       rw [HlT.out, Hsz.out] at hS
       exact lz_constB hS
      intro r11
      simp only [Act.put, List.setIfInBounds_toArray, List.set_cons_zero, List.set_cons_succ]
      refine LW.lzy _ (by rfl) (by rfl) ?_ ?_
      ·
       intro yL _
       unfold lzAt
       simp only [annK]
       go_simp
       exact lz_opB (pl_next l _ V sz yL.w (Hl0.out.below (HBw.out _)) Hver.out.1 Hver.out.2.2 (by have := Hszb.out; omega) (by have := area_bd Hfit.out; omega) (by have := area_bd Hfit.out; omega) (by have := fitE_zero Hfit.out; omega) (by have := fitE_zero Hfit.out; have := rangedB_true (chk_zero this.1).1; omega))
      intro r12
      simp only [Act.put, List.setIfInBounds_toArray, List.set_cons_zero, List.set_cons_succ]
      refine LW.lzy _ (by rfl) (by rfl) ?_ ?_
      ·
       intro yL hf
       have h5 : SlR (· < yL.w.heap.size) yL.w (r5.x 0) (l.recs.take q) := (hf 5 (by decide +kernel)).get (by rfl) (by rfl)
       have h12 := (hf 12 (by decide +kernel)).get (A := annOpB (nextL l sz) 2) (by rfl) (by rfl)
       obtain ⟨o5, c5, e5, hs5, ht5⟩ := h5
       have e5' : (annSl (l.recs.take q)).f r5 = .slice o5 (l.recs.take q).length c5 := e5
       rw [e5']
       unfold lzAt
       go_simp
       obtain ⟨X, hX⟩ : ∃ X, (match r12.x 0 with | .int _ b => b.toNat | _ => 0) = X := ⟨_, rfl⟩
       have e12 : (annOpB (nextL l sz) 2).f r12 = .slice (some ⟨X, 0, none⟩) (nextL l sz).length 2 := by rw [← hX]; rfl
       have h12' : OpsAt yL.w (some ⟨X, 0, none⟩) (nextL l sz) := by rw [← hX]; exact h12
       rw [e12, show min q l.recs.length = (l.recs.take q).length from List.length_take.symm]
       have hF := pl_finish l _ (l.recs.take q) o5 c5 (nextL l sz) (some ⟨X, 0, none⟩) 2 yL.w (Hl0.out.below (HBw.out _)) hs5 ht5 h12' (by have : (nextL l sz).length = 2 := rfl; omega) (by have := Hver.out; omega) (by have := Hver.out; omega)
       have HF' := HF.out
       rw [Hsz.out] at HF'
       rw [HF'] at hF
       exact lz_le hF
      intro r13
      simp only [Act.put, List.setIfInBounds_toArray, List.set_cons_zero, List.set_cons_succ, annLE]
      refine LW.block 2 16 (by rfl) (by kernel_rfl) (by kernel_rfl) ?_
      simp only [List.take_succ_cons, List.take_zero, List.drop_succ_cons, List.drop_zero]
      repeat (first | go_big_quiet_skip | (go_big_quiet_want; go_big_quiet_op; go_big_quiet_on))
      refine wpQuiet_nil ?_
      refine LW.done ?_
      intro w2 hG
      have hR : LgV w2 (r13.x 0) F := hG.get 13 rfl rfl
      have hG2 := hG.below
      have hR' := hR
      obtain ⟨po2, pc2, co2, cc2, ro2, rc2, e13, _, _, _⟩ := hR
      rw [e13] at hR' ⊢
      have s2 := s1.next hG2
      clear hG c0 l0
      obtain ⟨Wf, hWf⟩ : ∃ Wf, st8 w2 (N + 1) (.int .i64 F.disk.size) (.slice po2 F.disk.pages.length pc2) (.slice co2 F.disk.cache.length cc2) (.int .i64 F.disk.left) (.int .i64 F.frm) (.int .i64 F.til) (.int .i64 F.ver) (.slice ro2 F.recs.length rc2) = Wf := ⟨_, rfl⟩
      obtain ⟨zR, zB, zL⟩ := s2.out hN hR' hWf
      have cX := s2.res.cell
      have lX := s2.res.lt
      have fX := s2.res.free
      have ZB := Lib.hid zB
      have ZL := Lib.hid zL
      have HWf := Lib.hid hWf
      clear zB zL hWf hR' hG2
      refine wpAny_ready (rs := [16]) (by kernel_rfl) (by simp) ?_
      refine AllReady.cons rfl (fun K hK => ?_) AllReady.nil
      go_simp
      refine hK _ _ ?_
      clear hK K
      refine wpAny_ready (rs := [17]) (by kernel_rfl) (by simp) ?_
      refine AllReady.cons rfl (fun K hK => ?_) AllReady.nil
      go_simp
      refine hK _ _ ?_
      clear hK K
      refine wpAny_done (by kernel_rfl) ?_ _
      go_wp2
      have HW := HWf.out
      unfold st8 at HW
      rw [HW]
      have cZ := zR.cell
      refine bodyPost_ret (v := .tuple #[.agg (lgC F.disk po2 co2 pc2 cc2 F.frm F.til F.ver ro2 F.recs.length rc2), .int .i64 er]) (by simp [results, Tryd.results20, go_sem, cZ]) rfl ?_
      rw [HRR.out]
      exact ⟨_, rfl, ZL.out, ZB.out⟩
     ·
      have HRR : Hid (R = (zeroL, 17)) := Lib.hid (by
       have e1 := of_decide_eq_false g1
       have e2 := of_decide_eq_false g2
       have e3 : n ≠ l.recs.length := by simpa using g3
       rw [Hcf.out (by omega) e3, if_pos (of_decide_eq_true g4)])
      obtain ⟨er0, her⟩ : ∃ er : Int, er = 17 := ⟨17, rfl⟩
      have Her := Lib.hid her
      rw [← her] at HRR
      clear her
      go_enter Tryd.func20, Tryd.ntmps20
      go_wp2_with fail
      refine Hv.out.mono ?_
      rintro e w1 ⟨rfl, hb1⟩
      have s1 := s0.next hb1
      clear c0 l0 hW0 hb1
      have c0 := s1.box.cell
      have l0 := s1.box.lt
      obtain ⟨Wf, hWf⟩ : ∃ Wf, st8 w1 (N + 1) (.int .i64 0) (.slice none 0 0) (.slice none 0 0) (.int .i64 0) (.int .i64 0) (.int .i64 0) (.int .i64 0) (.slice none 0 0) = Wf := ⟨_, rfl⟩
      obtain ⟨zR, zB⟩ := s1.outZ hN hWf
      have cX := s1.res.cell
      have lX := s1.res.lt
      have fX := s1.res.free
      have ZB := Lib.hid zB
      have HWf := Lib.hid hWf
      clear zB hWf
      go_wp2
      have HW := HWf.out
      unfold st8 at HW
      rw [HW]
      have cZ := zR.cell
      refine bodyPost_ret (v := .tuple #[.agg lgZ, .int .i64 er0]) (by simp [results, Tryd.results20, go_sem, cZ, Her.out]) rfl ?_
      rw [HRR.out]
      exact ⟨_, rfl, LgV.zero _, ZB.out⟩
    ·
     have HRR : Hid (R = (l, 0)) := Lib.hid (by
      have e1 := of_decide_eq_false g1
      have e2 := of_decide_eq_false g2
      have e3 : n = l.recs.length := by simpa using g3
      rw [Hc0.out, if_neg (by omega), if_pos e3])
     go_enter Tryd.func20, Tryd.ntmps20
     go_wp2_with fail
     refine Hv.out.mono ?_
     rintro e w1 ⟨rfl, hb1⟩
     have s1 := s0.next hb1
     clear c0 l0 hW0 hb1
     have c0 := s1.box.cell
     have l0 := s1.box.lt
     obtain ⟨Wf, hWf⟩ : ∃ Wf, st8 w1 (N + 1) (.int .i64 l.disk.size) (.slice po l.disk.pages.length pc) (.slice co l.disk.cache.length cc) (.int .i64 l.disk.left) (.int .i64 l.frm) (.int .i64 l.til) (.int .i64 l.ver) (.slice ro l.recs.length rc) = Wf := ⟨_, rfl⟩
     obtain ⟨zR, zB, zL⟩ := s1.out hN s1.val hWf
     have cX := s1.res.cell
     have lX := s1.res.lt
     have fX := s1.res.free
     have ZB := Lib.hid zB
     have ZL := Lib.hid zL
     have HWf := Lib.hid hWf
     clear zB zL hWf
     go_wp2
     have HW := HWf.out
     unfold st8 at HW
     rw [HW]
     have cZ := zR.cell
     refine bodyPost_ret (v := .tuple #[.agg (lgC l.disk po co pc cc l.frm l.til l.ver ro l.recs.length rc), .int .i64 0]) (by simp [results, Tryd.results20, go_sem, cZ]) rfl ?_
     rw [HRR.out]
     exact ⟨_, rfl, ZL.out, ZB.out⟩
   ·
    obtain ⟨er0, her⟩ : ∃ er : Int, er = 2 := ⟨2, rfl⟩
    have Her := Lib.hid her
    have HRR : Hid (R = (zeroL, er0)) := Lib.hid (by rw [Hc0.out, if_pos (.inr (of_decide_eq_true g2)), her])
    clear her
    go_enter Tryd.func20, Tryd.ntmps20
    go_wp2_with fail
    refine Hv.out.mono ?_
    rintro e w1 ⟨rfl, hb1⟩
    have s1 := s0.next hb1
    clear c0 l0 hW0 hb1
    have c0 := s1.box.cell
    have l0 := s1.box.lt
    obtain ⟨Wf, hWf⟩ : ∃ Wf, st8 w1 (N + 1) (.int .i64 0) (.slice none 0 0) (.slice none 0 0) (.int .i64 0) (.int .i64 0) (.int .i64 0) (.int .i64 0) (.slice none 0 0) = Wf := ⟨_, rfl⟩
    obtain ⟨zR, zB⟩ := s1.outZ hN hWf
    have cX := s1.res.cell
    have lX := s1.res.lt
    have fX := s1.res.free
    have ZB := Lib.hid zB
    have HWf := Lib.hid hWf
    clear zB hWf
    go_wp2
    have HW := HWf.out
    unfold st8 at HW
    rw [HW]
    have cZ := zR.cell
    refine bodyPost_ret (v := .tuple #[.agg lgZ, .int .i64 er0]) (by simp [results, Tryd.results20, go_sem, cZ, Her.out]) rfl ?_
    rw [HRR.out]
    exact ⟨_, rfl, LgV.zero _, ZB.out⟩
  ·
   obtain ⟨er0, her⟩ : ∃ er : Int, er = 2 := ⟨2, rfl⟩
   have Her := Lib.hid her
   have HRR : Hid (R = (zeroL, er0)) := Lib.hid (by rw [Hc0.out, if_pos (.inl (of_decide_eq_true g1)), her])
   clear her
   go_enter Tryd.func20, Tryd.ntmps20
   go_wp2_with fail
   refine Hv.out.mono ?_
   rintro e w1 ⟨rfl, hb1⟩
   have s1 := s0.next hb1
   clear c0 l0 hW0 hb1
   have c0 := s1.box.cell
   have l0 := s1.box.lt
   obtain ⟨Wf, hWf⟩ : ∃ Wf, st8 w1 (N + 1) (.int .i64 0) (.slice none 0 0) (.slice none 0 0) (.int .i64 0) (.int .i64 0) (.int .i64 0) (.int .i64 0) (.slice none 0 0) = Wf := ⟨_, rfl⟩
   obtain ⟨zR, zB⟩ := s1.outZ hN hWf
   have cX := s1.res.cell
   have lX := s1.res.lt
   have fX := s1.res.free
   have ZB := Lib.hid zB
   have HWf := Lib.hid hWf
   clear zB hWf
   go_wp2
   have HW := HWf.out
   unfold st8 at HW
   rw [HW]
   have cZ := zR.cell
   refine bodyPost_ret (v := .tuple #[.agg lgZ, .int .i64 er0]) (by simp [results, Tryd.results20, go_sem, cZ, Her.out]) rfl ?_
   rw [HRR.out]
   exact ⟨_, rfl, LgV.zero _, ZB.out⟩
end Go.Proofs.YtghikgjknhjjgaaDoor
