/- csexp.reader's next, length, sexp: an atom is read; a list ends in an error or is one. Lazy, from the operation k on: what stands ahead of it has yielded already. csexp.reader.sexp of whatever: it ends in an error, or reads on; what begins with a parenthesis is a list. -/
import Derived.Test.YtghikgjknhjjgaaGreatDoorQ07
import Derived.Defers
import Derived.Recover
import Derived.WalkLawsBesides
import Derived.StillTailTactics
import Derived.Test.YtghikgjknhjjgaaGreatDoorQ06
namespace Go.Proofs.YtghikgjknhjjgaaGreatDoor
set_option maxRecDepth 100000
open Go.RowKit
/-- the reader's block -/
def RdB (w : World) (b : Nat) (s : ByteArray) (k n : Int) : Prop := Bx w b #[.string s, .int .i64 k, .int .i64 n] 148
def failV (er : Int) : Value := .iface 144 (.agg #[.int .i64 er])
def FailsW (w : World) (e : Ending) (w' : World) : Prop := ∃ er : Int, er ≠ 0 ∧ e = .panicked [{ v := failV er, recovered := false }] ∧ Below w.heap.size w w'
set_option maxHeartbeats 1000000 in
theorem cs_next_ok (w : World) (b : Nat) (s : ByteArray) (k : Nat) (n : Int) (h : RdB w b s k n) (hk : k < s.size) :
  Calls Tryz.prog 111 #[.pointer (some ⟨b, 0, none⟩)] w fun e w' => e = .returned (.int .u8 (s[k].toNat : Int)) ∧ Below w.heap.size w w' := by
 have cX : w.cell? ⟨b, 0, none⟩ = some (.string s) := h.cell 0
 have cY : w.cell? ⟨b, 1, none⟩ = some (.int .i64 k) := h.cell 1
 go_enter Tryz.func111, Tryz.ntmps111
 go_wp2_with fail
 go_quiet (fail)
 go_wp2_with fail
 go_quiet (fail)
 go_wp2
 go_ret
 exact ⟨rfl, Below.drewN (Below.drewN (Below.refl _ _) _) _⟩
set_option maxHeartbeats 1000000 in
theorem cs_next_end (w : World) (b : Nat) (s : ByteArray) (n : Int) (h : RdB w b s s.size n) :
  Calls Tryz.prog 111 #[.pointer (some ⟨b, 0, none⟩)] w (FailsW w) := by
 have cX : w.cell? ⟨b, 0, none⟩ = some (.string s) := h.cell 0
 have cY : w.cell? ⟨b, 1, none⟩ = some (.int .i64 s.size) := h.cell 1
 go_enter Tryz.func111, Tryz.ntmps111
 go_wp2_with fail
 go_quiet (fail)
 go_wp2_with fail
 exact ⟨rfl, 11, by decide, rfl, Below.drewN (Below.refl _ _) _⟩
theorem grown_of_below {w w' : World} (h : Below w.heap.size w w') (row : Option Nat) : w.grownBy w' row := ⟨h.os, h.tape, h.output, h.size, fun k hk _ => h.block k hk⟩
theorem RdB.below {w w' : World} {b : Nat} {s : ByteArray} {k n : Int} (h : RdB w b s k n) (hb : Below w.heap.size w w') : RdB w' b s k n := Bx.belowAll h hb
theorem grown_set {w : World} {b k : Nat} {v : Value} : w.grownBy (w.setCell ⟨b, k, none⟩ v) (some b) :=
 have h := (Below.refl 0 w).setCell (p := ⟨b, k, none⟩) (Nat.zero_le _) v
 ⟨h.os, h.tape, h.output, h.size, fun j _ hj => Below.heap_setCell w ⟨b, k, none⟩ v j (fun e => hj (by rw [e]))⟩
theorem grown_setN {w W : World} {row : Option Nat} (h : w.grownBy W row) {a k : Nat} (ha : w.heap.size ≤ a) (v : Value) : w.grownBy (W.setCell ⟨a, k, none⟩ v) row :=
 have g := (Below.refl 0 W).setCell (p := ⟨a, k, none⟩) (Nat.zero_le _) v
 ⟨g.os.trans h.os, g.tape.trans h.tape, g.output.trans h.output, Nat.le_trans h.size g.size, fun j hj hr => (Below.heap_setCell W ⟨a, k, none⟩ v j (by show j ≠ a; omega)).trans (h.block j hj hr)⟩
/-- where the reader stands -/
def atW (w : World) (b : Nat) : Nat := match w.cell? ⟨b, 1, none⟩ with | some v => (intOf v).toNat | none => 0
theorem RdB.at_ {w : World} {b : Nat} {s : ByteArray} {k : Nat} {n : Int} (h : RdB w b s k n) : atW w b = k := by
 have : w.cell? ⟨b, 1, none⟩ = some (.int .i64 k) := h.cell 1
 unfold atW; rw [this]; rfl
def FailsB (b : Nat) (w : World) (e : Ending) (w' : World) : Prop := ∃ er : Int, er ≠ 0 ∧ e = .panicked [{ v := failV er, recovered := false }] ∧ w.grownBy w' (some b)
def LenB (b : Nat) (s : ByteArray) (nodes : Int) (w : World) : Option (Nat × List UInt8) → Ending → World → Prop
 | some (n, r), e, w' => e = .returned (.int .i64 n) ∧ w.grownBy w' (some b) ∧ RdB w' b s ((s.size - r.length : Nat) : Int) nodes
 | none, e, w' => FailsB b w e w'
theorem drop_cons (s : ByteArray) (k : Nat) (h : k < s.size) : s.data.toList.drop k = s[k] :: s.data.toList.drop (k + 1) := by
 have hk : k < s.data.toList.length := by rw [len_size]; exact h
 rw [List.drop_eq_getElem_cons hk]; rfl
set_option maxHeartbeats 4000000 in
theorem cs_length (w : World) (b : Nat) (s : ByteArray) (k0 : Nat) (nodes : Int) (h : RdB w b s k0 nodes) (hk0 : k0 ≤ s.size) (hs : s.size ≤ 140737488351232) :
  Calls Tryz.prog 112 #[.pointer (some ⟨b, 0, none⟩)] w (LenB b s nodes w (lenP (s.data.toList.drop k0) true 0)) := by
 obtain ⟨R, hR⟩ : ∃ R, lenP (s.data.toList.drop k0) true 0 = R := ⟨_, rfl⟩
 have HR := Lib.hid hR
 rw [hR]
 clear hR
 go_enter Tryz.func112, Tryz.ntmps112
 go_wp2
 go_loopw [3, 4] (fun n f wr => ∃ (k m : Nat) (fb : Bool), k ≤ s.size ∧ f = .bool fb ∧ n = .int .i64 m ∧ m ≤ 65536 ∧ Hid (lenP (s.data.toList.drop k) fb m = R) ∧ Hid (RdB wr b s k nodes) ∧ w.grownBy wr (some b)) (fun _ _ wr => s.size - atW wr b)
 case atStart => exact ⟨k0, 0, true, hk0, rfl, rfl, by omega, HR, Lib.hid h, World.grownBy.refl _ _⟩
 case round =>
  clear h HR
  obtain ⟨k, m, fb, hk, rfl, rfl, hm, hv, hr, hg⟩ := hrel
  by_cases hlt : k < s.size
  ·
   go_wp2_with fail
   refine (cs_next_ok wr b s k nodes hr.out hlt).mono ?_
   rintro e w1 ⟨rfl, hb1⟩
   have hr1 := Lib.hid (hr.out.below hb1)
   have hg1 := hg.trans (grown_of_below hb1 (some b))
   have hlb : b < w1.heap.size := Bx.lt hr1.out
   have cY : w1.cell? ⟨b, 1, none⟩ = some (.int .i64 k) := Bx.cell hr1.out 1
   have fY : w1.frozen? ⟨b, 1, none⟩ = false := Bx.free hr1.out 1
   have hx : RdB (w1.setCell ⟨b, 1, none⟩ (.int .i64 ((k + 1 : Nat) : Int))) b s ((k + 1 : Nat) : Int) nodes := Bx.set hr1.out 1 _
   have hx := Lib.hid hx
   have hgs : w.grownBy (w1.setCell ⟨b, 1, none⟩ (.int .i64 ((k + 1 : Nat) : Int))) (some b) := hg1.trans grown_set
   have hgs := Lib.hid hgs
   have hgf := Lib.hid hg1
   have hdr := Lib.hid (drop_cons s k hlt)
   obtain ⟨c, hc⟩ : ∃ c, s[k] = c := ⟨_, rfl⟩
   have hcb := c.toNat_lt
   rw [hc] at hdr ⊢
   rw [hdr.out] at hv
   clear hc hdr hb1 hg hg1
   have hv := Lib.hid hv.out
   have hfail : R = none → ∀ (er : Int), er ≠ 0 → bodyPost Tryz.prog Tryz.f112 (LenB b s nodes w R) (Exit.panic [{ v := failV er, recovered := false }]) { tmps := #[], defers := [] } w1 := fun h er her => ⟨rfl, by rw [h]; exact ⟨er, her, rfl, hgf.out⟩⟩
   have hfail := Lib.hid hfail
   cases e58 : decide (c.toNat = 58)
   ·
    have n58 := of_decide_eq_false e58
    have n58' : ((c.toNat : Int) == 58) = false := by rw [beq_eq_false_iff_ne]; omega
    have u58 : ¬ c = 58 := fun e => n58 (by rw [e]; rfl)
    rw [lenP, if_neg (fun h => u58 h.1)] at hv
    cases e48 : decide ((c.toNat : Int) < 48)
    ·
     have n48 := of_decide_eq_false e48
     cases e57 : decide (57 < (c.toNat : Int))
     ·
      have n57 := of_decide_eq_false e57
      have hw8 : ((c.toNat : Int) - 48) % 256 = (c.toNat : Int) - 48 := by omega
      obtain ⟨D, hD⟩ : ∃ D : Nat, c.toNat = 48 + D := ⟨c.toNat - 48, by omega⟩
      have hD9 : D ≤ 9 := by omega
      have hDi : (c.toNat : Int) - 48 = (D : Int) := by omega
      have hD48 : c.toNat - 48 = D := by omega
      rw [hD48] at hv
      clear hw8
      cases fb
      ·
       cases e0 : decide (m = 0)
       ·
        have n0 := of_decide_eq_false e0
        have n0' : ((m : Int) == 0) = false := by rw [beq_eq_false_iff_ne]; omega
        rw [if_neg (by omega)] at hv
        cases e6 : decide (65536 < 10 * m + D)
        ·
         have n6 := of_decide_eq_false e6
         rw [if_neg n6] at hv
         go_wp2
         go_roundw
         case rel => exact ⟨k + 1, 10 * m + D, false, by omega, rfl, by go_num, by omega, hv, hx, hgs.out⟩
         case measure =>
          have ha : atW (w1.setCell ⟨b, 1, none⟩ (.int .i64 ((k : Int) + 1))) b = k + 1 := hx.out.at_
          rw [ha, hr.out.at_]; omega
        ·
         have n6 := of_decide_eq_true e6
         rw [if_pos n6] at hv
         go_wp2
         exact hfail.out hv.out.symm 12 (by decide)
       ·
        obtain rfl : m = 0 := of_decide_eq_true e0
        rw [if_pos (Or.inr (Or.inr ⟨rfl, rfl⟩))] at hv
        go_wp2
        exact hfail.out hv.out.symm 12 (by decide)
      ·
       rw [if_neg (by simp; omega)] at hv
       cases e6 : decide (65536 < 10 * m + D)
       ·
        have n6 := of_decide_eq_false e6
        rw [if_neg n6] at hv
        go_wp2
        go_roundw
        case rel => exact ⟨k + 1, 10 * m + D, false, by omega, rfl, by go_num, by omega, hv, hx, hgs.out⟩
        case measure =>
         have ha : atW (w1.setCell ⟨b, 1, none⟩ (.int .i64 ((k : Int) + 1))) b = k + 1 := hx.out.at_
         rw [ha, hr.out.at_]; omega
       ·
        have n6 := of_decide_eq_true e6
        rw [if_pos n6] at hv
        go_wp2
        exact hfail.out hv.out.symm 12 (by decide)
     ·
      have n57 := of_decide_eq_true e57
      rw [if_pos (by omega)] at hv
      go_wp2
      exact hfail.out hv.out.symm 12 (by decide)
    ·
     have n48 := of_decide_eq_true e48
     rw [if_pos (by omega)] at hv
     go_wp2
     exact hfail.out hv.out.symm 12 (by decide)
   ·
    obtain rfl : c = 58 := by
     have := of_decide_eq_true e58
     exact UInt8.toNat_inj.1 this
    cases fb
    ·
     rw [lenP, if_pos ⟨rfl, rfl⟩] at hv
     go_wp2
     go_ret
     rw [← hv.out]
     refine ⟨rfl, hgs.out, ?_⟩
     rw [show s.size - (s.data.toList.drop (k + 1)).length = k + 1 by rw [List.length_drop, len_size]; omega]
     exact hx.out
    ·
     rw [lenP, if_neg (by simp), if_pos (Or.inr (Or.inl (by decide)))] at hv
     go_wp2
     exact hfail.out hv.out.symm 12 (by decide)
  ·
   obtain rfl : k = s.size := by omega
   go_wp2_with fail
   refine (cs_next_end wr b s nodes hr.out).mono ?_
   rintro e w1 ⟨er, her, rfl, hb1⟩
   go_wp2
   refine ⟨rfl, ?_⟩
   rw [show s.data.toList.drop s.size = [] by rw [List.drop_eq_nil_iff, len_size]; exact Nat.le_refl _, lenP] at hv
   rw [← hv.out]
   exact ⟨er, her, rfl, hg.trans (grown_of_below hb1 (some b))⟩
theorem lenP_suffix : ∀ (L : List UInt8) (f : Bool) (m : Nat) {n : Nat} {r : List UInt8}, lenP L f m = some (n, r) → ∃ j, j ≤ L.length ∧ 1 ≤ j ∧ r = L.drop j
 | [], f, m, n, r, h => by simp [lenP] at h
 | c :: L, f, m, n, r, h => by
  rw [lenP] at h
  split at h
  ·
   simp only [Option.some.injEq, Prod.mk.injEq] at h
   exact ⟨1, by simp, by omega, by simp [h.2]⟩
  ·
   split at h
   ·
    cases h
   ·
    split at h
    ·
     cases h
    ·
     obtain ⟨j, h1, h2, h3⟩ := lenP_suffix L _ _ h
     exact ⟨j + 1, by simpa using h1, by omega, by simpa using h3⟩
/-- what reading a node ends in, where it is an atom -/
def AtomB (b : Nat) (s : ByteArray) (k : Nat) (nodes : Int) (w : World) : Option (List UInt8 × Nat) → Ending → World → Prop
 | some (a, n), e, w' => e = .returned (.agg #[.bool false, .string (bs a), .slice none 0 0]) ∧ w.grownBy w' (some b) ∧ RdB w' b s ((k + n : Nat) : Int) (nodes + 1)
 | none, e, w' => FailsB b w e w'
set_option maxHeartbeats 4000000 in
theorem cs_atom (w : World) (b : Nat) (s : ByteArray) (k : Nat) (nodes level : Int) (h : RdB w b s k nodes) (hk : k < s.size) (hs : s.size ≤ 140737488351232) (hn0 : 0 ≤ nodes) (hn : nodes < 20000) (hl : level ≤ 12) (hc : s[k] ≠ 40) :
  Calls Tryz.prog 104 #[.pointer (some ⟨b, 0, none⟩), .int .i64 level] w (AtomB b s k nodes w (atomP (s.data.toList.drop k))) := by
 obtain ⟨R, hR⟩ : ∃ R, atomP (s.data.toList.drop k) = R := ⟨_, rfl⟩
 have HR := Lib.hid hR
 rw [hR]
 clear hR
 have hlt0 : b < w.heap.size := Bx.lt h
 go_enter Tryz.func104, Tryz.ntmps104
 go_wp2_with fail
 refine (cs_next_ok _ b s k nodes (h.below (Below.one _ _)) hk).mono ?_
 rintro e w1 ⟨rfl, hb1⟩
 have hB1 := btr (Below.one _ _) hb1
 have hr1 := Lib.hid (h.below hB1)
 have xV := (Bx.new w _ _).belowAll hb1
 have hlb : b < w1.heap.size := Bx.lt hr1.out
 have cN : w1.cell? ⟨b, 2, none⟩ = some (.int .i64 nodes) := Bx.cell hr1.out 2
 have fN : w1.frozen? ⟨b, 2, none⟩ = false := Bx.free hr1.out 2
 have hr2 : RdB (w1.setCell ⟨b, 2, none⟩ (.int .i64 (nodes + 1))) b s k (nodes + 1) := Bx.set hr1.out 2 _
 have hr2 := Lib.hid hr2
 have hc' : ((s[k].toNat : Int) != 40) = true := by
  rw [bne_iff_ne]
  intro e
  exact hc (UInt8.toNat_inj.1 (by show s[k].toNat = 40; omega))
 go_wp2_with fail
 have hL := cs_length _ b s k (nodes + 1) hr2.out (by omega) hs
 have hg2 : w.grownBy (w1.setCell ⟨b, 2, none⟩ (.int .i64 (nodes + 1))) (some b) := (grown_of_below hB1 (some b)).trans grown_set
 have hg2 := Lib.hid hg2
 have xV2 : Bx (w1.setCell ⟨b, 2, none⟩ (.int .i64 (nodes + 1))) w.heap.size #[.bool false, .string .empty, .slice none 0 0] 123 := Bx.setO xV (a := ⟨b, 2, none⟩) (by simp; omega) _
 have xV2 := Lib.hid xV2
 generalize hW : (w1.setCell ⟨b, 2, none⟩ (.int .i64 (nodes + 1))) = W2 at *
 clear hW xV cN fN hr1 hr2 hB1 hb1 h hlb
 have hzV : w.heap.size < W2.heap.size := Bx.lt xV2.out
 cases hl : lenP (s.data.toList.drop k) true 0 with
 | none =>
  rw [hl] at hL
  refine hL.mono ?_
  rintro e w3 ⟨er, her, rfl, hg3⟩
  have : R = none := by rw [← HR.out]; unfold atomP; rw [hl]
  rw [this]
  exact ⟨rfl, er, her, rfl, hg2.out.trans hg3⟩
 | some q =>
  obtain ⟨n, r⟩ := q
  rw [hl] at hL
  refine hL.mono ?_
  rintro e w3 ⟨rfl, hg3, hr3⟩
  obtain ⟨j, hj1, hj2, rfl⟩ := lenP_suffix _ _ _ hl
  rw [List.length_drop, len_size] at hj1
  have hrl : ((s.data.toList.drop k).drop j).length = s.size - (k + j) := by rw [List.length_drop, List.length_drop, len_size]; omega
  rw [hrl, show s.size - (s.size - (k + j)) = k + j by omega] at hr3
  have hRv : R = if s.size - (k + j) < n then none else some (((s.data.toList.drop (k + j))).take n, j + n) := by
   rw [← HR.out]; unfold atomP; rw [hl]
   simp only [hrl]
   rw [List.length_drop, len_size, List.drop_drop, show s.size - k - (s.size - (k + j)) + n = j + n by omega]
  have HRv := Lib.hid hRv
  obtain ⟨q, hq⟩ : ∃ q, k + j = q := ⟨_, rfl⟩
  rw [hq] at hr3 HRv
  have hqs : q ≤ s.size := by omega
  have Hq := Lib.hid hq
  have hg3' := Lib.hid (hg2.out.trans hg3)
  have xV3 := Lib.hid (Bx.grown xV2.out hg3 (by simp; omega))
  have hr3 := Lib.hid hr3
  have hz3 := hg3.size
  clear hRv hq hl hrl hL HR hg3 xV2 hg2
  have cX : w3.cell? ⟨b, 0, none⟩ = some (.string s) := Bx.cell hr3.out 0
  have cY : w3.cell? ⟨b, 1, none⟩ = some (.int .i64 q) := Bx.cell hr3.out 1
  have fY : w3.frozen? ⟨b, 1, none⟩ = false := Bx.free hr3.out 1
  have hlb : b < w3.heap.size := Bx.lt hr3.out
  cases hlt : decide ((s.size : Int) - q < n)
  ·
   have hlt' := of_decide_eq_false hlt
   go_wp2_with fail
   go_quiet (fail)
   have xV4 : Bx ((w3.drewN nq).setCell ⟨b, 1, none⟩ (.int .i64 ((q + n : Nat) : Int))) w.heap.size #[.bool false, .string .empty, .slice none 0 0] 123 := Bx.setO (xV3.out.drewN nq) (a := ⟨b, 1, none⟩) (by simp; omega) _
   have hr5 : RdB ((w3.drewN nq).setCell ⟨b, 1, none⟩ (.int .i64 ((q + n : Nat) : Int))) b s ((q + n : Nat) : Int) (nodes + 1) := Bx.set (Bx.drewN hr3.out nq) 1 _
   have hg5 : w.grownBy ((w3.drewN nq).setCell ⟨b, 1, none⟩ (.int .i64 ((q + n : Nat) : Int))) (some b) := (hg3'.out.trans (grown_of_below (Below.drewN (Below.refl _ _) nq) _)).trans grown_set
   obtain ⟨p, hp⟩ : ∃ p : Nat, q + n = p := ⟨_, rfl⟩
   have hpi : (q : Int) + (n : Int) = (p : Int) := by omega
   rw [hp] at hr5 hg5 xV4
   have hpq : (p : Int) - (n : Int) = (q : Int) := by omega
   have hps : p ≤ s.size := by omega
   have hqp : q ≤ p := by omega
   go_wp2_with fail
   clear cX cY fY hlb
   have hr5 := Lib.hid hr5
   have hg5 := Lib.hid hg5
   have xV4 := Lib.hid xV4
   generalize hW : ((w3.drewN nq).setCell ⟨b, 1, none⟩ (.int .i64 (p : Int))) = W5 at *
   clear hW
   have cX : W5.cell? ⟨b, 0, none⟩ = some (.string s) := Bx.cell hr5.out 0
   have cY : W5.cell? ⟨b, 1, none⟩ = some (.int .i64 p) := Bx.cell hr5.out 1
   have i1 : (q : Int) ≤ (p : Int) := by omega
   have i0 : IntKind.i64.wrap (q : Int) = q := IntWalk.i64_in _ (by omega)
   have i2 : (p : Int) ≤ (s.size : Int) := by omega
   go_still_tail 15, (by kernel_rfl)
   clear i0
   change wpList _ _ _ _ _ W5.drew
   have hr6 : RdB W5.drew b s p (nodes + 1) := Bx.drew hr5.out
   have xV6 : Bx W5.drew w.heap.size #[.bool false, .string .empty, .slice none 0 0] 123 := Bx.drew xV4.out
   have hg6 : w.grownBy W5.drew (some b) := hg5.out.trans (grown_of_below (Below.drew (Below.refl _ _)) _)
   have hr6 := Lib.hid hr6
   have hg6 := Lib.hid hg6
   generalize W5.drew = W6 at *
   clear cX cY hr5 hg5 xV4
   have cV := xV6.cell
   have fV := xV6.free
   have lV := xV6.lt
   go_wp2
   refine bodyPost_ret (v := .agg #[.bool false, .string (s.extract q p), .slice none 0 0]) (by simp [results, Tryz.results104, go_sem, cV]) rfl ?_
   have hRs : R = some ((s.data.toList.drop q).take n, j + n) := by rw [HRv.out, if_neg (by omega)]
   rw [hRs]
   refine ⟨?_, grown_setN (grown_setN (grown_setN hg6.out (Nat.le_refl _) _) (Nat.le_refl _) _) (Nat.le_refl _) _, ?_⟩
   ·
    rw [show s.extract q p = bs ((s.data.toList.drop q).take n) by rw [show n = p - q by omega, ← bs_cut, bs_of]]
   ·
    have hne : b ≠ w.heap.size := by omega
    rw [show k + (j + n) = p by have := Hq.out; omega]
    exact Bx.setO (Bx.setO (Bx.setO hr6.out (a := ⟨w.heap.size, 0, none⟩) hne _) (a := ⟨w.heap.size, 1, none⟩) hne _) (a := ⟨w.heap.size, 2, none⟩) hne _
  ·
   have hlt' := of_decide_eq_true hlt
   go_wp2_with fail
   go_quiet (fail)
   go_wp2
   have : R = none := by rw [HRv.out, if_pos (by omega)]
   rw [this]
   exact ⟨rfl, 11, by decide, rfl, hg3'.out.trans (grown_of_below (Below.drewN (Below.refl _ _) _) _)⟩
end Go.Proofs.YtghikgjknhjjgaaGreatDoor
namespace Go.Proofs.YtghikgjknhjjgaaGreatDoor
set_option maxRecDepth 100000
open Go.RowKit
section
variable {P : Program} {ops : Array Oper} {md : Region.Mode} {W0 : World} {an : Anns}
end
end Go.Proofs.YtghikgjknhjjgaaGreatDoor
namespace Go.Proofs.YtghikgjknhjjgaaGreatDoor
set_option maxRecDepth 100000
open Go.RowKit
section
variable {P : Program} {md : Region.Mode} {Q : Exit → Act → World → Prop} {a : Act} {w : World}
theorem wp_region_startP {id : Nat} {l : List Oper} (listed : Array Bool) (fuel : Nat) (hm : P.follows .mixedOrders = true) (hl : Array.replicate l.length false = listed) (hf : l.length = fuel) (h : wpAny P .any l.toArray Q fuel listed a w.drew) : (Code.region id l.toArray true).wp P Q a w := by
 refine wp_region_any hm ?_
 have e : l.toArray.size = fuel := by simpa using hf
 rw [e, ← hf, hl, hf]
 exact h
end
theorem infoSx : (Tryz.prog.info? 123).map (fun i => (i.zero, i.size, i.bytes)) = some (some (.agg #[.bool false, .string .empty, .slice none 0 0]), 3, 48) := by kernel_rfl
theorem atomP_bd {L a : List UInt8} {n : Nat} (h : atomP L = some (a, n)) : 1 ≤ n ∧ n ≤ L.length := by
 unfold atomP at h
 cases hl : lenP L true 0 with
 | none => rw [hl] at h; cases h
 | some q =>
  obtain ⟨m, r⟩ := q
  rw [hl] at h
  obtain ⟨j, h1, h2, rfl⟩ := lenP_suffix _ _ _ hl
  simp only at h
  split at h
  ·
   cases h
  ·
   rename_i hlt
   simp only [Option.some.injEq, Prod.mk.injEq] at h
   rw [List.length_drop] at h hlt
   omega
theorem ownsRow_gb {w w' : World} {base : Nat} {e : TypeId} {size : Nat} {v : Value} {n : Nat} {xs : List Value} {row : Option Nat} (h : w.ownsRow base e size v n xs) (hg : w.grownBy w' row) (hne : ∀ k, v.ownBlock = some k → some k ≠ row) : w'.ownsRow base e size v n xs := by
 refine ⟨h.1, ?_⟩
 have hl := h.lt
 rcases h.2 with hn | ⟨g, cap, cur, rfl, hbg, hg', rest⟩
 ·
  exact .inl hn
 ·
  exact .inr ⟨g, cap, cur, rfl, hbg, (hg.block g (hl g rfl).2 (hne g rfl)).trans hg', rest⟩
theorem ownsRow_slice' {w : World} {base : Nat} {e : TypeId} {size : Nat} {v : Value} {n : Nat} {xs : List Value} (h : w.ownsRow base e size v n xs) : ∃ o c, v = .slice o n c := by
 rcases h.2 with ⟨hv, hn⟩ | ⟨g, cap, cur, hv, _⟩
 ·
  exact ⟨none, 0, by rw [hv, hn]⟩
 ·
  exact ⟨_, _, hv⟩
def GotSx (b : Nat) (s : ByteArray) (k : Nat) (w : World) (e : Ending) (w' : World) : Prop :=
 ∃ (isl : Bool) (atom : ByteArray) (o : Option Addr) (m c k' : Nat) (nodes' : Int), e = .returned (.agg #[.bool isl, .string atom, .slice o m c]) ∧ w.grownBy w' (some b) ∧ RdB w' b s k' nodes' ∧ k < k' ∧ k' ≤ s.size ∧ 0 ≤ nodes' ∧ nodes' ≤ 20000 ∧ ((h : k < s.size) → s[k] = 40 → isl = true)
def AnyB (b : Nat) (s : ByteArray) (k : Nat) (w : World) (e : Ending) (w' : World) : Prop := FailsB b w e w' ∨ GotSx b s k w e w'
set_option maxHeartbeats 8000000 in
theorem cs_any : ∀ (f : Nat) (w : World) (b : Nat) (s : ByteArray) (k : Nat) (nodes level : Int), RdB w b s k nodes → k ≤ s.size → s.size - k ≤ f → s.size ≤ 1000000000 → 0 ≤ nodes → nodes ≤ 20000 → 0 ≤ level → level ≤ 13 →
  Calls Tryz.prog 104 #[.pointer (some ⟨b, 0, none⟩), .int .i64 level] w (AnyB b s k w) := by
 intro f
 induction f with
 | zero =>
  intro w b s k nodes level h hk hf hs hn0 hn hl0 hl
  obtain rfl : k = s.size := by omega
  go_enter Tryz.func104, Tryz.ntmps104
  go_wp2_with fail
  refine (cs_next_end _ b s nodes (h.below (Below.one _ _))).mono ?_
  rintro e w1 ⟨er, her, rfl, hb1⟩
  exact ⟨rfl, .inl ⟨er, her, rfl, grown_of_below (btr (Below.one _ _) hb1) _⟩⟩
 | succ f ih =>
  intro w b s k nodes level h hk hf hs hn0 hn hl0 hl
  by_cases hks : k < s.size
  ·
   have hlt0 : b < w.heap.size := Bx.lt h
   cases hover : (decide (20000 < nodes + 1) || decide (12 < level))
   ·
    have hn1 : nodes < 20000 := by simp at hover; omega
    have hl1 : level ≤ 12 := by simp at hover; omega
    by_cases hc : s[k] = 40
    ·
     obtain ⟨i0, hi, iz0, iz1, iz2⟩ := info_parts infoSx
     go_enter Tryz.func104, Tryz.ntmps104
     have hnx := cs_next_ok (w.alloc (.cells #[.bool false, .string .empty, .slice none 0 0] 123)) b s k nodes (h.below (Below.one _ _)) hks
     rw [hc] at hnx
     go_wp2_with fail
     refine hnx.mono ?_
     rintro e w1 ⟨rfl, hb1⟩
     have hB1 := btr (Below.one _ _) hb1
     have hr1 := h.below hB1
     have hlb : b < w1.heap.size := Bx.lt hr1
     have cN : w1.cell? ⟨b, 2, none⟩ = some (.int .i64 nodes) := Bx.cell hr1 2
     have fN : w1.frozen? ⟨b, 2, none⟩ = false := Bx.free hr1 2
     have cK : w1.cell? ⟨b, 1, none⟩ = some (.int .i64 k) := Bx.cell hr1 1
     have fK : w1.frozen? ⟨b, 1, none⟩ = false := Bx.free hr1 1
     have z1 := hb1.size
     go_wp2_with fail
     have hob : Bx (((w1.setCell ⟨b, 2, none⟩ (.int .i64 (nodes + 1))).setCell ⟨b, 1, none⟩ (.int .i64 ((k : Int) + 1))).alloc (.cells #[.bool true, .string ⟨#[]⟩, .slice none 0 0] 123)) w1.heap.size #[.bool true, .string ⟨#[]⟩, .slice none 0 0] 123 := Bx.newAt _ _ _ _ (by simp)
     have hrv : Bx (((w1.setCell ⟨b, 2, none⟩ (.int .i64 (nodes + 1))).setCell ⟨b, 1, none⟩ (.int .i64 ((k : Int) + 1))).alloc (.cells #[.bool true, .string ⟨#[]⟩, .slice none 0 0] 123)) w.heap.size #[.bool false, .string .empty, .slice none 0 0] 123 := ((((Bx.new w _ _).belowAll hb1).setO (a := ⟨b, 2, none⟩) (by simp; omega) _).setO (a := ⟨b, 1, none⟩) (by simp; omega) _).alloc _
     have hrd : RdB (((w1.setCell ⟨b, 2, none⟩ (.int .i64 (nodes + 1))).setCell ⟨b, 1, none⟩ (.int .i64 ((k : Int) + 1))).alloc (.cells #[.bool true, .string ⟨#[]⟩, .slice none 0 0] 123)) b s ((k + 1 : Nat) : Int) (nodes + 1) := Bx.alloc (Bx.set (Bx.set hr1 2 (.int .i64 (nodes + 1))) 1 (.int .i64 ((k : Int) + 1))) _
     have hgr : w.grownBy (((w1.setCell ⟨b, 2, none⟩ (.int .i64 (nodes + 1))).setCell ⟨b, 1, none⟩ (.int .i64 ((k : Int) + 1))).alloc (.cells #[.bool true, .string ⟨#[]⟩, .slice none 0 0] 123)) (some b) := (((grown_of_below hB1 _).trans grown_set).trans grown_set).trans (World.grownBy_alloc _ _ _)
     obtain ⟨N, hN⟩ : ∃ N, w1.heap.size = N := ⟨_, rfl⟩
     rw [hN] at hob ⊢
     have hwN : w.heap.size < N := by rw [← hN]; have := hb1.size; simp at this; omega
     have hbN : b < N := by omega
     generalize hW0 : (((w1.setCell ⟨b, 2, none⟩ (.int .i64 (nodes + 1))).setCell ⟨b, 1, none⟩ (.int .i64 ((k : Int) + 1))).alloc (.cells #[.bool true, .string ⟨#[]⟩, .slice none 0 0] 123)) = W0 at *
     have hNz : N < W0.heap.size := hob.lt
     have Hih := Lib.hid ih
     have Hi := Lib.hid (And.intro hi (And.intro iz0 (And.intro iz1 iz2)))
     clear hW0 hN cN fN cK fK hr1 hB1 hb1 z1 hlb hnx h ih hi iz0 iz1 iz2
     go_loopw [79] (fun _ wr => ∃ (k1 : Nat) (n1 : Int) (o : Option Addr) (m c : Nat) (xs : List Value), k < k1 ∧ k1 ≤ s.size ∧ 0 ≤ n1 ∧ n1 ≤ 20000 ∧ m ≤ k1 ∧ Hid (RdB wr b s k1 n1) ∧ Hid (Bx wr N #[.bool true, .string ⟨#[]⟩, .slice o m c] 123) ∧ Hid (Bx wr w.heap.size #[.bool false, .string .empty, .slice none 0 0] 123) ∧
      Hid (wr.ownsRow (N + 1) 123 3 (.slice o m c) m xs ∧ ∀ x ∈ xs, x.oneCell' = true) ∧ Hid (w.grownBy wr (some b))) (fun _ wr => s.size - atW wr b)
     case atStart => exact ⟨k + 1, nodes + 1, none, 0, 0, [], by omega, by omega, by omega, by omega, by omega, Lib.hid hrd, Lib.hid hob, Lib.hid hrv, Lib.hid ⟨World.ownsRow_nil _ _ _ _, by simp⟩, Lib.hid hgr⟩
     case round =>
      clear hob hrv hrd hgr
      obtain ⟨k1, n1, o, m, c, xs, hk1, hk1s, hn1', hn2', hm, hr, hob, hrv, hown, hg⟩ := hrel
      by_cases hlt : k1 < s.size
      ·
       have hnx := cs_next_ok wr b s k1 n1 hr.out hlt
       by_cases hc1 : s[k1] = 41
       ·
        rw [hc1] at hnx
        go_wp2_with fail
        refine hnx.mono ?_
        rintro e w2 ⟨rfl, hb2⟩
        have hr2 := Lib.hid (hr.out.below hb2)
        have hob2 := hob.out.belowAll hb2
        have hrv2 := hrv.out.belowAll hb2
        have hg2 := Lib.hid (hg.out.trans (grown_of_below hb2 (some b)))
        clear hnx hb2 hob hrv hown hg hr
        have cK : w2.cell? ⟨b, 1, none⟩ = some (.int .i64 k1) := Bx.cell hr2.out 1
        have fK : w2.frozen? ⟨b, 1, none⟩ = false := Bx.free hr2.out 1
        have hlb : b < w2.heap.size := Bx.lt hr2.out
        have cO := hob2.cell
        have cV := hrv2.cell
        have fV := hrv2.free
        have lV := hrv2.lt
        have lO := hob2.lt
        have nb1 : ¬ (b = N) := by omega
        have nb2 : ¬ (b = w.heap.size) := by omega
        have nb3 : ¬ (w.heap.size = N) := by omega
        go_wp2
        refine bodyPost_ret (v := .agg #[.bool true, .string ⟨#[]⟩, .slice o m c]) (by simp [results, Tryz.results104, go_sem, cV]) rfl (.inr ⟨true, ⟨#[]⟩, o, m, c, k1 + 1, n1, rfl, ?_, ?_, by omega, by omega, hn1', hn2', fun _ _ => rfl⟩)
        ·
         exact grown_setN (grown_setN (grown_setN (hg2.out.trans grown_set) (Nat.le_refl _) _) (Nat.le_refl _) _) (Nat.le_refl _) _
        ·
         exact Bx.setO (Bx.setO (Bx.setO (Bx.set hr2.out 1 (.int .i64 ((k1 : Int) + 1))) (a := ⟨w.heap.size, 0, none⟩) nb2 _) (a := ⟨w.heap.size, 1, none⟩) nb2 _) (a := ⟨w.heap.size, 2, none⟩) nb2 _
       ·
        have hne : ((s[k1].toNat : Int) != 41) = true := by
         rw [bne_iff_ne]
         intro e
         exact hc1 (UInt8.toNat_inj.1 (by show s[k1].toNat = 41; omega))
        obtain ⟨ch, hch⟩ : ∃ ch : Int, (s[k1].toNat : Int) = ch := ⟨_, rfl⟩
        rw [hch] at hnx hne
        go_wp2_with fail
        refine hnx.mono ?_
        rintro e w2 ⟨rfl, hb2⟩
        have hr2 := Lib.hid (hr.out.below hb2)
        have hob2 := Lib.hid (hob.out.belowAll hb2)
        have hrv2 := Lib.hid (hrv.out.belowAll hb2)
        have hown2 := Lib.hid (And.intro (ownsRow_belowAll hown.out.1 hb2) hown.out.2)
        have hg2 := Lib.hid (hg.out.trans (grown_of_below hb2 (some b)))
        clear hnx hb2 hob hrv hown hg hch
        go_wp2_with fail
        refine wp_region_startP #[false, false, false, false, false, false, false, false, false, false] 10 (by kernel_rfl) (by rfl) rfl ?_
        have hr3 : Hid (RdB w2.drew b s k1 n1) := Lib.hid (Bx.drew hr2.out)
        have hob3 : Hid (Bx w2.drew N #[.bool true, .string ⟨#[]⟩, .slice o m c] 123) := Lib.hid (Bx.drew hob2.out)
        have hrv3 : Hid (Bx w2.drew w.heap.size #[.bool false, .string .empty, .slice none 0 0] 123) := Lib.hid (Bx.drew hrv2.out)
        have hown3 : Hid (w2.drew.ownsRow (N + 1) 123 3 (.slice o m c) m xs) := Lib.hid hown2.out.1
        have hone := Lib.hid hown2.out.2
        have hg3 : Hid (w.grownBy w2.drew (some b)) := Lib.hid (hg2.out.trans (grown_of_below (Below.drew (Below.refl _ _)) _))
        have hNz2 : N < w2.drew.heap.size := Bx.lt hob3.out
        generalize w2.drew = wd at *
        clear hr2 hob2 hrv2 hown2 hg2
        have hcall := Lib.hid (Hih.out wd b s k1 n1 (level + 1) hr3.out (by omega) (by omega) hs hn1' hn2' (by omega) (by omega))
        refine wpAny_take (i := 0) (v := (.pointer (some ⟨N, 2, none⟩))) rfl (by kernel_rfl) (by kernel_rfl) (by kernel_rfl) (fun _ _ _ h => h) (Or.inl ⟨by rfl, fun w => by first | rfl | (go_simp; try with_reducible rfl)⟩) ?_
        simp only [List.getElem_toArray, List.getElem_cons_zero, Act.put, List.setIfInBounds_toArray, List.set_cons_zero, List.set_cons_succ]
        refine wpAny_take (i := 2) (v := (.pointer (some ⟨b, 0, none⟩))) rfl (by kernel_rfl) (by kernel_rfl) (by kernel_rfl) (fun _ _ _ h => h) (Or.inl ⟨by rfl, fun w => by first | rfl | (go_simp; try with_reducible rfl)⟩) ?_
        simp only [List.getElem_toArray, List.getElem_cons_succ, List.getElem_cons_zero, Act.put, List.setIfInBounds_toArray, List.set_cons_zero, List.set_cons_succ]
        refine wpAny_take (i := 3) (v := (.int .i64 level)) rfl (by kernel_rfl) (by kernel_rfl) (by kernel_rfl) (fun _ _ _ h => h) (Or.inl ⟨by rfl, fun w => by first | rfl | (go_simp; try with_reducible rfl)⟩) ?_
        simp only [List.getElem_toArray, List.getElem_cons_succ, List.getElem_cons_zero, Act.put, List.setIfInBounds_toArray, List.set_cons_zero, List.set_cons_succ]
        have hwl : IntKind.i64.wrap (level + 1) = level + 1 := IntWalk.i64_in _ (by omega)
        refine wpAny_take (i := 4) (v := (.int .i64 (level + 1))) rfl (by kernel_rfl) (by kernel_rfl) (by kernel_rfl) (fun _ _ _ h => h) (Or.inl ⟨by rfl, fun w => by first | rfl | (go_simp; try with_reducible rfl)⟩) ?_
        simp only [List.getElem_toArray, List.getElem_cons_succ, List.getElem_cons_zero, Act.put, List.setIfInBounds_toArray, List.set_cons_zero, List.set_cons_succ]
        clear hwl
        refine wpAny_ready (rs := [1, 5]) (by kernel_rfl) (by simp) ?_
        refine AllReady.cons rfl (fun K hK => ?_) (AllReady.cons rfl (fun K hK => ?_) AllReady.nil)
        ·
         have cO := hob3.out.cell
         go_simp
         refine hK _ _ ?_
         clear hK K cO
         simp only [List.setIfInBounds_toArray, List.set_cons_zero, List.set_cons_succ]
         refine wpAny_ready (rs := [5]) (by kernel_rfl) (by simp) ?_
         refine AllReady.cons rfl (fun K hK => ?_) AllReady.nil
         go_simp
         refine hcall.out.mono ?_
         rintro e w3 (⟨er, her, rfl, hg4⟩ | ⟨isl, at2, o2, m2, c2, k2, n2, rfl, hg4, hr4, hk12, hk2s, hn3, hn4, _⟩)
         ·
          exact ⟨rfl, .inl ⟨er, her, rfl, hg3.out.trans hg4⟩⟩
         refine hK _ _ ?_
         clear hK K
         have hr4 := Lib.hid hr4
         have hob4 := Lib.hid (Bx.grown hob3.out hg4 (by simp; omega))
         have hrv4 := Lib.hid (Bx.grown hrv3.out hg4 (by simp; omega))
         have hown4 := Lib.hid (ownsRow_gb hown3.out hg4 (fun q hq e => by have := (hown3.out.lt q hq).1; simp at e; omega))
         have hg4' := Lib.hid (hg3.out.trans hg4)
         have hz4 : N < w3.heap.size := Bx.lt hob4.out
         clear hg4
         simp only [List.setIfInBounds_toArray, List.set_cons_zero, List.set_cons_succ]
         refine wpAny_ready (rs := [6]) (by kernel_rfl) (by simp) ?_
         refine AllReady.cons rfl (fun K hK => ?_) AllReady.nil
         go_simp
         refine hK _ _ ?_
         clear hK K
         simp only [List.setIfInBounds_toArray, List.set_cons_zero, List.set_cons_succ]
         refine wpAny_ready (rs := [7]) (by kernel_rfl) (by simp) ?_
         refine AllReady.cons rfl (fun K hK => ?_) AllReady.nil
         refine wp_app (.tmp 82) (.tmp 87) 121 rfl (N + 1) 123 i0 _ 3 48 Tryz.underlying121 Hi.out.1 Hi.out.2.1 Hi.out.2.2.1 Hi.out.2.2.2 rfl (by decide) (.slice o m c) m xs rfl (hown4.out.alloc _) (some ⟨w3.heap.size, 0, none⟩) 1 1 [.bool isl, .string at2, .slice o2 m2 c2] rfl (fun h => by cases h) rfl (RowAt.bx (Bx.new w3 _ _)) (by simp [Value.oneCell']) (by unfold maxLen; omega) (by omega) (by simp; omega) ?_
         intro v' w4 hown5 hg5
         refine hK _ _ ?_
         clear hK K
         simp only [Act.put, List.setIfInBounds_toArray, List.set_cons_zero, List.set_cons_succ]
         obtain ⟨o5, c5, rfl⟩ := ownsRow_slice' hown5
         have hne5 : ∀ q, q ≤ N → some q ≠ (Value.slice o m c).ownBlock := fun q hq e => by have := (hown4.out.lt q e.symm).1; omega
         have hr6 := Lib.hid (Bx.grown (Bx.alloc hr4.out _) hg5 (hne5 b (by omega)))
         have hob6 := Bx.grown (Bx.alloc hob4.out _) hg5 (hne5 N (Nat.le_refl _))
         have hrv6 := Lib.hid (Bx.grown (Bx.alloc hrv4.out _) hg5 (hne5 w.heap.size (by omega)))
         have hg6 : w.grownBy w4 (some b) := ⟨hg5.os.trans hg4'.out.os, hg5.tape.trans hg4'.out.tape, hg5.output.trans hg4'.out.output, Nat.le_trans hg4'.out.size (Nat.le_trans (by simp) hg5.size), fun q hq hqb => (hg5.block q (by have := hg4'.out.size; simp; omega) (hne5 q (by omega))).trans ((Below.heap_alloc w3 _ q (by have := hg4'.out.size; omega)).trans (hg4'.out.block q hq hqb))⟩
         have hg6 := Lib.hid hg6
         have hown6 := Lib.hid hown5
         clear hown5 hg5
         have cO := hob6.cell
         have fO := hob6.free
         have lO := hob6.lt
         refine wpAny_ready (rs := [8]) (by kernel_rfl) (by simp) ?_
         refine AllReady.cons rfl (fun K hK => ?_) AllReady.nil
         go_simp
         refine hK _ _ ?_
         clear hK K
         simp only [List.setIfInBounds_toArray, List.set_cons_zero, List.set_cons_succ]
         refine wpAny_ready (rs := [9]) (by kernel_rfl) (by simp) ?_
         refine AllReady.cons rfl (fun K hK => ?_) AllReady.nil
         go_simp
         refine hK _ _ ?_
         clear hK K
         refine wpAny_done (by kernel_rfl) ?_ _
         clear cO fO lO
         go_wp2
         go_roundw
         case rel =>
          refine ⟨k2, n2, o5, m + 1, c5, _, by omega, hk2s, hn3, hn4, by omega, Lib.hid (Bx.setO hr6.out (a := ⟨N, 2, none⟩) (by simp; omega) _), Lib.hid (Bx.set hob6 2 _), Lib.hid (Bx.setO hrv6.out (a := ⟨N, 2, none⟩) (by simp; omega) _), Lib.hid ⟨ownsRow_setB hown6.out (Nat.lt_succ_self N) _, ?_⟩, Lib.hid (grown_setN hg6.out (by omega) _)⟩
          intro x hx
          rcases List.mem_append.1 hx with hx | hx
          ·
           exact hone.out x hx
          ·
           simp at hx; rcases hx with rfl | rfl | rfl <;> rfl
         case measure =>
          have ha : atW _ b = k2 := RdB.at_ (Bx.setO hr6.out (a := ⟨N, 2, none⟩) (by simp; omega) (.slice o5 (m + 1) c5))
          rw [ha, hr.out.at_]; omega
        ·
         go_simp
         refine hcall.out.mono ?_
         rintro e w3 (⟨er, her, rfl, hg4⟩ | ⟨isl, at2, o2, m2, c2, k2, n2, rfl, hg4, hr4, hk12, hk2s, hn3, hn4, _⟩)
         ·
          exact ⟨rfl, .inl ⟨er, her, rfl, hg3.out.trans hg4⟩⟩
         refine hK _ _ ?_
         clear hK K
         have hr4 := Lib.hid hr4
         have hob4 := Lib.hid (Bx.grown hob3.out hg4 (by simp; omega))
         have hrv4 := Lib.hid (Bx.grown hrv3.out hg4 (by simp; omega))
         have hown4 := Lib.hid (ownsRow_gb hown3.out hg4 (fun q hq e => by have := (hown3.out.lt q hq).1; simp at e; omega))
         have hg4' := Lib.hid (hg3.out.trans hg4)
         have hz4 : N < w3.heap.size := Bx.lt hob4.out
         clear hg4
         simp only [List.setIfInBounds_toArray, List.set_cons_zero, List.set_cons_succ]
         refine wpAny_ready (rs := [1, 6]) (by kernel_rfl) (by simp) ?_
         refine AllReady.cons rfl (fun K hK => ?_) (AllReady.cons rfl (fun K hK => ?_) AllReady.nil)
         ·
          have cO := hob4.out.cell
          go_simp
          refine hK _ _ ?_
          clear hK K cO
          simp only [List.setIfInBounds_toArray, List.set_cons_zero, List.set_cons_succ]
          refine wpAny_ready (rs := [6]) (by kernel_rfl) (by simp) ?_
          refine AllReady.cons rfl (fun K hK => ?_) AllReady.nil
          go_simp
          refine hK _ _ ?_
          clear hK K
          simp only [List.setIfInBounds_toArray, List.set_cons_zero, List.set_cons_succ]
          refine wpAny_ready (rs := [7]) (by kernel_rfl) (by simp) ?_
          refine AllReady.cons rfl (fun K hK => ?_) AllReady.nil
          refine wp_app (.tmp 82) (.tmp 87) 121 rfl (N + 1) 123 i0 _ 3 48 Tryz.underlying121 Hi.out.1 Hi.out.2.1 Hi.out.2.2.1 Hi.out.2.2.2 rfl (by decide) (.slice o m c) m xs rfl (hown4.out.alloc _) (some ⟨w3.heap.size, 0, none⟩) 1 1 [.bool isl, .string at2, .slice o2 m2 c2] rfl (fun h => by cases h) rfl (RowAt.bx (Bx.new w3 _ _)) (by simp [Value.oneCell']) (by unfold maxLen; omega) (by omega) (by simp; omega) ?_
          intro v' w4 hown5 hg5
          refine hK _ _ ?_
          clear hK K
          simp only [Act.put, List.setIfInBounds_toArray, List.set_cons_zero, List.set_cons_succ]
          obtain ⟨o5, c5, rfl⟩ := ownsRow_slice' hown5
          have hne5 : ∀ q, q ≤ N → some q ≠ (Value.slice o m c).ownBlock := fun q hq e => by have := (hown4.out.lt q e.symm).1; omega
          have hr6 := Lib.hid (Bx.grown (Bx.alloc hr4.out _) hg5 (hne5 b (by omega)))
          have hob6 := Bx.grown (Bx.alloc hob4.out _) hg5 (hne5 N (Nat.le_refl _))
          have hrv6 := Lib.hid (Bx.grown (Bx.alloc hrv4.out _) hg5 (hne5 w.heap.size (by omega)))
          have hg6 : w.grownBy w4 (some b) := ⟨hg5.os.trans hg4'.out.os, hg5.tape.trans hg4'.out.tape, hg5.output.trans hg4'.out.output, Nat.le_trans hg4'.out.size (Nat.le_trans (by simp) hg5.size), fun q hq hqb => (hg5.block q (by have := hg4'.out.size; simp; omega) (hne5 q (by omega))).trans ((Below.heap_alloc w3 _ q (by have := hg4'.out.size; omega)).trans (hg4'.out.block q hq hqb))⟩
          have hg6 := Lib.hid hg6
          have hown6 := Lib.hid hown5
          clear hown5 hg5
          have cO := hob6.cell
          have fO := hob6.free
          have lO := hob6.lt
          refine wpAny_ready (rs := [8]) (by kernel_rfl) (by simp) ?_
          refine AllReady.cons rfl (fun K hK => ?_) AllReady.nil
          go_simp
          refine hK _ _ ?_
          clear hK K
          simp only [List.setIfInBounds_toArray, List.set_cons_zero, List.set_cons_succ]
          refine wpAny_ready (rs := [9]) (by kernel_rfl) (by simp) ?_
          refine AllReady.cons rfl (fun K hK => ?_) AllReady.nil
          go_simp
          refine hK _ _ ?_
          clear hK K
          refine wpAny_done (by kernel_rfl) ?_ _
          clear cO fO lO
          go_wp2
          go_roundw
          case rel =>
           refine ⟨k2, n2, o5, m + 1, c5, _, by omega, hk2s, hn3, hn4, by omega, Lib.hid (Bx.setO hr6.out (a := ⟨N, 2, none⟩) (by simp; omega) _), Lib.hid (Bx.set hob6 2 _), Lib.hid (Bx.setO hrv6.out (a := ⟨N, 2, none⟩) (by simp; omega) _), Lib.hid ⟨ownsRow_setB hown6.out (Nat.lt_succ_self N) _, ?_⟩, Lib.hid (grown_setN hg6.out (by omega) _)⟩
           intro x hx
           rcases List.mem_append.1 hx with hx | hx
           ·
            exact hone.out x hx
           ·
            simp at hx; rcases hx with rfl | rfl | rfl <;> rfl
          case measure =>
           have ha : atW _ b = k2 := RdB.at_ (Bx.setO hr6.out (a := ⟨N, 2, none⟩) (by simp; omega) (.slice o5 (m + 1) c5))
           rw [ha, hr.out.at_]; omega
         ·
          go_simp
          refine hK _ _ ?_
          clear hK K
          simp only [List.setIfInBounds_toArray, List.set_cons_zero, List.set_cons_succ]
          have cO := (hob4.out.alloc (.cells #[.bool isl, .string at2, .slice o2 m2 c2] 123)).cell
          refine wpAny_ready (rs := [1]) (by kernel_rfl) (by simp) ?_
          refine AllReady.cons rfl (fun K hK => ?_) AllReady.nil
          go_simp
          refine hK _ _ ?_
          clear hK K cO
          simp only [List.setIfInBounds_toArray, List.set_cons_zero, List.set_cons_succ]
          refine wpAny_ready (rs := [7]) (by kernel_rfl) (by simp) ?_
          refine AllReady.cons rfl (fun K hK => ?_) AllReady.nil
          refine wp_app (.tmp 82) (.tmp 87) 121 rfl (N + 1) 123 i0 _ 3 48 Tryz.underlying121 Hi.out.1 Hi.out.2.1 Hi.out.2.2.1 Hi.out.2.2.2 rfl (by decide) (.slice o m c) m xs rfl (hown4.out.alloc _) (some ⟨w3.heap.size, 0, none⟩) 1 1 [.bool isl, .string at2, .slice o2 m2 c2] rfl (fun h => by cases h) rfl (RowAt.bx (Bx.new w3 _ _)) (by simp [Value.oneCell']) (by unfold maxLen; omega) (by omega) (by simp; omega) ?_
          intro v' w4 hown5 hg5
          refine hK _ _ ?_
          clear hK K
          simp only [Act.put, List.setIfInBounds_toArray, List.set_cons_zero, List.set_cons_succ]
          obtain ⟨o5, c5, rfl⟩ := ownsRow_slice' hown5
          have hne5 : ∀ q, q ≤ N → some q ≠ (Value.slice o m c).ownBlock := fun q hq e => by have := (hown4.out.lt q e.symm).1; omega
          have hr6 := Lib.hid (Bx.grown (Bx.alloc hr4.out _) hg5 (hne5 b (by omega)))
          have hob6 := Bx.grown (Bx.alloc hob4.out _) hg5 (hne5 N (Nat.le_refl _))
          have hrv6 := Lib.hid (Bx.grown (Bx.alloc hrv4.out _) hg5 (hne5 w.heap.size (by omega)))
          have hg6 : w.grownBy w4 (some b) := ⟨hg5.os.trans hg4'.out.os, hg5.tape.trans hg4'.out.tape, hg5.output.trans hg4'.out.output, Nat.le_trans hg4'.out.size (Nat.le_trans (by simp) hg5.size), fun q hq hqb => (hg5.block q (by have := hg4'.out.size; simp; omega) (hne5 q (by omega))).trans ((Below.heap_alloc w3 _ q (by have := hg4'.out.size; omega)).trans (hg4'.out.block q hq hqb))⟩
          have hg6 := Lib.hid hg6
          have hown6 := Lib.hid hown5
          clear hown5 hg5
          have cO := hob6.cell
          have fO := hob6.free
          have lO := hob6.lt
          refine wpAny_ready (rs := [8]) (by kernel_rfl) (by simp) ?_
          refine AllReady.cons rfl (fun K hK => ?_) AllReady.nil
          go_simp
          refine hK _ _ ?_
          clear hK K
          simp only [List.setIfInBounds_toArray, List.set_cons_zero, List.set_cons_succ]
          refine wpAny_ready (rs := [9]) (by kernel_rfl) (by simp) ?_
          refine AllReady.cons rfl (fun K hK => ?_) AllReady.nil
          go_simp
          refine hK _ _ ?_
          clear hK K
          refine wpAny_done (by kernel_rfl) ?_ _
          clear cO fO lO
          go_wp2
          go_roundw
          case rel =>
           refine ⟨k2, n2, o5, m + 1, c5, _, by omega, hk2s, hn3, hn4, by omega, Lib.hid (Bx.setO hr6.out (a := ⟨N, 2, none⟩) (by simp; omega) _), Lib.hid (Bx.set hob6 2 _), Lib.hid (Bx.setO hrv6.out (a := ⟨N, 2, none⟩) (by simp; omega) _), Lib.hid ⟨ownsRow_setB hown6.out (Nat.lt_succ_self N) _, ?_⟩, Lib.hid (grown_setN hg6.out (by omega) _)⟩
           intro x hx
           rcases List.mem_append.1 hx with hx | hx
           ·
            exact hone.out x hx
           ·
            simp at hx; rcases hx with rfl | rfl | rfl <;> rfl
          case measure =>
           have ha : atW _ b = k2 := RdB.at_ (Bx.setO hr6.out (a := ⟨N, 2, none⟩) (by simp; omega) (.slice o5 (m + 1) c5))
           rw [ha, hr.out.at_]; omega
      ·
       obtain rfl : k1 = s.size := by omega
       go_wp2_with fail
       refine (cs_next_end wr b s n1 hr.out).mono ?_
       rintro e w2 ⟨er, her, rfl, hb2⟩
       exact ⟨rfl, .inl ⟨er, her, rfl, hg.out.trans (grown_of_below hb2 _)⟩⟩
    ·
     refine (cs_atom w b s k nodes level h hks (by omega) hn0 hn1 hl1 hc).mono ?_
     intro e w' hA
     cases ha : atomP (s.data.toList.drop k) with
     | none => rw [ha] at hA; exact .inl hA
     | some q =>
      obtain ⟨a, n⟩ := q
      rw [ha] at hA
      obtain ⟨h1, h2, h3⟩ := hA
      obtain ⟨a1, a2⟩ := atomP_bd ha
      rw [List.length_drop, len_size] at a2
      exact .inr ⟨false, _, _, _, _, k + n, nodes + 1, h1, h2, h3, by omega, by omega, by omega, by omega, fun _ h' => absurd h' hc⟩
   ·
    go_enter Tryz.func104, Tryz.ntmps104
    go_wp2_with fail
    refine (cs_next_ok _ b s k nodes (h.below (Below.one _ _)) hks).mono ?_
    rintro e w1 ⟨rfl, hb1⟩
    have hB1 := btr (Below.one _ _) hb1
    have hr1 := h.below hB1
    have hlb : b < w1.heap.size := Bx.lt hr1
    have cN : w1.cell? ⟨b, 2, none⟩ = some (.int .i64 nodes) := Bx.cell hr1 2
    have fN : w1.frozen? ⟨b, 2, none⟩ = false := Bx.free hr1 2
    by_cases hnn : 20000 < nodes + 1
    ·
     go_wp2
     exact ⟨rfl, .inl ⟨12, by decide, rfl, (grown_of_below hB1 _).trans grown_set⟩⟩
    ·
     have hll : 12 < level := by simp at hover; omega
     go_wp2
     exact ⟨rfl, .inl ⟨12, by decide, rfl, (grown_of_below hB1 _).trans grown_set⟩⟩
  ·
   obtain rfl : k = s.size := by omega
   go_enter Tryz.func104, Tryz.ntmps104
   go_wp2_with fail
   refine (cs_next_end _ b s nodes (h.below (Below.one _ _))).mono ?_
   rintro e w1 ⟨er, her, rfl, hb1⟩
   exact ⟨rfl, .inl ⟨er, her, rfl, grown_of_below (btr (Below.one _ _) hb1) _⟩⟩
end Go.Proofs.YtghikgjknhjjgaaGreatDoor
