/- csexp.reader.sexp of whatever: it ends in an error, or reads on; what begins with a parenthesis is a list. csexp.Read: its deferred closure, and whole. quiltref01's reader: atom. quiltref01's reader: read; Read. quiltref01.Read. quiltref41.header: the header of a page. The records of a stream: pagelog.records, quiltref41.records = recsOf. -/
import Derived.Test.YtghikgjknhjjgaaDoorQ06
import Derived.Test.YtghikgjknhjjgaaDoorQ05
namespace Go.Proofs.YtghikgjknhjjgaaDoor
set_option maxRecDepth 100000
open Go.RowKit
section
variable {P : Program} {md : Region.Mode} {Q : Exit → Act → World → Prop} {a : Act} {w : World}
theorem wp_region_startP {id : Nat} {l : List Oper} (listed : Array Bool) (fuel : Nat) (hm : P.follows .mixedOrders = true) (hl : Array.replicate l.length false = listed) (hf : l.length = fuel) (h : wpAny P .any l.toArray Q fuel listed a w.drew) : (Code.region id l.toArray true).wp P Q a w := by
 refine wp_region_any hm ?_
 have e : l.toArray.size = fuel := by simpa using hf
 rw [e, ← hf, hl, hf]
 exact h
end
theorem infoSx : (Tryd.prog.info? 109).map (fun i => (i.zero, i.size, i.bytes)) = some (some (.agg #[.bool false, .string .empty, .slice none 0 0]), 3, 48) := by kernel_rfl
theorem atomP_bd {L a : List UInt8} {n : Nat} (h : atomP L = some (a, n)) : 1 ≤ n ∧ n ≤ L.length := by
 unfold atomP at h
 cases hl : lenP L true 0 with
 | none => rw [hl] at h; cases h
 | some q =>
  obtain ⟨m, r⟩ := q
  rw [hl] at h
  obtain ⟨j, h1, h2, rfl⟩ := lenP_suffix _ _ _ hl
  simp only at h
  split at h
  ·
   cases h
  ·
   rename_i hlt
   simp only [Option.some.injEq, Prod.mk.injEq] at h
   rw [List.length_drop] at h hlt
   omega
theorem ownsRow_gb {w w' : World} {base : Nat} {e : TypeId} {size : Nat} {v : Value} {n : Nat} {xs : List Value} {row : Option Nat} (h : w.ownsRow base e size v n xs) (hg : w.grownBy w' row) (hne : ∀ k, v.ownBlock = some k → some k ≠ row) : w'.ownsRow base e size v n xs := by
 refine ⟨h.1, ?_⟩
 have hl := h.lt
 rcases h.2 with hn | ⟨g, cap, cur, rfl, hbg, hg', rest⟩
 ·
  exact .inl hn
 ·
  exact .inr ⟨g, cap, cur, rfl, hbg, (hg.block g (hl g rfl).2 (hne g rfl)).trans hg', rest⟩
theorem ownsRow_slice' {w : World} {base : Nat} {e : TypeId} {size : Nat} {v : Value} {n : Nat} {xs : List Value} (h : w.ownsRow base e size v n xs) : ∃ o c, v = .slice o n c := by
 rcases h.2 with ⟨hv, hn⟩ | ⟨g, cap, cur, hv, _⟩
 ·
  exact ⟨none, 0, by rw [hv, hn]⟩
 ·
  exact ⟨_, _, hv⟩
def GotSx (b : Nat) (s : ByteArray) (k : Nat) (w : World) (e : Ending) (w' : World) : Prop :=
 ∃ (isl : Bool) (atom : ByteArray) (o : Option Addr) (m c k' : Nat) (nodes' : Int), e = .returned (.agg #[.bool isl, .string atom, .slice o m c]) ∧ w.grownBy w' (some b) ∧ RdB w' b s k' nodes' ∧ k < k' ∧ k' ≤ s.size ∧ 0 ≤ nodes' ∧ nodes' ≤ 20000 ∧ ((h : k < s.size) → s[k] = 40 → isl = true)
def AnyB (b : Nat) (s : ByteArray) (k : Nat) (w : World) (e : Ending) (w' : World) : Prop := FailsB b w e w' ∨ GotSx b s k w e w'
set_option maxHeartbeats 8000000 in
theorem cs_any : ∀ (f : Nat) (w : World) (b : Nat) (s : ByteArray) (k : Nat) (nodes level : Int), RdB w b s k nodes → k ≤ s.size → s.size - k ≤ f → s.size ≤ 1000000000 → 0 ≤ nodes → nodes ≤ 20000 → 0 ≤ level → level ≤ 13 →
  Calls Tryd.prog 72 #[.pointer (some ⟨b, 0, none⟩), .int .i64 level] w (AnyB b s k w) := by
 intro f
 induction f with
 | zero =>
  intro w b s k nodes level h hk hf hs hn0 hn hl0 hl
  obtain rfl : k = s.size := by omega
  go_enter Tryd.func72, Tryd.ntmps72
  go_wp2_with fail
  refine (cs_next_end _ b s nodes (h.below (Below.one _ _))).mono ?_
  rintro e w1 ⟨er, her, rfl, hb1⟩
  exact ⟨rfl, .inl ⟨er, her, rfl, grown_of_below (btr (Below.one _ _) hb1) _⟩⟩
 | succ f ih =>
  intro w b s k nodes level h hk hf hs hn0 hn hl0 hl
  by_cases hks : k < s.size
  ·
   have hlt0 : b < w.heap.size := Bx.lt h
   cases hover : (decide (20000 < nodes + 1) || decide (12 < level))
   ·
    have hn1 : nodes < 20000 := by simp at hover; omega
    have hl1 : level ≤ 12 := by simp at hover; omega
    by_cases hc : s[k] = 40
    ·
     obtain ⟨i0, hi, iz0, iz1, iz2⟩ := info_parts infoSx
     go_enter Tryd.func72, Tryd.ntmps72
     have hnx := cs_next_ok (w.alloc (.cells #[.bool false, .string .empty, .slice none 0 0] 109)) b s k nodes (h.below (Below.one _ _)) hks
     rw [hc] at hnx
     go_wp2_with fail
     refine hnx.mono ?_
     rintro e w1 ⟨rfl, hb1⟩
     have hB1 := btr (Below.one _ _) hb1
     have hr1 := h.below hB1
     have hlb : b < w1.heap.size := Bx.lt hr1
     have cN : w1.cell? ⟨b, 2, none⟩ = some (.int .i64 nodes) := Bx.cell hr1 2
     have fN : w1.frozen? ⟨b, 2, none⟩ = false := Bx.free hr1 2
     have cK : w1.cell? ⟨b, 1, none⟩ = some (.int .i64 k) := Bx.cell hr1 1
     have fK : w1.frozen? ⟨b, 1, none⟩ = false := Bx.free hr1 1
     have z1 := hb1.size
     go_wp2_with fail
     have hob : Bx (((w1.setCell ⟨b, 2, none⟩ (.int .i64 (nodes + 1))).setCell ⟨b, 1, none⟩ (.int .i64 ((k : Int) + 1))).alloc (.cells #[.bool true, .string ⟨#[]⟩, .slice none 0 0] 109)) w1.heap.size #[.bool true, .string ⟨#[]⟩, .slice none 0 0] 109 := Bx.newAt _ _ _ _ (by simp)
     have hrv : Bx (((w1.setCell ⟨b, 2, none⟩ (.int .i64 (nodes + 1))).setCell ⟨b, 1, none⟩ (.int .i64 ((k : Int) + 1))).alloc (.cells #[.bool true, .string ⟨#[]⟩, .slice none 0 0] 109)) w.heap.size #[.bool false, .string .empty, .slice none 0 0] 109 := ((((Bx.new w _ _).belowAll hb1).setO (a := ⟨b, 2, none⟩) (by simp; omega) _).setO (a := ⟨b, 1, none⟩) (by simp; omega) _).alloc _
     have hrd : RdB (((w1.setCell ⟨b, 2, none⟩ (.int .i64 (nodes + 1))).setCell ⟨b, 1, none⟩ (.int .i64 ((k : Int) + 1))).alloc (.cells #[.bool true, .string ⟨#[]⟩, .slice none 0 0] 109)) b s ((k + 1 : Nat) : Int) (nodes + 1) := Bx.alloc (Bx.set (Bx.set hr1 2 (.int .i64 (nodes + 1))) 1 (.int .i64 ((k : Int) + 1))) _
     have hgr : w.grownBy (((w1.setCell ⟨b, 2, none⟩ (.int .i64 (nodes + 1))).setCell ⟨b, 1, none⟩ (.int .i64 ((k : Int) + 1))).alloc (.cells #[.bool true, .string ⟨#[]⟩, .slice none 0 0] 109)) (some b) := (((grown_of_below hB1 _).trans grown_set).trans grown_set).trans (World.grownBy_alloc _ _ _)
     obtain ⟨N, hN⟩ : ∃ N, w1.heap.size = N := ⟨_, rfl⟩
     rw [hN] at hob ⊢
     have hwN : w.heap.size < N := by rw [← hN]; have := hb1.size; simp at this; omega
     have hbN : b < N := by omega
     generalize hW0 : (((w1.setCell ⟨b, 2, none⟩ (.int .i64 (nodes + 1))).setCell ⟨b, 1, none⟩ (.int .i64 ((k : Int) + 1))).alloc (.cells #[.bool true, .string ⟨#[]⟩, .slice none 0 0] 109)) = W0 at *
     have hNz : N < W0.heap.size := hob.lt
     have Hih := Lib.hid ih
     have Hi := Lib.hid (And.intro hi (And.intro iz0 (And.intro iz1 iz2)))
     clear hW0 hN cN fN cK fK hr1 hB1 hb1 z1 hlb hnx h ih hi iz0 iz1 iz2
     go_loopw [79] (fun _ wr => ∃ (k1 : Nat) (n1 : Int) (o : Option Addr) (m c : Nat) (xs : List Value), k < k1 ∧ k1 ≤ s.size ∧ 0 ≤ n1 ∧ n1 ≤ 20000 ∧ m ≤ k1 ∧ Hid (RdB wr b s k1 n1) ∧ Hid (Bx wr N #[.bool true, .string ⟨#[]⟩, .slice o m c] 109) ∧ Hid (Bx wr w.heap.size #[.bool false, .string .empty, .slice none 0 0] 109) ∧
      Hid (wr.ownsRow (N + 1) 109 3 (.slice o m c) m xs ∧ ∀ x ∈ xs, x.oneCell' = true) ∧ Hid (w.grownBy wr (some b))) (fun _ wr => s.size - atW wr b)
     case atStart => exact ⟨k + 1, nodes + 1, none, 0, 0, [], by omega, by omega, by omega, by omega, by omega, Lib.hid hrd, Lib.hid hob, Lib.hid hrv, Lib.hid ⟨World.ownsRow_nil _ _ _ _, by simp⟩, Lib.hid hgr⟩
     case round =>
      clear hob hrv hrd hgr
      obtain ⟨k1, n1, o, m, c, xs, hk1, hk1s, hn1', hn2', hm, hr, hob, hrv, hown, hg⟩ := hrel
      by_cases hlt : k1 < s.size
      ·
       have hnx := cs_next_ok wr b s k1 n1 hr.out hlt
       by_cases hc1 : s[k1] = 41
       ·
        rw [hc1] at hnx
        go_wp2_with fail
        refine hnx.mono ?_
        rintro e w2 ⟨rfl, hb2⟩
        have hr2 := Lib.hid (hr.out.below hb2)
        have hob2 := hob.out.belowAll hb2
        have hrv2 := hrv.out.belowAll hb2
        have hg2 := Lib.hid (hg.out.trans (grown_of_below hb2 (some b)))
        clear hnx hb2 hob hrv hown hg hr
        have cK : w2.cell? ⟨b, 1, none⟩ = some (.int .i64 k1) := Bx.cell hr2.out 1
        have fK : w2.frozen? ⟨b, 1, none⟩ = false := Bx.free hr2.out 1
        have hlb : b < w2.heap.size := Bx.lt hr2.out
        have cO := hob2.cell
        have cV := hrv2.cell
        have fV := hrv2.free
        have lV := hrv2.lt
        have lO := hob2.lt
        have nb1 : ¬ (b = N) := by omega
        have nb2 : ¬ (b = w.heap.size) := by omega
        have nb3 : ¬ (w.heap.size = N) := by omega
        go_wp2
        refine bodyPost_ret (v := .agg #[.bool true, .string ⟨#[]⟩, .slice o m c]) (by simp [results, Tryd.results72, go_sem, cV]) rfl (.inr ⟨true, ⟨#[]⟩, o, m, c, k1 + 1, n1, rfl, ?_, ?_, by omega, by omega, hn1', hn2', fun _ _ => rfl⟩)
        ·
         exact grown_setN (grown_setN (grown_setN (hg2.out.trans grown_set) (Nat.le_refl _) _) (Nat.le_refl _) _) (Nat.le_refl _) _
        ·
         exact Bx.setO (Bx.setO (Bx.setO (Bx.set hr2.out 1 (.int .i64 ((k1 : Int) + 1))) (a := ⟨w.heap.size, 0, none⟩) nb2 _) (a := ⟨w.heap.size, 1, none⟩) nb2 _) (a := ⟨w.heap.size, 2, none⟩) nb2 _
       ·
        have hne : ((s[k1].toNat : Int) != 41) = true := by
         rw [bne_iff_ne]
         intro e
         exact hc1 (UInt8.toNat_inj.1 (by show s[k1].toNat = 41; omega))
        obtain ⟨ch, hch⟩ : ∃ ch : Int, (s[k1].toNat : Int) = ch := ⟨_, rfl⟩
        rw [hch] at hnx hne
        go_wp2_with fail
        refine hnx.mono ?_
        rintro e w2 ⟨rfl, hb2⟩
        have hr2 := Lib.hid (hr.out.below hb2)
        have hob2 := Lib.hid (hob.out.belowAll hb2)
        have hrv2 := Lib.hid (hrv.out.belowAll hb2)
        have hown2 := Lib.hid (And.intro (ownsRow_belowAll hown.out.1 hb2) hown.out.2)
        have hg2 := Lib.hid (hg.out.trans (grown_of_below hb2 (some b)))
        clear hnx hb2 hob hrv hown hg hch
        go_wp2_with fail
        refine wp_region_startP #[false, false, false, false, false, false, false, false, false, false] 10 (by kernel_rfl) (by rfl) rfl ?_
        have hr3 : Hid (RdB w2.drew b s k1 n1) := Lib.hid (Bx.drew hr2.out)
        have hob3 : Hid (Bx w2.drew N #[.bool true, .string ⟨#[]⟩, .slice o m c] 109) := Lib.hid (Bx.drew hob2.out)
        have hrv3 : Hid (Bx w2.drew w.heap.size #[.bool false, .string .empty, .slice none 0 0] 109) := Lib.hid (Bx.drew hrv2.out)
        have hown3 : Hid (w2.drew.ownsRow (N + 1) 109 3 (.slice o m c) m xs) := Lib.hid hown2.out.1
        have hone := Lib.hid hown2.out.2
        have hg3 : Hid (w.grownBy w2.drew (some b)) := Lib.hid (hg2.out.trans (grown_of_below (Below.drew (Below.refl _ _)) _))
        have hNz2 : N < w2.drew.heap.size := Bx.lt hob3.out
        generalize w2.drew = wd at *
        clear hr2 hob2 hrv2 hown2 hg2
        have hcall := Lib.hid (Hih.out wd b s k1 n1 (level + 1) hr3.out (by omega) (by omega) hs hn1' hn2' (by omega) (by omega))
        refine wpAny_take (i := 0) (v := (.pointer (some ⟨N, 2, none⟩))) rfl (by kernel_rfl) (by kernel_rfl) (by kernel_rfl) (fun _ _ _ h => h) (Or.inl ⟨by rfl, fun w => by first | rfl | (go_simp; try with_reducible rfl)⟩) ?_
        simp only [List.getElem_toArray, List.getElem_cons_zero, Act.put, List.setIfInBounds_toArray, List.set_cons_zero, List.set_cons_succ]
        refine wpAny_take (i := 2) (v := (.pointer (some ⟨b, 0, none⟩))) rfl (by kernel_rfl) (by kernel_rfl) (by kernel_rfl) (fun _ _ _ h => h) (Or.inl ⟨by rfl, fun w => by first | rfl | (go_simp; try with_reducible rfl)⟩) ?_
        simp only [List.getElem_toArray, List.getElem_cons_succ, List.getElem_cons_zero, Act.put, List.setIfInBounds_toArray, List.set_cons_zero, List.set_cons_succ]
        refine wpAny_take (i := 3) (v := (.int .i64 level)) rfl (by kernel_rfl) (by kernel_rfl) (by kernel_rfl) (fun _ _ _ h => h) (Or.inl ⟨by rfl, fun w => by first | rfl | (go_simp; try with_reducible rfl)⟩) ?_
        simp only [List.getElem_toArray, List.getElem_cons_succ, List.getElem_cons_zero, Act.put, List.setIfInBounds_toArray, List.set_cons_zero, List.set_cons_succ]
        have hwl : IntKind.i64.wrap (level + 1) = level + 1 := IntWalk.i64_in _ (by omega)
        refine wpAny_take (i := 4) (v := (.int .i64 (level + 1))) rfl (by kernel_rfl) (by kernel_rfl) (by kernel_rfl) (fun _ _ _ h => h) (Or.inl ⟨by rfl, fun w => by first | rfl | (go_simp; try with_reducible rfl)⟩) ?_
        simp only [List.getElem_toArray, List.getElem_cons_succ, List.getElem_cons_zero, Act.put, List.setIfInBounds_toArray, List.set_cons_zero, List.set_cons_succ]
        clear hwl
        refine wpAny_ready (rs := [1, 5]) (by kernel_rfl) (by simp) ?_
        refine AllReady.cons rfl (fun K hK => ?_) (AllReady.cons rfl (fun K hK => ?_) AllReady.nil)
        ·
         have cO := hob3.out.cell
         go_simp
         refine hK _ _ ?_
         clear hK K cO
         simp only [List.setIfInBounds_toArray, List.set_cons_zero, List.set_cons_succ]
         refine wpAny_ready (rs := [5]) (by kernel_rfl) (by simp) ?_
         refine AllReady.cons rfl (fun K hK => ?_) AllReady.nil
         go_simp
         refine hcall.out.mono ?_
         rintro e w3 (⟨er, her, rfl, hg4⟩ | ⟨isl, at2, o2, m2, c2, k2, n2, rfl, hg4, hr4, hk12, hk2s, hn3, hn4, _⟩)
         ·
          exact ⟨rfl, .inl ⟨er, her, rfl, hg3.out.trans hg4⟩⟩
         refine hK _ _ ?_
         clear hK K
         have hr4 := Lib.hid hr4
         have hob4 := Lib.hid (Bx.grown hob3.out hg4 (by simp; omega))
         have hrv4 := Lib.hid (Bx.grown hrv3.out hg4 (by simp; omega))
         have hown4 := Lib.hid (ownsRow_gb hown3.out hg4 (fun q hq e => by have := (hown3.out.lt q hq).1; simp at e; omega))
         have hg4' := Lib.hid (hg3.out.trans hg4)
         have hz4 : N < w3.heap.size := Bx.lt hob4.out
         clear hg4
         simp only [List.setIfInBounds_toArray, List.set_cons_zero, List.set_cons_succ]
         refine wpAny_ready (rs := [6]) (by kernel_rfl) (by simp) ?_
         refine AllReady.cons rfl (fun K hK => ?_) AllReady.nil
         go_simp
         refine hK _ _ ?_
         clear hK K
         simp only [List.setIfInBounds_toArray, List.set_cons_zero, List.set_cons_succ]
         refine wpAny_ready (rs := [7]) (by kernel_rfl) (by simp) ?_
         refine AllReady.cons rfl (fun K hK => ?_) AllReady.nil
         refine wp_app (.tmp 82) (.tmp 87) 107 rfl (N + 1) 109 i0 _ 3 48 Tryd.underlying107 Hi.out.1 Hi.out.2.1 Hi.out.2.2.1 Hi.out.2.2.2 rfl (by decide) (.slice o m c) m xs rfl (hown4.out.alloc _) (some ⟨w3.heap.size, 0, none⟩) 1 1 [.bool isl, .string at2, .slice o2 m2 c2] rfl (fun h => by cases h) rfl (RowAt.bx (Bx.new w3 _ _)) (by simp [Value.oneCell']) (by unfold maxLen; omega) (by omega) (by simp; omega) ?_
         intro v' w4 hown5 hg5
         refine hK _ _ ?_
         clear hK K
         simp only [Act.put, List.setIfInBounds_toArray, List.set_cons_zero, List.set_cons_succ]
         obtain ⟨o5, c5, rfl⟩ := ownsRow_slice' hown5
         have hne5 : ∀ q, q ≤ N → some q ≠ (Value.slice o m c).ownBlock := fun q hq e => by have := (hown4.out.lt q e.symm).1; omega
         have hr6 := Lib.hid (Bx.grown (Bx.alloc hr4.out _) hg5 (hne5 b (by omega)))
         have hob6 := Bx.grown (Bx.alloc hob4.out _) hg5 (hne5 N (Nat.le_refl _))
         have hrv6 := Lib.hid (Bx.grown (Bx.alloc hrv4.out _) hg5 (hne5 w.heap.size (by omega)))
         have hg6 : w.grownBy w4 (some b) := ⟨hg5.os.trans hg4'.out.os, hg5.tape.trans hg4'.out.tape, hg5.output.trans hg4'.out.output, Nat.le_trans hg4'.out.size (Nat.le_trans (by simp) hg5.size), fun q hq hqb => (hg5.block q (by have := hg4'.out.size; simp; omega) (hne5 q (by omega))).trans ((Below.heap_alloc w3 _ q (by have := hg4'.out.size; omega)).trans (hg4'.out.block q hq hqb))⟩
         have hg6 := Lib.hid hg6
         have hown6 := Lib.hid hown5
         clear hown5 hg5
         have cO := hob6.cell
         have fO := hob6.free
         have lO := hob6.lt
         refine wpAny_ready (rs := [8]) (by kernel_rfl) (by simp) ?_
         refine AllReady.cons rfl (fun K hK => ?_) AllReady.nil
         go_simp
         refine hK _ _ ?_
         clear hK K
         simp only [List.setIfInBounds_toArray, List.set_cons_zero, List.set_cons_succ]
         refine wpAny_ready (rs := [9]) (by kernel_rfl) (by simp) ?_
         refine AllReady.cons rfl (fun K hK => ?_) AllReady.nil
         go_simp
         refine hK _ _ ?_
         clear hK K
         refine wpAny_done (by kernel_rfl) ?_ _
         clear cO fO lO
         go_wp2
         go_roundw
         case rel =>
          refine ⟨k2, n2, o5, m + 1, c5, _, by omega, hk2s, hn3, hn4, by omega, Lib.hid (Bx.setO hr6.out (a := ⟨N, 2, none⟩) (by simp; omega) _), Lib.hid (Bx.set hob6 2 _), Lib.hid (Bx.setO hrv6.out (a := ⟨N, 2, none⟩) (by simp; omega) _), Lib.hid ⟨ownsRow_setB hown6.out (Nat.lt_succ_self N) _, ?_⟩, Lib.hid (grown_setN hg6.out (by omega) _)⟩
          intro x hx
          rcases List.mem_append.1 hx with hx | hx
          ·
           exact hone.out x hx
          ·
           simp at hx; rcases hx with rfl | rfl | rfl <;> rfl
         case measure =>
          have ha : atW _ b = k2 := RdB.at_ (Bx.setO hr6.out (a := ⟨N, 2, none⟩) (by simp; omega) (.slice o5 (m + 1) c5))
          rw [ha, hr.out.at_]; omega
        ·
         go_simp
         refine hcall.out.mono ?_
         rintro e w3 (⟨er, her, rfl, hg4⟩ | ⟨isl, at2, o2, m2, c2, k2, n2, rfl, hg4, hr4, hk12, hk2s, hn3, hn4, _⟩)
         ·
          exact ⟨rfl, .inl ⟨er, her, rfl, hg3.out.trans hg4⟩⟩
         refine hK _ _ ?_
         clear hK K
         have hr4 := Lib.hid hr4
         have hob4 := Lib.hid (Bx.grown hob3.out hg4 (by simp; omega))
         have hrv4 := Lib.hid (Bx.grown hrv3.out hg4 (by simp; omega))
         have hown4 := Lib.hid (ownsRow_gb hown3.out hg4 (fun q hq e => by have := (hown3.out.lt q hq).1; simp at e; omega))
         have hg4' := Lib.hid (hg3.out.trans hg4)
         have hz4 : N < w3.heap.size := Bx.lt hob4.out
         clear hg4
         simp only [List.setIfInBounds_toArray, List.set_cons_zero, List.set_cons_succ]
         refine wpAny_ready (rs := [1, 6]) (by kernel_rfl) (by simp) ?_
         refine AllReady.cons rfl (fun K hK => ?_) (AllReady.cons rfl (fun K hK => ?_) AllReady.nil)
         ·
          have cO := hob4.out.cell
          go_simp
          refine hK _ _ ?_
          clear hK K cO
          simp only [List.setIfInBounds_toArray, List.set_cons_zero, List.set_cons_succ]
          refine wpAny_ready (rs := [6]) (by kernel_rfl) (by simp) ?_
          refine AllReady.cons rfl (fun K hK => ?_) AllReady.nil
          go_simp
          refine hK _ _ ?_
          clear hK K
          simp only [List.setIfInBounds_toArray, List.set_cons_zero, List.set_cons_succ]
          refine wpAny_ready (rs := [7]) (by kernel_rfl) (by simp) ?_
          refine AllReady.cons rfl (fun K hK => ?_) AllReady.nil
          refine wp_app (.tmp 82) (.tmp 87) 107 rfl (N + 1) 109 i0 _ 3 48 Tryd.underlying107 Hi.out.1 Hi.out.2.1 Hi.out.2.2.1 Hi.out.2.2.2 rfl (by decide) (.slice o m c) m xs rfl (hown4.out.alloc _) (some ⟨w3.heap.size, 0, none⟩) 1 1 [.bool isl, .string at2, .slice o2 m2 c2] rfl (fun h => by cases h) rfl (RowAt.bx (Bx.new w3 _ _)) (by simp [Value.oneCell']) (by unfold maxLen; omega) (by omega) (by simp; omega) ?_
          intro v' w4 hown5 hg5
          refine hK _ _ ?_
          clear hK K
          simp only [Act.put, List.setIfInBounds_toArray, List.set_cons_zero, List.set_cons_succ]
          obtain ⟨o5, c5, rfl⟩ := ownsRow_slice' hown5
          have hne5 : ∀ q, q ≤ N → some q ≠ (Value.slice o m c).ownBlock := fun q hq e => by have := (hown4.out.lt q e.symm).1; omega
          have hr6 := Lib.hid (Bx.grown (Bx.alloc hr4.out _) hg5 (hne5 b (by omega)))
          have hob6 := Bx.grown (Bx.alloc hob4.out _) hg5 (hne5 N (Nat.le_refl _))
          have hrv6 := Lib.hid (Bx.grown (Bx.alloc hrv4.out _) hg5 (hne5 w.heap.size (by omega)))
          have hg6 : w.grownBy w4 (some b) := ⟨hg5.os.trans hg4'.out.os, hg5.tape.trans hg4'.out.tape, hg5.output.trans hg4'.out.output, Nat.le_trans hg4'.out.size (Nat.le_trans (by simp) hg5.size), fun q hq hqb => (hg5.block q (by have := hg4'.out.size; simp; omega) (hne5 q (by omega))).trans ((Below.heap_alloc w3 _ q (by have := hg4'.out.size; omega)).trans (hg4'.out.block q hq hqb))⟩
          have hg6 := Lib.hid hg6
          have hown6 := Lib.hid hown5
          clear hown5 hg5
          have cO := hob6.cell
          have fO := hob6.free
          have lO := hob6.lt
          refine wpAny_ready (rs := [8]) (by kernel_rfl) (by simp) ?_
          refine AllReady.cons rfl (fun K hK => ?_) AllReady.nil
          go_simp
          refine hK _ _ ?_
          clear hK K
          simp only [List.setIfInBounds_toArray, List.set_cons_zero, List.set_cons_succ]
          refine wpAny_ready (rs := [9]) (by kernel_rfl) (by simp) ?_
          refine AllReady.cons rfl (fun K hK => ?_) AllReady.nil
          go_simp
          refine hK _ _ ?_
          clear hK K
          refine wpAny_done (by kernel_rfl) ?_ _
          clear cO fO lO
          go_wp2
          go_roundw
          case rel =>
           refine ⟨k2, n2, o5, m + 1, c5, _, by omega, hk2s, hn3, hn4, by omega, Lib.hid (Bx.setO hr6.out (a := ⟨N, 2, none⟩) (by simp; omega) _), Lib.hid (Bx.set hob6 2 _), Lib.hid (Bx.setO hrv6.out (a := ⟨N, 2, none⟩) (by simp; omega) _), Lib.hid ⟨ownsRow_setB hown6.out (Nat.lt_succ_self N) _, ?_⟩, Lib.hid (grown_setN hg6.out (by omega) _)⟩
           intro x hx
           rcases List.mem_append.1 hx with hx | hx
           ·
            exact hone.out x hx
           ·
            simp at hx; rcases hx with rfl | rfl | rfl <;> rfl
          case measure =>
           have ha : atW _ b = k2 := RdB.at_ (Bx.setO hr6.out (a := ⟨N, 2, none⟩) (by simp; omega) (.slice o5 (m + 1) c5))
           rw [ha, hr.out.at_]; omega
         ·
          go_simp
          refine hK _ _ ?_
          clear hK K
          simp only [List.setIfInBounds_toArray, List.set_cons_zero, List.set_cons_succ]
          have cO := (hob4.out.alloc (.cells #[.bool isl, .string at2, .slice o2 m2 c2] 109)).cell
          refine wpAny_ready (rs := [1]) (by kernel_rfl) (by simp) ?_
          refine AllReady.cons rfl (fun K hK => ?_) AllReady.nil
          go_simp
          refine hK _ _ ?_
          clear hK K cO
          simp only [List.setIfInBounds_toArray, List.set_cons_zero, List.set_cons_succ]
          refine wpAny_ready (rs := [7]) (by kernel_rfl) (by simp) ?_
          refine AllReady.cons rfl (fun K hK => ?_) AllReady.nil
          refine wp_app (.tmp 82) (.tmp 87) 107 rfl (N + 1) 109 i0 _ 3 48 Tryd.underlying107 Hi.out.1 Hi.out.2.1 Hi.out.2.2.1 Hi.out.2.2.2 rfl (by decide) (.slice o m c) m xs rfl (hown4.out.alloc _) (some ⟨w3.heap.size, 0, none⟩) 1 1 [.bool isl, .string at2, .slice o2 m2 c2] rfl (fun h => by cases h) rfl (RowAt.bx (Bx.new w3 _ _)) (by simp [Value.oneCell']) (by unfold maxLen; omega) (by omega) (by simp; omega) ?_
          intro v' w4 hown5 hg5
          refine hK _ _ ?_
          clear hK K
          simp only [Act.put, List.setIfInBounds_toArray, List.set_cons_zero, List.set_cons_succ]
          obtain ⟨o5, c5, rfl⟩ := ownsRow_slice' hown5
          have hne5 : ∀ q, q ≤ N → some q ≠ (Value.slice o m c).ownBlock := fun q hq e => by have := (hown4.out.lt q e.symm).1; omega
          have hr6 := Lib.hid (Bx.grown (Bx.alloc hr4.out _) hg5 (hne5 b (by omega)))
          have hob6 := Bx.grown (Bx.alloc hob4.out _) hg5 (hne5 N (Nat.le_refl _))
          have hrv6 := Lib.hid (Bx.grown (Bx.alloc hrv4.out _) hg5 (hne5 w.heap.size (by omega)))
          have hg6 : w.grownBy w4 (some b) := ⟨hg5.os.trans hg4'.out.os, hg5.tape.trans hg4'.out.tape, hg5.output.trans hg4'.out.output, Nat.le_trans hg4'.out.size (Nat.le_trans (by simp) hg5.size), fun q hq hqb => (hg5.block q (by have := hg4'.out.size; simp; omega) (hne5 q (by omega))).trans ((Below.heap_alloc w3 _ q (by have := hg4'.out.size; omega)).trans (hg4'.out.block q hq hqb))⟩
          have hg6 := Lib.hid hg6
          have hown6 := Lib.hid hown5
          clear hown5 hg5
          have cO := hob6.cell
          have fO := hob6.free
          have lO := hob6.lt
          refine wpAny_ready (rs := [8]) (by kernel_rfl) (by simp) ?_
          refine AllReady.cons rfl (fun K hK => ?_) AllReady.nil
          go_simp
          refine hK _ _ ?_
          clear hK K
          simp only [List.setIfInBounds_toArray, List.set_cons_zero, List.set_cons_succ]
          refine wpAny_ready (rs := [9]) (by kernel_rfl) (by simp) ?_
          refine AllReady.cons rfl (fun K hK => ?_) AllReady.nil
          go_simp
          refine hK _ _ ?_
          clear hK K
          refine wpAny_done (by kernel_rfl) ?_ _
          clear cO fO lO
          go_wp2
          go_roundw
          case rel =>
           refine ⟨k2, n2, o5, m + 1, c5, _, by omega, hk2s, hn3, hn4, by omega, Lib.hid (Bx.setO hr6.out (a := ⟨N, 2, none⟩) (by simp; omega) _), Lib.hid (Bx.set hob6 2 _), Lib.hid (Bx.setO hrv6.out (a := ⟨N, 2, none⟩) (by simp; omega) _), Lib.hid ⟨ownsRow_setB hown6.out (Nat.lt_succ_self N) _, ?_⟩, Lib.hid (grown_setN hg6.out (by omega) _)⟩
           intro x hx
           rcases List.mem_append.1 hx with hx | hx
           ·
            exact hone.out x hx
           ·
            simp at hx; rcases hx with rfl | rfl | rfl <;> rfl
          case measure =>
           have ha : atW _ b = k2 := RdB.at_ (Bx.setO hr6.out (a := ⟨N, 2, none⟩) (by simp; omega) (.slice o5 (m + 1) c5))
           rw [ha, hr.out.at_]; omega
      ·
       obtain rfl : k1 = s.size := by omega
       go_wp2_with fail
       refine (cs_next_end wr b s n1 hr.out).mono ?_
       rintro e w2 ⟨er, her, rfl, hb2⟩
       exact ⟨rfl, .inl ⟨er, her, rfl, hg.out.trans (grown_of_below hb2 _)⟩⟩
    ·
     refine (cs_atom w b s k nodes level h hks (by omega) hn0 hn1 hl1 hc).mono ?_
     intro e w' hA
     cases ha : atomP (s.data.toList.drop k) with
     | none => rw [ha] at hA; exact .inl hA
     | some q =>
      obtain ⟨a, n⟩ := q
      rw [ha] at hA
      obtain ⟨h1, h2, h3⟩ := hA
      obtain ⟨a1, a2⟩ := atomP_bd ha
      rw [List.length_drop, len_size] at a2
      exact .inr ⟨false, _, _, _, _, k + n, nodes + 1, h1, h2, h3, by omega, by omega, by omega, by omega, fun _ h' => absurd h' hc⟩
   ·
    go_enter Tryd.func72, Tryd.ntmps72
    go_wp2_with fail
    refine (cs_next_ok _ b s k nodes (h.below (Below.one _ _)) hks).mono ?_
    rintro e w1 ⟨rfl, hb1⟩
    have hB1 := btr (Below.one _ _) hb1
    have hr1 := h.below hB1
    have hlb : b < w1.heap.size := Bx.lt hr1
    have cN : w1.cell? ⟨b, 2, none⟩ = some (.int .i64 nodes) := Bx.cell hr1 2
    have fN : w1.frozen? ⟨b, 2, none⟩ = false := Bx.free hr1 2
    by_cases hnn : 20000 < nodes + 1
    ·
     go_wp2
     exact ⟨rfl, .inl ⟨12, by decide, rfl, (grown_of_below hB1 _).trans grown_set⟩⟩
    ·
     have hll : 12 < level := by simp at hover; omega
     go_wp2
     exact ⟨rfl, .inl ⟨12, by decide, rfl, (grown_of_below hB1 _).trans grown_set⟩⟩
  ·
   obtain rfl : k = s.size := by omega
   go_enter Tryd.func72, Tryd.ntmps72
   go_wp2_with fail
   refine (cs_next_end _ b s nodes (h.below (Below.one _ _))).mono ?_
   rintro e w1 ⟨er, her, rfl, hb1⟩
   exact ⟨rfl, .inl ⟨er, her, rfl, grown_of_below (btr (Below.one _ _) hb1) _⟩⟩
end Go.Proofs.YtghikgjknhjjgaaDoor
namespace Go.Proofs.YtghikgjknhjjgaaDoor
set_option maxRecDepth 100000
open Go.RowKit
def CatchesS (X Nn E : Nat) (er : Int) (older : List PanicEntry) (w : World) (e : Ending) (u' : FrameMode) (w' : World) : Prop :=
 e = .returned (.tuple #[]) ∧ u' = .panicking ({ v := failV er, recovered := true } :: older) ∧ Bx w' X #[.bool false, .string ⟨#[]⟩, .slice none 0 0] 109 ∧ Bx w' Nn #[.int .i64 0] 3 ∧ Bx w' E #[.int .i64 er] 33 ∧ ∀ B, B ≤ X → B ≤ Nn → B ≤ E → B ≤ w.heap.size → Below B w w'
theorem cs_catch (X Nn E : Nat) (er : Int) (older : List PanicEntry) (w : World) (b i l n z : Value)
  (hX : Bx w X #[b, i, l] 109) (hN : Bx w Nn #[n] 3) (hE : Bx w E #[z] 33) (n1 : X ≠ Nn) (n2 : X ≠ E) (n3 : Nn ≠ E) :
  CallsD Tryd.prog 71 #[.pointer (some ⟨X, 0, none⟩), .pointer (some ⟨Nn, 0, none⟩), .pointer (some ⟨E, 0, none⟩)] (.panicking ({ v := failV er, recovered := false } :: older)) w (CatchesS X Nn E er older w) := by
 refine callsD_of_wpS Tryd.func71 rfl fun c₀ cs hu => ?_
 have hAs : ∀ W, (Instr.typeAssert (failV er) 20 132 true).run Tryd.prog W = .ok (.tuple #[.agg #[.int .i64 er], .bool true]) W := by
  intro W
  simp [failV, Instr.typeAssert, go_sem]
 apply wpS_seq
 apply wpS_region
 simp only [Tryd.ntmps71, List.size_toArray, List.length_cons, List.length_nil, Nat.reduceAdd, Nat.reduceSub, Array.replicate_succ, Array.replicate_zero, List.push_toArray, List.append_toArray, List.nil_append, List.cons_append]
 simp [wpOpsS, go_sem, recoverD, hu, Exit.thenS]
 refine wpS_of_wp ?_
 go_wp2
 have xX := hX.alloc (.cells #[.int .i64 er] 132)
 have xN := hN.alloc (.cells #[.int .i64 er] 132)
 have xE := hE.alloc (.cells #[.int .i64 er] 132)
 have xF := Bx.new w #[.int .i64 er] 132
 have hz : ∀ B, B ≤ w.heap.size → Below B w (w.alloc (.cells #[.int .i64 er] 132)) := fun B hB => (Below.refl B w).alloc hB _
 have hlX := hX.lt
 have hlN := hN.lt
 have hlE := hE.lt
 obtain ⟨F, hF⟩ : ∃ F, w.heap.size = F := ⟨_, rfl⟩
 generalize w.alloc (.cells #[.int .i64 er] 132) = W at *
 rw [hF] at xF hlX hlN hlE hz ⊢
 have cX := xX.cell
 have fX := xX.free
 have lX := xX.lt
 have cN := xN.cell
 have fN := xN.free
 have lN := xN.lt
 have cE := xE.cell
 have fE := xE.free
 have lE := xE.lt
 have cF := xF.cell
 have nX : ¬ (X = F) := by omega
 have nN : ¬ (Nn = F) := by omega
 have nE : ¬ (E = F) := by omega
 have n1' : ¬ (Nn = X) := fun h => n1 h.symm
 have n2' : ¬ (E = X) := fun h => n2 h.symm
 have n3' : ¬ (E = Nn) := fun h => n3 h.symm
 go_region
 have zX := ((((xX.set 0 (.bool false)).set 1 (.string ⟨#[]⟩)).set 2 (.slice none 0 0)).setO (a := ⟨Nn, 0, none⟩) n1 (.int .i64 0)).setO (a := ⟨E, 0, none⟩) n2 (.int .i64 er)
 have zN := ((((xN.setO (a := ⟨X, 0, none⟩) n1' (.bool false)).setO (a := ⟨X, 1, none⟩) n1' (.string ⟨#[]⟩)).setO (a := ⟨X, 2, none⟩) n1' (.slice none 0 0)).set 0 (.int .i64 0)).setO (a := ⟨E, 0, none⟩) n3 (.int .i64 er)
 have zE := ((((xE.setO (a := ⟨X, 0, none⟩) n2' (.bool false)).setO (a := ⟨X, 1, none⟩) n2' (.string ⟨#[]⟩)).setO (a := ⟨X, 2, none⟩) n2' (.slice none 0 0)).setO (a := ⟨Nn, 0, none⟩) n3' (.int .i64 0)).set 0 (.int .i64 er)
 refine ⟨rfl, _, rfl, .tuple #[], results_none rfl _ _ _, rfl, rfl, by simpa using zX.drew, by simpa using zN.drew, by simpa using zE.drew, fun B h1 h2 h3 h4 => ?_⟩
 exact (((((((hz B (by omega)).setCell (p := ⟨X, 0, none⟩) h1 _).setCell (p := ⟨X, 1, none⟩) h1 _).setCell (p := ⟨X, 2, none⟩) h1 _).setCell (p := ⟨Nn, 0, none⟩) h2 _).setCell (p := ⟨E, 0, none⟩) h3 _)).drew
theorem cs_idle (X Nn E : Nat) (w : World) :
  CallsD Tryd.prog 71 #[.pointer (some ⟨X, 0, none⟩), .pointer (some ⟨Nn, 0, none⟩), .pointer (some ⟨E, 0, none⟩)] .returning w fun e u' w' => e = .returned (.tuple #[]) ∧ u' = .returning ∧ Below w.heap.size w w' := by
 refine callsD_of_wpS Tryd.func71 rfl fun c₀ cs hu => ?_
 have hAs : ∀ W, (Instr.typeAssert .nilIface 20 132 true).run Tryd.prog W = .ok (.tuple #[.agg #[.int .i64 0], .bool false]) W := by
  intro W
  simp [Instr.typeAssert, go_sem]
 apply wpS_seq
 apply wpS_region
 simp only [Tryd.ntmps71, List.size_toArray, List.length_cons, List.length_nil, Nat.reduceAdd, Nat.reduceSub, Array.replicate_succ, Array.replicate_zero, List.push_toArray, List.append_toArray, List.nil_append, List.cons_append]
 simp [wpOpsS, go_sem, recoverD, hu, Exit.thenS]
 refine wpS_of_wp ?_
 go_wp2
 exact ⟨rfl, .returning, by cases c₀; simp_all, .tuple #[], results_none rfl _ _ _, rfl, rfl, Below.one _ _⟩
def ReadBad (w : World) (e : Ending) (w' : World) : Prop := ∃ (isl : Bool) (atom : ByteArray) (o : Option Addr) (m c : Nat) (n er : Int), e = .returned (.tuple #[.agg #[.bool isl, .string atom, .slice o m c], .int .i64 n, .int .i64 er]) ∧ (er ≠ 0 ∨ isl = true) ∧ Below w.heap.size w w'
theorem recP_some {s : ByteArray} {q : List UInt8 × Nat} (h : recP s.data.toList = some q) : ∃ h0 : 0 < s.size, s[0] ≠ 40 ∧ atomP (s.data.toList.drop 0) = some q := by
 unfold recP at h
 split at h
 ·
  cases h
 ·
  rename_i c r he
  have h0 : 0 < s.size := by rw [← len_size, he]; simp
  have hd := drop_cons s 0 h0
  rw [List.drop_zero, he] at hd
  have hc : s[0] = c := (List.cons.inj hd).1.symm
  split at h
  ·
   cases h
  ·
   rename_i hne
   exact ⟨h0, by rw [hc]; exact hne, by rw [List.drop_zero]; exact h⟩
set_option maxHeartbeats 4000000 in
theorem cs_Read_some (s : ByteArray) (a : List UInt8) (n : Nat) (w : World) (hs : s.size ≤ 1000000000) (h : recP s.data.toList = some (a, n)) :
  Calls Tryd.prog 56 #[.string s] w fun e w' => e = .returned (.tuple #[.agg #[.bool false, .string (bs a), .slice none 0 0], .int .i64 n, .int .i64 0]) ∧ Below w.heap.size w w' := by
 have hmf : ∀ (fn : Fn) (first cap : Array Value) (w : World), (Instr.makeFunc fn first cap).run Tryd.prog w = .ok (.func fn first cap) w := fun _ _ _ _ => rfl
 obtain ⟨h0, hc, ha⟩ := recP_some h
 go_enter_defers Tryd.func56, Tryd.ntmps56
 go_wp2_with fail
 have X0 := ((((Bx.new w #[.bool false, .string ⟨#[]⟩, .slice none 0 0] 109).alloc (.cells #[.int .i64 0] 3)).alloc (.cells #[.int .i64 0] 33)).alloc (.cells #[.string s, .int .i64 0, .int .i64 0] 136))
 have X1 := (((Bx.newAt (w.alloc (.cells #[.bool false, .string ⟨#[]⟩, .slice none 0 0] 109)) #[.int .i64 0] 3 (w.heap.size + 1) (by simp)).alloc (.cells #[.int .i64 0] 33)).alloc (.cells #[.string s, .int .i64 0, .int .i64 0] 136))
 have X2 := ((Bx.newAt ((w.alloc (.cells #[.bool false, .string ⟨#[]⟩, .slice none 0 0] 109)).alloc (.cells #[.int .i64 0] 3)) #[.int .i64 0] 33 (w.heap.size + 1 + 1) (by simp)).alloc (.cells #[.string s, .int .i64 0, .int .i64 0] 136))
 have X3 : RdB _ (w.heap.size + 1 + 1 + 1) s ((0 : Nat) : Int) 0 := Bx.newAt (((w.alloc (.cells #[.bool false, .string ⟨#[]⟩, .slice none 0 0] 109)).alloc (.cells #[.int .i64 0] 3)).alloc (.cells #[.int .i64 0] 33)) #[.string s, .int .i64 0, .int .i64 0] 136 (w.heap.size + 1 + 1 + 1) (by simp)
 have HB : Below w.heap.size w ((((w.alloc (.cells #[.bool false, .string ⟨#[]⟩, .slice none 0 0] 109)).alloc (.cells #[.int .i64 0] 3)).alloc (.cells #[.int .i64 0] 33)).alloc (.cells #[.string s, .int .i64 0, .int .i64 0] 136)) := (((Below.one w _).alloc (by simp) _).alloc (by simp; omega) _).alloc (by simp; omega) _
 obtain ⟨N, hN⟩ : ∃ N, w.heap.size = N := ⟨_, rfl⟩
 rw [hN] at X0 X1 X2 X3 HB ⊢
 generalize (((w.alloc (.cells #[.bool false, .string ⟨#[]⟩, .slice none 0 0] 109)).alloc (.cells #[.int .i64 0] 3)).alloc (.cells #[.int .i64 0] 33)).alloc (.cells #[.string s, .int .i64 0, .int .i64 0] 136) = W0 at *
 have z0 := X3.lt
 refine (cs_atom W0 (N + 1 + 1 + 1) s 0 0 1 X3 h0 (by omega) (by omega) (by omega) (by omega) hc).mono ?_
 intro e w1 hA
 rw [ha] at hA
 obtain ⟨rfl, hg, hr⟩ := hA
 rw [Nat.zero_add, Int.zero_add] at hr
 have Y0 := X0.grown hg (fun e => by injection e with e; omega)
 have Y1 := X1.grown hg (fun e => by injection e with e; omega)
 have Y2 := X2.grown hg (fun e => by injection e with e; omega)
 have HB1 : Below N w w1 := HB.grown hg (by omega) (fun k e => by cases e; omega)
 have hz1 := hg.size
 clear X0 X1 X2 X3 HB hg ha h
 have c0 := Y0.cell
 have f0 := Y0.free
 have l0 := Y0.lt
 go_wp2_with fail
 have y0 := Bx.set (Bx.set (Bx.set Y0 0 (.bool false)) 1 (.string (bs a))) 2 (.slice none 0 0)
 have y1 := Bx.setO (Bx.setO (Bx.setO Y1 (a := ⟨N, 0, none⟩) (by simp) (.bool false)) (a := ⟨N, 1, none⟩) (by simp) (.string (bs a))) (a := ⟨N, 2, none⟩) (by simp) (.slice none 0 0)
 have y2 := Bx.setO (Bx.setO (Bx.setO Y2 (a := ⟨N, 0, none⟩) (by simp; omega) (.bool false)) (a := ⟨N, 1, none⟩) (by simp; omega) (.string (bs a))) (a := ⟨N, 2, none⟩) (by simp; omega) (.slice none 0 0)
 have y3 := Bx.setO (Bx.setO (Bx.setO hr (a := ⟨N, 0, none⟩) (by simp; omega) (.bool false)) (a := ⟨N, 1, none⟩) (by simp; omega) (.string (bs a))) (a := ⟨N, 2, none⟩) (by simp; omega) (.slice none 0 0)
 have HB2 := ((HB1.setCell (p := ⟨N, 0, none⟩) (Nat.le_refl _) (.bool false)).setCell (p := ⟨N, 1, none⟩) (Nat.le_refl _) (.string (bs a))).setCell (p := ⟨N, 2, none⟩) (Nat.le_refl _) (.slice none 0 0)
 simp only [List.setIfInBounds_toArray, List.set_cons_zero, List.set_cons_succ] at y0
 clear c0 f0 l0 Y0 Y1 Y2 HB1 hr hz1
 generalize ((w1.setCell ⟨N, 0, none⟩ (.bool false)).setCell ⟨N, 1, none⟩ (.string (bs a))).setCell ⟨N, 2, none⟩ (.slice none 0 0) = w2 at *
 have c0 := y0.cell
 have f0 := y0.free
 have l0 := y0.lt
 have c1 := y1.cell
 have f1 := y1.free
 have l1 := y1.lt
 have c2 := y2.cell
 have f2 := y2.free
 have l2 := y2.lt
 have c3 := y3.cell
 go_region
 go_wp2
 have z0 := (((((y0.set 0 (.bool false)).set 1 (.string (bs a))).set 2 (.slice none 0 0)).setO (a := ⟨N + 1, 0, none⟩) (by simp) (.int .i64 n)).setO (a := ⟨N + 1 + 1, 0, none⟩) (by simp; omega) (.int .i64 0)).drew
 have z1 := (((((y1.setO (a := ⟨N, 0, none⟩) (by simp) (.bool false)).setO (a := ⟨N, 1, none⟩) (by simp) (.string (bs a))).setO (a := ⟨N, 2, none⟩) (by simp) (.slice none 0 0)).set 0 (.int .i64 n)).setO (a := ⟨N + 1 + 1, 0, none⟩) (by simp) (.int .i64 0)).drew
 have z2 := (((((y2.setO (a := ⟨N, 0, none⟩) (by simp; omega) (.bool false)).setO (a := ⟨N, 1, none⟩) (by simp; omega) (.string (bs a))).setO (a := ⟨N, 2, none⟩) (by simp; omega) (.slice none 0 0)).setO (a := ⟨N + 1, 0, none⟩) (by simp) (.int .i64 n)).set 0 (.int .i64 0)).drew
 have HB3 := (((((HB2.setCell (p := ⟨N, 0, none⟩) (Nat.le_refl _) (.bool false)).setCell (p := ⟨N, 1, none⟩) (Nat.le_refl _) (.string (bs a))).setCell (p := ⟨N, 2, none⟩) (Nat.le_refl _) (.slice none 0 0)).setCell (p := ⟨N + 1, 0, none⟩) (Nat.le_succ _) (.int .i64 n)).setCell (p := ⟨N + 1 + 1, 0, none⟩) (by show N ≤ N + 1 + 1; omega) (.int .i64 0)).drew
 simp only [List.setIfInBounds_toArray, List.set_cons_zero, List.set_cons_succ] at z0 z1 z2
 generalize (((((w2.setCell ⟨N, 0, none⟩ (.bool false)).setCell ⟨N, 1, none⟩ (.string (bs a))).setCell ⟨N, 2, none⟩ (.slice none 0 0)).setCell ⟨N + 1, 0, none⟩ (.int .i64 n)).setCell ⟨N + 1 + 1, 0, none⟩ (.int .i64 0)).drew = w3 at *
 clear c0 f0 l0 c1 f1 l1 c2 f2 l2 c3 y0 y1 y2 y3 HB2
 refine leaves_cons (f := 71) (args := #[.pointer (some ⟨N, 0, none⟩), .pointer (some ⟨N + 1, 0, none⟩), .pointer (some ⟨N + 1 + 1, 0, none⟩)]) (by simp) (by simp [go_sem]) ?_
 refine (cs_idle N (N + 1) (N + 1 + 1) _).mono ?_
 rintro e u' w4 ⟨rfl, rfl, hb⟩
 have c0 := (z0.belowAll hb).cell
 have c1 := (z1.belowAll hb).cell
 have c2 := (z2.belowAll hb).cell
 refine ⟨.tuple #[.agg #[.bool false, .string (bs a), .slice none 0 0], .int .i64 n, .int .i64 0], by simp [results, Tryd.results56, go_sem, c0, c1, c2], rfl, ?_⟩
 rw [hN]
 exact HB3.trans (hb.mono (by have := z0.lt; omega))
set_option maxHeartbeats 4000000 in
theorem cs_Read_none (s : ByteArray) (w : World) (hs : s.size ≤ 1000000000) (h0 : 0 < s.size) (h : recP s.data.toList = none) :
  Calls Tryd.prog 56 #[.string s] w (ReadBad w) := by
 have hmf : ∀ (fn : Fn) (first cap : Array Value) (w : World), (Instr.makeFunc fn first cap).run Tryd.prog w = .ok (.func fn first cap) w := fun _ _ _ _ => rfl
 go_enter_defers Tryd.func56, Tryd.ntmps56
 go_wp2_with fail
 have X0 := ((((Bx.new w #[.bool false, .string ⟨#[]⟩, .slice none 0 0] 109).alloc (.cells #[.int .i64 0] 3)).alloc (.cells #[.int .i64 0] 33)).alloc (.cells #[.string s, .int .i64 0, .int .i64 0] 136))
 have X1 := (((Bx.newAt (w.alloc (.cells #[.bool false, .string ⟨#[]⟩, .slice none 0 0] 109)) #[.int .i64 0] 3 (w.heap.size + 1) (by simp)).alloc (.cells #[.int .i64 0] 33)).alloc (.cells #[.string s, .int .i64 0, .int .i64 0] 136))
 have X2 := ((Bx.newAt ((w.alloc (.cells #[.bool false, .string ⟨#[]⟩, .slice none 0 0] 109)).alloc (.cells #[.int .i64 0] 3)) #[.int .i64 0] 33 (w.heap.size + 1 + 1) (by simp)).alloc (.cells #[.string s, .int .i64 0, .int .i64 0] 136))
 have X3 : RdB _ (w.heap.size + 1 + 1 + 1) s ((0 : Nat) : Int) 0 := Bx.newAt (((w.alloc (.cells #[.bool false, .string ⟨#[]⟩, .slice none 0 0] 109)).alloc (.cells #[.int .i64 0] 3)).alloc (.cells #[.int .i64 0] 33)) #[.string s, .int .i64 0, .int .i64 0] 136 (w.heap.size + 1 + 1 + 1) (by simp)
 have HB : Below w.heap.size w ((((w.alloc (.cells #[.bool false, .string ⟨#[]⟩, .slice none 0 0] 109)).alloc (.cells #[.int .i64 0] 3)).alloc (.cells #[.int .i64 0] 33)).alloc (.cells #[.string s, .int .i64 0, .int .i64 0] 136)) := (((Below.one w _).alloc (by simp) _).alloc (by simp; omega) _).alloc (by simp; omega) _
 obtain ⟨N, hN⟩ : ∃ N, w.heap.size = N := ⟨_, rfl⟩
 rw [hN] at X0 X1 X2 X3 HB ⊢
 generalize (((w.alloc (.cells #[.bool false, .string ⟨#[]⟩, .slice none 0 0] 109)).alloc (.cells #[.int .i64 0] 3)).alloc (.cells #[.int .i64 0] 33)).alloc (.cells #[.string s, .int .i64 0, .int .i64 0] 136) = W0 at *
 have z0 := X3.lt
 have hany : Calls Tryd.prog 72 #[.pointer (some ⟨N + 1 + 1 + 1, 0, none⟩), .int .i64 1] W0 (fun e w' => FailsB (N + 1 + 1 + 1) W0 e w' ∨ (∃ (atom : ByteArray) (o : Option Addr) (m c k' : Nat) (nodes' : Int), e = .returned (.agg #[.bool true, .string atom, .slice o m c]) ∧ W0.grownBy w' (some (N + 1 + 1 + 1)) ∧ RdB w' (N + 1 + 1 + 1) s k' nodes')) := by
  by_cases hc : s[0] = 40
  ·
   refine (cs_any s.size W0 (N + 1 + 1 + 1) s 0 0 1 X3 (by omega) (by omega) hs (by omega) (by omega) (by omega) (by omega)).mono ?_
   rintro e w' (hF | ⟨isl, at2, o, m, c, k', n', rfl, hg, hr, _, _, _, _, hl⟩)
   ·
    exact .inl hF
   ·
    obtain rfl := hl h0 hc
    exact .inr ⟨at2, o, m, c, k', n', rfl, hg, hr⟩
  ·
   refine (cs_atom W0 (N + 1 + 1 + 1) s 0 0 1 X3 h0 (by omega) (by omega) (by omega) (by omega) hc).mono ?_
   intro e w' hA
   have hn : atomP (s.data.toList.drop 0) = none := by
    rw [List.drop_zero]
    have hd := drop_cons s 0 h0
    rw [List.drop_zero] at hd
    unfold recP at h
    rw [hd] at h ⊢
    simpa [hc] using h
   rw [hn] at hA
   exact .inl hA
 refine hany.mono ?_
 rintro e w1 (⟨er, her, rfl, hg⟩ | ⟨at2, o, m, c, k', n', rfl, hg, hr⟩)
 ·
  have Y0 := X0.grown hg (fun e => by injection e with e; omega)
  have Y1 := X1.grown hg (fun e => by injection e with e; omega)
  have Y2 := X2.grown hg (fun e => by injection e with e; omega)
  have HB1 : Below N w w1 := HB.grown hg (by omega) (fun k e => by cases e; omega)
  refine leaves_cons (f := 71) (args := #[.pointer (some ⟨N, 0, none⟩), .pointer (some ⟨N + 1, 0, none⟩), .pointer (some ⟨N + 1 + 1, 0, none⟩)]) (by simp) (by simp [go_sem]) ?_
  refine (cs_catch N (N + 1) (N + 1 + 1) er [] w1 _ _ _ _ _ Y0 Y1 Y2 (by omega) (by omega) (by omega)).mono ?_
  rintro e u' w4 ⟨rfl, rfl, z0, z1, z2, hb⟩
  have c0 := z0.cell
  have c1 := z1.cell
  have c2 := z2.cell
  refine ⟨.tuple #[.agg #[.bool false, .string ⟨#[]⟩, .slice none 0 0], .int .i64 0, .int .i64 er], by simp [results, Tryd.results56, go_sem, c0, c1, c2], false, _, _, _, _, _, _, rfl, .inl her, ?_⟩
  rw [hN]
  exact HB1.trans (hb N (Nat.le_refl _) (by omega) (by omega) (by have := hg.size; omega))
 ·
  have Y0 := X0.grown hg (fun e => by injection e with e; omega)
  have Y1 := X1.grown hg (fun e => by injection e with e; omega)
  have Y2 := X2.grown hg (fun e => by injection e with e; omega)
  have HB1 : Below N w w1 := HB.grown hg (by omega) (fun k e => by cases e; omega)
  have hz1 := hg.size
  clear X0 X1 X2 X3 HB hg h
  have c0 := Y0.cell
  have f0 := Y0.free
  have l0 := Y0.lt
  go_wp2_with fail
  have y0 := Bx.set (Bx.set (Bx.set Y0 0 (.bool true)) 1 (.string at2)) 2 (.slice o m c)
  have y1 := Bx.setO (Bx.setO (Bx.setO Y1 (a := ⟨N, 0, none⟩) (by simp) (.bool true)) (a := ⟨N, 1, none⟩) (by simp) (.string at2)) (a := ⟨N, 2, none⟩) (by simp) (.slice o m c)
  have y2 := Bx.setO (Bx.setO (Bx.setO Y2 (a := ⟨N, 0, none⟩) (by simp; omega) (.bool true)) (a := ⟨N, 1, none⟩) (by simp; omega) (.string at2)) (a := ⟨N, 2, none⟩) (by simp; omega) (.slice o m c)
  have y3 := Bx.setO (Bx.setO (Bx.setO hr (a := ⟨N, 0, none⟩) (by simp; omega) (.bool true)) (a := ⟨N, 1, none⟩) (by simp; omega) (.string at2)) (a := ⟨N, 2, none⟩) (by simp; omega) (.slice o m c)
  have HB2 := ((HB1.setCell (p := ⟨N, 0, none⟩) (Nat.le_refl _) (.bool true)).setCell (p := ⟨N, 1, none⟩) (Nat.le_refl _) (.string at2)).setCell (p := ⟨N, 2, none⟩) (Nat.le_refl _) (.slice o m c)
  simp only [List.setIfInBounds_toArray, List.set_cons_zero, List.set_cons_succ] at y0
  clear c0 f0 l0 Y0 Y1 Y2 HB1 hr hz1
  generalize ((w1.setCell ⟨N, 0, none⟩ (.bool true)).setCell ⟨N, 1, none⟩ (.string at2)).setCell ⟨N, 2, none⟩ (.slice o m c) = w2 at *
  have c0 := y0.cell
  have f0 := y0.free
  have l0 := y0.lt
  have c1 := y1.cell
  have f1 := y1.free
  have l1 := y1.lt
  have c2 := y2.cell
  have f2 := y2.free
  have l2 := y2.lt
  have c3 := y3.cell
  go_region
  go_wp2
  have z0 := (((((y0.set 0 (.bool true)).set 1 (.string at2)).set 2 (.slice o m c)).setO (a := ⟨N + 1, 0, none⟩) (by simp) (.int .i64 k')).setO (a := ⟨N + 1 + 1, 0, none⟩) (by simp; omega) (.int .i64 0)).drew
  have z1 := (((((y1.setO (a := ⟨N, 0, none⟩) (by simp) (.bool true)).setO (a := ⟨N, 1, none⟩) (by simp) (.string at2)).setO (a := ⟨N, 2, none⟩) (by simp) (.slice o m c)).set 0 (.int .i64 k')).setO (a := ⟨N + 1 + 1, 0, none⟩) (by simp) (.int .i64 0)).drew
  have z2 := (((((y2.setO (a := ⟨N, 0, none⟩) (by simp; omega) (.bool true)).setO (a := ⟨N, 1, none⟩) (by simp; omega) (.string at2)).setO (a := ⟨N, 2, none⟩) (by simp; omega) (.slice o m c)).setO (a := ⟨N + 1, 0, none⟩) (by simp) (.int .i64 k')).set 0 (.int .i64 0)).drew
  have HB3 := (((((HB2.setCell (p := ⟨N, 0, none⟩) (Nat.le_refl _) (.bool true)).setCell (p := ⟨N, 1, none⟩) (Nat.le_refl _) (.string at2)).setCell (p := ⟨N, 2, none⟩) (Nat.le_refl _) (.slice o m c)).setCell (p := ⟨N + 1, 0, none⟩) (Nat.le_succ _) (.int .i64 k')).setCell (p := ⟨N + 1 + 1, 0, none⟩) (by show N ≤ N + 1 + 1; omega) (.int .i64 0)).drew
  simp only [List.setIfInBounds_toArray, List.set_cons_zero, List.set_cons_succ] at z0 z1 z2
  generalize (((((w2.setCell ⟨N, 0, none⟩ (.bool true)).setCell ⟨N, 1, none⟩ (.string at2)).setCell ⟨N, 2, none⟩ (.slice o m c)).setCell ⟨N + 1, 0, none⟩ (.int .i64 k')).setCell ⟨N + 1 + 1, 0, none⟩ (.int .i64 0)).drew = w3 at *
  clear c0 f0 l0 c1 f1 l1 c2 f2 l2 c3 y0 y1 y2 y3 HB2
  refine leaves_cons (f := 71) (args := #[.pointer (some ⟨N, 0, none⟩), .pointer (some ⟨N + 1, 0, none⟩), .pointer (some ⟨N + 1 + 1, 0, none⟩)]) (by simp) (by simp [go_sem]) ?_
  refine (cs_idle N (N + 1) (N + 1 + 1) _).mono ?_
  rintro e u' w4 ⟨rfl, rfl, hb⟩
  have c0 := (z0.belowAll hb).cell
  have c1 := (z1.belowAll hb).cell
  have c2 := (z2.belowAll hb).cell
  refine ⟨.tuple #[.agg #[.bool true, .string at2, .slice o m c], .int .i64 k', .int .i64 0], by simp [results, Tryd.results56, go_sem, c0, c1, c2], true, _, _, _, _, _, _, rfl, .inr rfl, ?_⟩
  rw [hN]
  exact HB3.trans (hb.mono (by have := z0.lt; omega))
end Go.Proofs.YtghikgjknhjjgaaDoor
namespace Go.Proofs.YtghikgjknhjjgaaDoor
set_option maxRecDepth 100000
open Go.RowKit
end Go.Proofs.YtghikgjknhjjgaaDoor
namespace Go.Proofs.YtghikgjknhjjgaaDoor
set_option maxRecDepth 100000
open Go.RowKit
abbrev sxC (isl : Bool) (a : ByteArray) (o : Option Addr) (m c : Nat) : Array Value := #[.bool isl, .string a, .slice o m c]
end Go.Proofs.YtghikgjknhjjgaaDoor
namespace Go.Proofs.YtghikgjknhjjgaaDoor
set_option maxRecDepth 100000
open Go.RowKit
end Go.Proofs.YtghikgjknhjjgaaDoor
namespace Go.Proofs.YtghikgjknhjjgaaDoor
set_option maxRecDepth 100000
open Go.RowKit
theorem cut_list (s : ByteArray) (a b : Nat) : (s.extract a b).data.toList = (s.data.toList.drop a).take (b - a) := by
 conv => lhs; rw [← bs_of s, bs_cut, bs_list]
end Go.Proofs.YtghikgjknhjjgaaDoor
namespace Go.Proofs.YtghikgjknhjjgaaDoor
set_option maxRecDepth 100000
open Go.RowKit
def RecsE (w : World) (r : Option (List ByteArray)) (e : Ending) (w' : World) : Prop :=
 ∃ o c, e = .returned (.tuple #[.slice o (r.getD []).length c, .bool r.isSome]) ∧ SlW o (r.getD []).length c ∧ StrsAt (fun b => w.heap.size ≤ b ∧ b < w'.heap.size) w' o (r.getD []) ∧ Below w.heap.size w w'
/-- what is read so far, and what is left -/
def RecsInv (L : List UInt8) (k f : Nat) (l : List ByteArray) : Prop := recsOf L = (recsP f (L.drop k)).map (l ++ ·) ∧ L.length - k ≤ f ∧ l.length ≤ k ∧ k ≤ L.length
theorem RecsInv.start (L : List UInt8) : RecsInv L 0 L.length [] := ⟨by simp [recsOf], by omega, by simp, by omega⟩
theorem RecsInv.stop {L : List UInt8} {k f : Nat} {l : List ByteArray} (h : RecsInv L k f l) (hk : k = L.length) : recsOf L = some l := by
 rw [h.1, hk, List.drop_length]
 cases f <;> simp [recsP]
theorem RecsInv.none {L : List UInt8} {k f : Nat} {l : List ByteArray} (h : RecsInv L k f l) (hk : k < L.length) (hr : recP (L.drop k) = none) : recsOf L = none := by
 rw [h.1]
 have hd : L.drop k = L[k] :: L.drop (k + 1) := List.drop_eq_getElem_cons hk
 have hf := h.2.1
 obtain ⟨g, rfl⟩ : ∃ g, f = g + 1 := ⟨f - 1, by omega⟩
 rw [hd] at hr ⊢
 unfold recsP
 rw [hr]; rfl
theorem recP_bd {L a : List UInt8} {n : Nat} (h : recP L = some (a, n)) : 1 ≤ n ∧ n ≤ L.length := by
 unfold recP at h
 split at h
 ·
  cases h
 ·
  split at h
  ·
   cases h
  ·
   exact atomP_bd h
theorem RecsInv.next {L : List UInt8} {k f : Nat} {l : List ByteArray} (h : RecsInv L k f l) (hk : k < L.length) {a : List UInt8} {n : Nat} (hr : recP (L.drop k) = some (a, n)) : ∃ g, RecsInv L (k + n) g (l ++ [bs a]) := by
 have hb := recP_bd hr
 rw [List.length_drop] at hb
 have hd : L.drop k = L[k] :: L.drop (k + 1) := List.drop_eq_getElem_cons hk
 have hf := h.2.1
 obtain ⟨g, rfl⟩ : ∃ g, f = g + 1 := ⟨f - 1, by omega⟩
 refine ⟨g, ?_, by omega, by have := h.2.2.1; simp; omega, by omega⟩
 rw [h.1, ← List.drop_drop]
 rw [hd] at hr ⊢
 have e : recsP (g + 1) (L[k] :: L.drop (k + 1)) = (recsP g ((L[k] :: L.drop (k + 1)).drop n)).map (bs a :: ·) := by
  show (match recP (L[k] :: L.drop (k + 1)) with | Option.none => Option.none | some (a, n) => _) = _
  rw [hr]
 rw [e]
 simp only [Option.map_map]
 congr 1
 funext x
 simp
theorem nonempty_bytes {T : ByteArray} : 0 < T.size → T.toList.isEmpty = false := by
 intro h
 rw [ByteArray.toList_eq]
 cases e : T.data.toList with
 | nil => have := len_size T; rw [e] at this; simp at this; omega
 | cons => rfl
theorem empty_bytes {T : ByteArray} (h : T.size = 0) : T.toList.isEmpty = true := by
 rw [ByteArray.toList_eq]
 have := len_size T
 rw [h] at this
 rw [List.eq_nil_of_length_eq_zero this]; rfl
def lnV : Value → Nat | .string t => t.size | _ => 0
set_option maxHeartbeats 2000000 in
theorem pl_records (s : ByteArray) (w : World) (hs : s.size ≤ 2000000) :
  Calls Tryd.prog 32 #[.string s] w (RecsE w (recsOf s.data.toList)) := by
 obtain ⟨i0, hi, iz0, iz1, iz2⟩ := info_parts infoStr
 obtain ⟨L, hL⟩ : ∃ L, s.data.toList = L := ⟨_, rfl⟩
 have hLs : L.length = s.size := by rw [← hL, len_size]
 rw [hL]
 go_enter Tryd.func32, Tryd.ntmps32
 go_wp2
 go_loopw [0, 4] (fun t v wr => ∃ (k f : Nat) (T : ByteArray) (l : List ByteArray), t = .string T ∧ Hid (T = bs (L.drop k)) ∧ Hid (RecsInv L k f l) ∧ k ≤ L.length ∧ Hid (wr.ownsRow w.heap.size 9 1 v l.length (l.map .string)) ∧ Below w.heap.size w wr) (fun t _ _ => lnV t)
 case atStart => exact ⟨0, L.length, s, [], rfl, Lib.hid (by rw [← hL]; exact (bs_of s).symm), Lib.hid (RecsInv.start L), by omega, Lib.hid (World.ownsRow_nil _ _ _ _), Below.refl _ _⟩
 case round =>
  obtain ⟨k, f, T, l, rfl, hT, hI, hk, hown, hB⟩ := hrel
  have hTs : T.size = L.length - k := by rw [hT.out, bs_size, List.length_drop]
  have hTl : T.data.toList = L.drop k := by rw [hT.out]
  have hll : l.length ≤ 2000000 := by have := hI.out.2.2.1; omega
  by_cases hlt : k < L.length
  ·
   have hne : T.toList.isEmpty = false := nonempty_bytes (by omega)
   have HTs := Lib.hid hTs
   cases hr : recP (L.drop k) with
   | none =>
    have hR := cs_Read_none T wr (by omega) (by omega) (by rw [hTl]; exact hr)
    have Hr := Lib.hid (hI.out.none hlt hr)
    clear hTs hTl hr
    go_wp2_with fail
    refine hR.mono ?_
    rintro e w1 ⟨isl, atom, o, m, c, n, er, rfl, hor, hb1⟩
    have hB1 := btr hB hb1
    have hz1 := hB1.size
    have hB2 := hB1.alloc hz1 (.cells (sxC isl atom o m c) 109)
    clear hR
    by_cases hE : er = 0
    ·
     have hil : isl = true := by rcases hor with h | h; exact absurd hE h; exact h
     have hE' : (er != 0) = false := by rw [hE]; rfl
     clear hor
     rw [hil]
     rw [hil] at hB2
     go_wp2
     refine bodyPost_ret (v := .tuple #[.slice none 0 0, .bool false]) (by simp [results, Tryd.results32, go_sem]) rfl ?_
     rw [Hr.out]
     exact ⟨none, 0, rfl, .inl ⟨rfl, rfl, rfl⟩, (by intro j h; exact absurd h (by simp)), hB2⟩
    ·
     have hE' : (er != 0) = true := by rw [bne_iff_ne]; exact hE
     clear hor
     go_wp2
     refine bodyPost_ret (v := .tuple #[.slice none 0 0, .bool false]) (by simp [results, Tryd.results32, go_sem]) rfl ?_
     rw [Hr.out]
     exact ⟨none, 0, rfl, .inl ⟨rfl, rfl, rfl⟩, (by intro j h; exact absurd h (by simp)), hB2⟩
   | some q =>
    obtain ⟨a, n⟩ := q
    obtain ⟨g, hg⟩ := hI.out.next hlt hr
    have HI := Lib.hid hg
    have hn := recP_bd hr
    have hR := cs_Read_some T a n wr (by omega) (by rw [hTl]; exact hr)
    obtain ⟨S, hS⟩ : ∃ S, bs a = S := ⟨_, rfl⟩
    rw [hS] at hR HI
    rw [List.length_drop] at hn
    clear hTl hr hg hS
    go_wp2_with fail
    refine hR.mono ?_
    rintro e w1 ⟨rfl, hb1⟩
    have hown1 := ownsRow_belowAll hown.out hb1
    have hB1 := btr hB hb1
    have hz1 := hB1.size
    clear hR
    go_wp2_with (at_builtin; go_loud (refine wpList_app rfl (.tmp 22) (.tmp 25) 27 rfl w.heap.size 9 i0 _ 1 16 Tryd.underlying27 hi iz0 iz1 iz2 rfl (by decide) _ l.length _ rfl ((hown1.alloc _).alloc _) _ 1 1 [.string S] rfl (by intro e; cases e) rfl (RowAt.bx (Bx.newAt _ _ _ _ (by simp))) (by simp [Value.oneCell']) (by unfold maxLen; omega) (by omega) (by simp; omega) ?_; intro v2 w2 hown2 hg2))
    have hB2 := ((hB1.alloc hz1 (.cells (sxC false S none 0 0) 109)).alloc (by simp; omega) (.cells #[.string S] 9)).grown hg2 (by simp; omega) (by intro j e; have := (hown1.lt _ e).1; omega)
    have hT2 : T.extract n T.size = bs (L.drop (k + n)) := by
     rw [hT.out, bs_cut, bs_size, List.drop_drop]
     congr 1
     rw [List.take_of_length_le]
     rw [List.length_drop, List.length_drop]; omega
    have HT2 := Lib.hid hT2
    have hg1 : (0 : Int) ≤ n := by omega
    have hg2 : (n : Int) ≤ T.size := by have := HTs.out; omega
    clear hT2 hT
    go_wp2
    go_roundw
    case rel => exact ⟨k + n, g, _, _, rfl, Lib.hid (by have h := HT2.out; rw [HTs.out, hLs] at h; exact h), HI, by omega, Lib.hid (by simpa using hown2), hB2⟩
    case measure => simp only [lnV, ByteArray.size_extract]; omega
  ·
   obtain rfl : k = L.length := by omega
   have hne : T.toList.isEmpty = true := empty_bytes (by omega)
   have Hr := Lib.hid (hI.out.stop rfl)
   have Ho := Lib.hid (ownsRow_at hown.out)
   obtain ⟨o2, c2, rfl, hs2, hr2, ho2⟩ := Ho.out
   have Hr2 := Lib.hid hr2
   have Hs2 := Lib.hid hs2
   clear hr2 hs2 Ho ho2 hown
   go_wp2
   refine bodyPost_ret (v := .tuple #[.slice o2 l.length c2, .bool true]) (by simp [results, Tryd.results32, go_sem]) rfl ?_
   rw [Hr.out]
   exact ⟨o2, c2, rfl, Hs2.out, .of_row Hr2.out, hB⟩
end Go.Proofs.YtghikgjknhjjgaaDoor
