/- Values of logs; quiltref41.Open = openL. pagelog.contents: the contract of its iterator: the contents of pages, in order. pagelog.read of a page without a valid header: what it returns, exactly; and of any page. 32-bit words: what the walk computes on them, as UInt32. Rotations of words. The schedule of words of a block, of the program and of the reference. The program's schedule of words. The constants of the steps and the first state. One block: the program's compress. Xor of two digests, of the program and of the reference. What both Sums compute. sha256.blocks: the contract of its iterator: the blocks of the padded message, in order. sha256.Sum: the digest of a message. The reference's padded message. One block: the reference's step. quiltref02.Sum: the digest of a message. The check value of a digest: of the program and of the reference. Rows of elements of more than one cell: reading, writing, growing; structs and arrays built and compared. No function of the program is named here. Lazy's law for a region inside a fence that lets everything pass (the body of a range over a function); rows of cells read, and rows compared, in the one walk. 'T{x}' and appends of elements of many cells. No function of the program is named here. Guarded operations that are wanted: load of a row, list of one. WriteString within a range over a function: what else it keeps; a law of such ranges for bodies that grow rows of the call's own. -/
import Derived.Test.YtghikgjknhjjgaaDoorQ07
import Derived.Test.YtghikgjknhjjgaaDoorQ02
import Derived.Test.YtghikgjknhjjgaaDoorQ05
import Derived.RangeFuncBox
import Derived.RangeFuncLeaves
import Derived.Shelf.Abstract
import Derived.WalkKit
import Derived.OwnWalkIn
import Derived.TacticsInMore
import Derived.LoopNIn
import Derived.LoopIn
import Derived.DeepKeys
import Derived.OrdersIn
import Derived.RangeFuncCalls
import Derived.Test.YtghikgjknhjjgaaDoorQ06
import Derived.Test.YtghikgjknhjjgaaDoorQ03
namespace Go.Proofs.YtghikgjknhjjgaaDoor
set_option maxRecDepth 100000
open Go.RowKit
abbrev dC (d : Dsk) (po co : Option Addr) (pc cc : Nat) : Array Value := #[.int .i64 d.size, .slice po d.pages.length pc, .slice co d.cache.length cc, .int .i64 d.left]
abbrev lgC (d : Dsk) (po co : Option Addr) (pc cc : Nat) (frm til ver : Int) (ro : Option Addr) (rn rc : Nat) : Array Value := #[.int .i64 d.size, .slice po d.pages.length pc, .slice co d.cache.length cc, .int .i64 d.left, .int .i64 frm, .int .i64 til, .int .i64 ver, .slice ro rn rc]
abbrev lgZ : Array Value := #[.int .i64 0, .slice none 0 0, .slice none 0 0, .int .i64 0, .int .i64 0, .int .i64 0, .int .i64 0, .slice none 0 0]
/-- the value v is the log l in the world w -/
def LgV (w : World) (v : Value) (l : Lg) : Prop :=
 ∃ po pc co cc ro rc, v = .agg (lgC l.disk po co pc cc l.frm l.til l.ver ro l.recs.length rc) ∧ DskV w (.agg (dC l.disk po co pc cc)) l.disk ∧ SlW ro l.recs.length rc ∧ StrsAt (· < w.heap.size) w ro l.recs
theorem LgV.below {w w' : World} {v : Value} {l : Lg} (h : LgV w v l) (hb : Below w.heap.size w w') : LgV w' v l := by
 obtain ⟨po, pc, co, cc, ro, rc, rfl, h1, h2, h3⟩ := h
 exact ⟨po, pc, co, cc, ro, rc, rfl, h1.below hb, h2, (h3.below hb).mono fun _ hs => Nat.lt_of_lt_of_le hs hb.size⟩
def RetLE (w : World) (l : Lg) (er : Int) (e : Ending) (w' : World) : Prop := ∃ v, e = .returned (.tuple #[v, .int .i64 er]) ∧ LgV w' v l ∧ Below w.heap.size w w'
theorem LgV.zero (w : World) : LgV w (.agg lgZ) zeroL :=
 ⟨none, 0, none, 0, none, 0, rfl, zero_DskR w, .inl ⟨rfl, rfl, rfl⟩, by intro j h; exact absurd h (by simp [zeroL])⟩
/-- the version and the length of a page's header; zeros where it is not valid -/
def hdG (d : Dsk) (frm til : Int) (k : Nat) : Nat × Nat := (hdrP (pageL d (frm + k)) k (areaN d frm til)).getD (0, 0)
theorem headL_G (d : Dsk) (frm til : Int) : headL d frm til = if (hdG d frm til 0).1 < (hdG d frm til 1).1 then hdG d frm til 1 else hdG d frm til 0 := by
 unfold headL hdG
 have e : frm + ((0 : Nat) : Int) = frm := by simp
 have e' : frm + ((1 : Nat) : Int) = frm + 1 := by simp
 rw [e, e']
 cases hx : hdrP (pageL d frm) 0 (areaN d frm til) with
 | none =>
  cases hy : hdrP (pageL d (frm + 1)) 1 (areaN d frm til) with
  | none => simp [pickH]
  | some y =>
   obtain ⟨q1, q2, q3, _⟩ := hdrP_some hy
   simp [pickH]; omega
 | some x =>
  cases hy : hdrP (pageL d (frm + 1)) 1 (areaN d frm til) with
  | none => simp [pickH]
  | some y => simp [pickH]
theorem hdG_bd (d : Dsk) (frm til : Int) (k : Nat) : (hdG d frm til k).1 ≤ 1099511627776 ∧ (hdG d frm til k).2 ≤ 1099511627776 ∧ ((hdG d frm til k).1 ≠ 0 → ((hdG d frm til k).2 : Int) ≤ areaN d frm til) := by
 unfold hdG
 cases hx : hdrP (pageL d (frm + k)) k (areaN d frm til) with
 | none => simp
 | some x =>
  obtain ⟨q1, q2, q3, q4, q5, q6, q7, q8⟩ := hdrP_some hx
  exact ⟨q4, q7, fun _ => q6⟩
theorem headL_bd (d : Dsk) (frm til : Int) : (headL d frm til).1 ≤ 1099511627776 ∧ (headL d frm til).2 ≤ 1099511627776 ∧ ((headL d frm til).1 ≠ 0 → ((headL d frm til).2 : Int) ≤ areaN d frm til) := by
 rw [headL_G]
 split
 ·
  exact hdG_bd _ _ _ _
 ·
  exact hdG_bd _ _ _ _
theorem openL_bad {d : Dsk} {frm til : Int} (h : fitE d frm til ≠ 0) : openL d frm til = (zeroL, fitE d frm til) := by unfold openL; rw [if_pos h]
theorem openL_nohead {d : Dsk} {frm til : Int} (h : fitE d frm til = 0) (hv : (headL d frm til).1 = 0) : openL d frm til = (zeroL, 25) := by unfold openL; rw [if_neg (by simpa using h), if_pos hv]
theorem openL_norecs {d : Dsk} {frm til : Int} (h : fitE d frm til = 0) (hv : (headL d frm til).1 ≠ 0) (hr : recsOf ((areaL d frm til).take (headL d frm til).2) = none) : openL d frm til = (zeroL, 25) := by
 unfold openL; rw [if_neg (by simpa using h), if_neg hv, hr]
theorem openL_ok {d : Dsk} {frm til : Int} (h : fitE d frm til = 0) (hv : (headL d frm til).1 ≠ 0) {l : List ByteArray} (hr : recsOf ((areaL d frm til).take (headL d frm til).2) = some l) : openL d frm til = (⟨d, frm, til, (headL d frm til).1, l⟩, 0) := by
 unfold openL; rw [if_neg (by simpa using h), if_neg hv, hr]
def st8 (w : World) (b : Nat) (v0 v1 v2 v3 v4 v5 v6 v7 : Value) : World :=
 (((((((w.setCell ⟨b, 0, none⟩ v0).setCell ⟨b, 1, none⟩ v1).setCell ⟨b, 2, none⟩ v2).setCell ⟨b, 3, none⟩ v3).setCell ⟨b, 4, none⟩ v4).setCell ⟨b, 5, none⟩ v5).setCell ⟨b, 6, none⟩ v6).setCell ⟨b, 7, none⟩ v7
theorem Bx.set8 {w : World} {b : Nat} {u0 u1 u2 u3 u4 u5 u6 u7 v0 v1 v2 v3 v4 v5 v6 v7 : Value} {t : TypeId} (h : Bx w b #[u0, u1, u2, u3, u4, u5, u6, u7] t) : Bx (st8 w b v0 v1 v2 v3 v4 v5 v6 v7) b #[v0, v1, v2, v3, v4, v5, v6, v7] t := by
 have := (((((((h.set 0 v0).set 1 v1).set 2 v2).set 3 v3).set 4 v4).set 5 v5).set 6 v6).set 7 v7
 simpa [Go.Proofs.YtghikgjknhjjgaaDoor.st8] using this
theorem below_set8 {B : Nat} {w w' : World} {b : Nat} {v0 v1 v2 v3 v4 v5 v6 v7 : Value} (h : Below B w w') (hb : B ≤ b) : Below B w (st8 w' b v0 v1 v2 v3 v4 v5 v6 v7) :=
 below_set1 (b := b) (below_set1 (b := b) (below_set1 (b := b) (below_set1 (b := b) (below_set1 (b := b) (below_set1 (b := b) (below_set1 (b := b) (below_set1 (b := b) h hb) hb) hb) hb) hb) hb) hb) hb
theorem Same.set8 {S : Nat → Prop} {w w' : World} {b : Nat} {v0 v1 v2 v3 v4 v5 v6 v7 : Value} (h : Same S w w') (hb : ¬ S b) : Same S w (st8 w' b v0 v1 v2 v3 v4 v5 v6 v7) :=
 (((((((h.set1 (b := b) (k := 0) hb).set1 (b := b) (k := 1) hb).set1 (b := b) (k := 2) hb).set1 (b := b) (k := 3) hb).set1 (b := b) (k := 4) hb).set1 (b := b) (k := 5) hb).set1 (b := b) (k := 6) hb).set1 (b := b) (k := 7) hb
theorem size_set8 (w : World) (b : Nat) (v0 v1 v2 v3 v4 v5 v6 v7 : Value) : (Go.Proofs.YtghikgjknhjjgaaDoor.st8 w b v0 v1 v2 v3 v4 v5 v6 v7).heap.size = w.heap.size := by simp [Go.Proofs.YtghikgjknhjjgaaDoor.st8]
/-- what stands while a log is opened: the disk in block N, the result in block N + 1 -/
structure OpS (w : World) (N : Nat) (d : Dsk) (po co : Option Addr) (pc cc : Nat) (W : World) : Prop where
 dsk : Bx W N (dC d po co pc cc) 30
 res : Bx W (N + 1) lgZ 32
 below : Below w.heap.size w W
 val : DskV W (.agg (dC d po co pc cc)) d
 size : N + 1 < W.heap.size
theorem OpS.next {w : World} {N : Nat} {d : Dsk} {po co : Option Addr} {pc cc : Nat} {W W' : World} (h : OpS w N d po co pc cc W) (hb : Below W.heap.size W W') : OpS w N d po co pc cc W' :=
 ⟨h.dsk.belowAll hb, h.res.belowAll hb, btr h.below hb, h.val.below hb, Nat.lt_of_lt_of_le h.size hb.size⟩
end Go.Proofs.YtghikgjknhjjgaaDoor
namespace Go.Proofs.YtghikgjknhjjgaaDoor
set_option maxRecDepth 100000
open Go.RowKit Go.Shelf
attribute [local go_sem] Oper.semAt_some
theorem KeepT.same {S T : Nat → Prop} {W W' : World} (h : KeepT T W W') (hS : InS S W) (hTS : ∀ b, S b → T b) : Same S W W' := by
 intro b hb
 have hlt := hS b hb
 have ho : W.heap[b]? = some (W.heap[b]'hlt) := Array.getElem?_eq_getElem hlt
 rw [ho]
 exact h b _ (hTS b hb) ho
theorem KeepT.inS {S T : Nat → Prop} {W W' : World} (h : KeepT T W W') (hS : InS S W) (hTS : ∀ b, S b → T b) : InS S W' := by
 intro b hb
 have ho : W.heap[b]? = some (W.heap[b]'(hS b hb)) := Array.getElem?_eq_getElem (hS b hb)
 exact (Array.getElem?_eq_some_iff.1 (h b _ (hTS b hb) ho)).1
theorem KeepT.below {T : Nat → Prop} {W W' : World} (hb : Below W.heap.size W W') : KeepT T W W' := fun k _o _ ho => (hb.block k (Array.getElem?_eq_some_iff.1 ho).1).trans ho
theorem read_page (d : Dsk) (i : Int) : readD d i = (bs (pageL d i), (readD d i).2) := by
 unfold pageL; rw [bs_of]
set_option maxRecDepth 100000 in
set_option maxHeartbeats 1000000 in
theorem pc_runs (n : Nat) (hn : 2 ≤ n) (Bf Bt Bd : Nat) (d : Dsk) (po co : Option Addr) (pc cc : Nat) (frm til : Int) (M : Nat) (hM : til = frm + M) (hf0 : 0 ≤ frm) (ht : til ≤ 2000) {S : Nat → Prop} (T : Nat → Prop) (W : World)
  (hTS : ∀ b, S b → T b) (hS : InS S W) (_hTf : T Bf) (hTt : T Bt) (hTd : T Bd) (hD : DskR S W (.agg (dC d po co pc cc)) d)
  (xf : Bx W Bf #[.int .i64 frm] 3) (xt : Bx W Bt #[.int .i64 til] 3) (xd : Bx W Bd (dC d po co pc cc) 30) :
  SeqRun Fence.wide n Tryd.prog 53 #[.pointer (some ⟨Bf, 0, none⟩), .pointer (some ⟨Bt, 0, none⟩), .pointer (some ⟨Bd, 0, none⟩)] (fun x : Fin M => #[Value.string (bs (pageL d (frm + x.1)))]) T (fun ys => ys = List.finRange M) M W := by
 intro l J hJ hY h0
 have hro : Fence.wide.round = none := rfl
 have h1 : 1 ≤ n := by omega
 refine callsIn_of_wp Tryd.func53 rfl trivial ?_ hro
 simp only [Tryd.ntmps53, List.size_toArray, List.length_cons, List.length_nil, Nat.reduceAdd, Nat.reduceSub, Array.replicate_succ, Array.replicate_zero, List.push_toArray, List.append_toArray, List.nil_append, List.cons_append]
 have cf := xf.cell 0
 have lf := xf.lt
 simp at cf
 gi_wp2
 gi_loopw [5, 6, 7] (fun i _ _ wr => ∃ k : Nat, k ≤ M ∧ i = .int .i64 (frm + k) ∧ J (firsts M k) wr ∧ KeepT T W wr)
  (fun i _ _ _ => (til - intOf i).toNat)
 case atStart => exact ⟨0, Nat.zero_le _, by simp, h0, KeepT.refl _ _⟩
 case round =>
  obtain ⟨k, hk, rfl, hJk, hKT⟩ := hrel
  clear cf lf
  have yt : Bx wr Bt #[.int .i64 til] 3 := hKT _ _ hTt xt
  have yd : Bx wr Bd (dC d po co pc cc) 30 := hKT _ _ hTd xd
  have ct := yt.cell 0
  have lt := yt.lt
  have cd := yd.cell
  have ld := yd.lt
  simp at ct
  by_cases hlt : k < M
  ·
   have hlt' : frm + (k : Int) < til := by omega
   have hw : IntKind.i64.wrap (frm + (k : Int) + 1) = frm + (k : Int) + 1 := IntWalk.i64_in _ (by omega)
   have hV : DskV wr (.agg (dC d po co pc cc)) d := .of (hD.same (hKT.same hS hTS)) (hKT.inS hS hTS)
   have HM := Lib.hid hM
   clear hM
   gi_wp2_with (refine ⟨trivial, ?_⟩; gi_at_call 24; refine (callsIn_wide.2 (v_read d _ (frm + k) _ hV (read_page d _))).mono ?_)
   rintro e w1 ⟨rfl, hb1⟩
   have hJ1 := hJ _ _ _ hJk (grown_of_below hb1 none)
   have hK1 : KeepT T W w1 := hKT.trans (KeepT.below hb1)
   obtain ⟨fn, tmps, assign, body, hy, hR⟩ := hY _ ⟨k, hlt⟩ w1 hJ1 (by rw [firsts_len hk]; exact hlt)
   dsimp only at hy
   clear ct lt cd ld
   gi_wp2
   refine hR.mono ?_
   rintro e W3 ⟨rfl, hJ3, hk3⟩
   have z1 : Bx W3 Bt #[.int .i64 til] 3 := hk3 _ _ hTt (hK1 _ _ hTt xt)
   have hmz : frm + (k : Int) + 1 = frm + ((k + 1 : Nat) : Int) := by omega
   have hmz' := Lib.hid hmz
   clear hmz
   gi_wp2
   go_roundw
   case rel => exact ⟨k + 1, by omega, by rw [hmz'.out], by rw [firsts_succ hlt]; exact hJ3, hK1.trans hk3⟩
   case measure => simp [intOf]; have := HM.out; omega
  ·
   obtain rfl : k = M := by omega
   have hlt' : ¬ (frm + (k : Int) < til) := by omega
   have HM := Lib.hid hM
   clear hM
   gi_wp2
   go_end0
   exact ⟨⟨_, rfl⟩, by rw [← firsts_all]; exact hJk⟩
set_option maxHeartbeats 1000000 in
theorem pc_in (n : Nat) (v0 v1 v2 v3 : Value) (frm til : Int) (w : World) :
  CallsIn Fence.wide n Tryd.prog 28 #[.agg #[v0, v1, v2, v3], .int .i64 frm, .int .i64 til] w fun e w' => e = .returned (.func (.func 53) #[] #[.pointer (some ⟨w.heap.size + 1, 0, none⟩), .pointer (some ⟨w.heap.size + 1 + 1, 0, none⟩), .pointer (some ⟨w.heap.size, 0, none⟩)]) ∧ w' = ((w.alloc (.cells #[v0, v1, v2, v3] 30)).alloc (.cells #[.int .i64 frm] 3)).alloc (.cells #[.int .i64 til] 3) := by
 have hro : Fence.wide.round = none := rfl
 refine callsIn_of_wp Tryd.func28 rfl trivial ?_ hro
 simp only [Tryd.ntmps28, List.size_toArray, List.length_cons, List.length_nil, Nat.reduceAdd, Nat.reduceSub, Array.replicate_succ, Array.replicate_zero, List.push_toArray, List.append_toArray, List.nil_append, List.cons_append]
 gi_wp2
 go_ret
 exact ⟨by simp, rfl⟩
end Go.Proofs.YtghikgjknhjjgaaDoor
namespace Go.Proofs.YtghikgjknhjjgaaDoor
set_option maxRecDepth 100000
open Go.RowKit
def RetHX (x y : Int) (w : World) (e : Ending) (w' : World) : Prop := e = .returned (.tuple #[.int .i64 x, .int .i64 y, .bool false]) ∧ Below w.heap.size w w'
set_option maxHeartbeats 2000000 in
theorem pl_read_noneX (s : ByteArray) (k : Nat) (area : Int) (w : World) (hs : 24 ≤ s.size) (hs2 : s.size ≤ 512) (ha : area ≤ 1099511627776) (hh : hdrP s.data.toList k area = none) :
  Calls Tryd.prog 29 #[.string s, .int .i64 k, .int .i64 area] w (RetHX (valP (s.data.toList.take 8) 0) (valP ((s.data.toList.drop 8).take 8) 0) w) := by
 have hl := len_size s
 obtain ⟨x, hx⟩ : ∃ x, valP (s.data.toList.take 8) 0 = x := ⟨_, rfl⟩
 obtain ⟨y, hy⟩ : ∃ y, valP ((s.data.toList.drop 8).take 8) 0 = y := ⟨_, rfl⟩
 rw [hx, hy]
 have c1 := Lib.hid hx
 have c2 := Lib.hid hy
 have hH := Lib.hid hh
 clear hx hy hh
 have v1 : ∀ W, Calls Tryd.prog 54 #[.string s] W fun e w' => e = .returned (.int .i64 x) ∧ w' = W := fun W => by rw [← c1.out]; exact (pl_value s W (by omega)).mono fun _ _ h => ⟨h.1, h.2.symm⟩
 have v2 : ∀ W, Calls Tryd.prog 54 #[.string (s.extract 8 s.size)] W fun e w' => e = .returned (.int .i64 y) ∧ w' = W := fun W => by
  have := (pl_value (s.extract 8 s.size) W (by simp; omega)).mono fun _ _ h => (And.intro h.1 h.2.symm)
  rw [← c2.out]
  rwa [val_drop s (by omega)] at this
 cases g1 : decide (1 ≤ x)
 ·
  go_enter Tryd.func29, Tryd.ntmps29
  go_wp2_with fail
  go_quiet ((first | (go_at_call 54; with_reducible exact Calls.quiet_of_same (v1 _)) | (go_at_call 54; with_reducible exact Calls.quiet_of_same (v2 _))))
  go_wp2
  go_ret3
  exact ⟨rfl, Below.drewN (Below.refl _ _) nq⟩
 have g1' := of_decide_eq_true g1
 cases g2 : decide (x ≤ 1099511627776)
 ·
  go_enter Tryd.func29, Tryd.ntmps29
  go_wp2_with fail
  go_quiet ((first | (go_at_call 54; with_reducible exact Calls.quiet_of_same (v1 _)) | (go_at_call 54; with_reducible exact Calls.quiet_of_same (v2 _))))
  go_wp2
  go_ret3
  exact ⟨rfl, Below.drewN (Below.refl _ _) nq⟩
 have g2' := of_decide_eq_true g2
 obtain ⟨v, rfl⟩ : ∃ v : Nat, x = v := ⟨x.toNat, by omega⟩
 cases g3 : decide ((v : Int) % 2 = (k : Int))
 ·
  have g3' := of_decide_eq_false g3
  go_enter Tryd.func29, Tryd.ntmps29
  go_wp2_with fail
  go_quiet ((first | (go_at_call 54; with_reducible exact Calls.quiet_of_same (v1 _)) | (go_at_call 54; with_reducible exact Calls.quiet_of_same (v2 _))))
  go_wp2
  go_ret3
  exact ⟨rfl, Below.drewN (Below.refl _ _) nq⟩
 have g3' := of_decide_eq_true g3
 cases g4 : decide (0 ≤ y)
 ·
  go_enter Tryd.func29, Tryd.ntmps29
  go_wp2_with fail
  go_quiet ((first | (go_at_call 54; with_reducible exact Calls.quiet_of_same (v1 _)) | (go_at_call 54; with_reducible exact Calls.quiet_of_same (v2 _))))
  go_wp2
  go_ret3
  exact ⟨rfl, Below.drewN (Below.refl _ _) nq⟩
 have g4' := of_decide_eq_true g4
 cases g5 : decide (y ≤ area)
 ·
  go_enter Tryd.func29, Tryd.ntmps29
  go_wp2_with fail
  go_quiet ((first | (go_at_call 54; with_reducible exact Calls.quiet_of_same (v1 _)) | (go_at_call 54; with_reducible exact Calls.quiet_of_same (v2 _))))
  go_wp2
  go_ret3
  exact ⟨rfl, Below.drewN (Below.refl _ _) nq⟩
 have g5' := of_decide_eq_true g5
 obtain ⟨n, rfl⟩ : ∃ n : Nat, y = n := ⟨y.toNat, by omega⟩
 have hne : (s.toList == hdrL s.size v n) = false := by
  have : s ≠ bs (hdrL s.size v n) → (s.toList == hdrL s.size v n) = false := fun h => by simpa using beq_bytes_false h
  refine this fun e => ?_
  have b1 : be (s.data.toList.take 8) = v := by
   rcases valP_be (s.data.toList.take 8) 0 with h | ⟨h, _⟩ <;> rw [c1.out] at h
   ·
    exact (Int.ofNat_inj.1 h).symm
   ·
    omega
  have b2 : be ((s.data.toList.drop 8).take 8) = n := by
   rcases valP_be ((s.data.toList.drop 8).take 8) 0 with h | ⟨h, _⟩ <;> rw [c2.out] at h
   ·
    exact (Int.ofNat_inj.1 h).symm
   ·
    omega
  have := hH.out
  unfold hdrP at this
  rw [if_pos ⟨by omega, by omega, by omega, by omega, by omega, by rw [b1, b2, hl]; exact (congrArg (fun s : ByteArray => s.data.toList) e).trans (bs_list _)⟩] at this
  cases this
 clear hl
 go_enter Tryd.func29, Tryd.ntmps29
 go_wp2_with fail
 go_quiet ((first | (go_at_call 54; with_reducible exact Calls.quiet_of_same (v1 _)) | (go_at_call 54; with_reducible exact Calls.quiet_of_same (v2 _))))
 go_wp2_with fail
 refine (pl_header s.size v n _ hs (by omega)).mono ?_
 rintro e w1 ⟨rfl, hb1⟩
 go_wp2
 go_ret3
 exact ⟨rfl, Below.then (Below.drewN (Below.refl _ _) nq) hb1 (Nat.le_refl _)⟩
/-- what pagelog.read returns -/
def rdX (l : List UInt8) (k : Nat) (area : Int) : Int × Int × Bool := match hdrP l k area with
 | some p => (p.1, p.2, true)
 | none => (valP (l.take 8) 0, valP ((l.drop 8).take 8) 0, false)
theorem pl_readX (s : ByteArray) (k : Nat) (area : Int) (w : World) (hs : 24 ≤ s.size) (hs2 : s.size ≤ 512) (ha : area ≤ 1099511627776) {x y : Int} {b : Bool} (h : rdX s.data.toList k area = (x, y, b)) :
  Calls Tryd.prog 29 #[.string s, .int .i64 k, .int .i64 area] w fun e w' => e = .returned (.tuple #[.int .i64 x, .int .i64 y, .bool b]) ∧ Below w.heap.size w w' := by
 unfold rdX at h
 cases hh : hdrP s.data.toList k area with
 | none =>
  rw [hh] at h
  injection h with h1 h2
  injection h2 with h2 h3
  subst h1 h2 h3
  exact pl_read_noneX s k area w hs hs2 ha hh
 | some p =>
  rw [hh] at h
  injection h with h1 h2
  injection h2 with h2 h3
  subst h1 h2 h3
  exact pl_read_some s k area p.1 p.2 w hs hs2 hh
end Go.Proofs.YtghikgjknhjjgaaDoor
namespace Go.Proofs.YtghikgjknhjjgaaDoor
set_option maxRecDepth 100000
open Go.RowKit
end Go.Proofs.YtghikgjknhjjgaaDoor
namespace Go.Proofs.YtghikgjknhjjgaaDoor
open Go.RowKit
end Go.Proofs.YtghikgjknhjjgaaDoor
namespace Go.Proofs.YtghikgjknhjjgaaDoor
open Go.RowKit
end Go.Proofs.YtghikgjknhjjgaaDoor
namespace Go.Proofs.YtghikgjknhjjgaaDoor
open Go.RowKit
end Go.Proofs.YtghikgjknhjjgaaDoor
namespace Go.Proofs.YtghikgjknhjjgaaDoor
open Go.RowKit
section
variable {P : Program} {ops : Array Oper} {rest : List Oper} {o : Oper} {a : Act} {Q : Exit → Act → World → Prop} {w : World}
end
end Go.Proofs.YtghikgjknhjjgaaDoor
namespace Go.Proofs.YtghikgjknhjjgaaDoor
open Go.RowKit
structure S8 where
 a : UInt32
 b : UInt32
 c : UInt32
 d : UInt32
 e : UInt32
 f : UInt32
 g : UInt32
 h : UInt32
def S8.of (l : List UInt32) : S8 := ⟨l.getD 0 0, l.getD 1 0, l.getD 2 0, l.getD 3 0, l.getD 4 0, l.getD 5 0, l.getD 6 0, l.getD 7 0⟩
def S8.list (s : S8) : List UInt32 := [s.a, s.b, s.c, s.d, s.e, s.f, s.g, s.h]
theorem S8.len (s : S8) : s.list.length = 8 := rfl
end Go.Proofs.YtghikgjknhjjgaaDoor
namespace Go.Proofs.YtghikgjknhjjgaaDoor
set_option maxRecDepth 100000
open Go.RowKit
end Go.Proofs.YtghikgjknhjjgaaDoor
namespace Go.Proofs.YtghikgjknhjjgaaDoor
set_option maxRecDepth 100000
open Go.RowKit
/-- the zeros behind a message of n bytes and its first byte of the padding -/
def zN (n : Nat) : Nat := (120 - (n + 1) % 64) % 64
/-- a block of 64 bytes -/
def Blk : Type := { x : ByteArray // x.size = 64 }
def Blk.b (x : Blk) : ByteArray := x.1
end Go.Proofs.YtghikgjknhjjgaaDoor
namespace Go.Proofs.YtghikgjknhjjgaaDoor
open Go.RowKit Go.Shelf
attribute [local go_sem] Oper.semAt_some
theorem info_parts {P : Program} {t : TypeId} {z : Value} {n b : Nat} (h : (P.info? t).map (fun i => (i.zero, i.size, i.bytes)) = some (some z, n, b)) : ∃ i, P.info? t = some i ∧ i.zero = some z ∧ i.size = n ∧ i.bytes = b := by
 cases hi : P.info? t with
 | none => simp [hi] at h
 | some i => simp [hi] at h; exact ⟨i, rfl, h.1, h.2.1, h.2.2⟩
end Go.Proofs.YtghikgjknhjjgaaDoor
namespace Go.Proofs.YtghikgjknhjjgaaDoor
open Go.RowKit Go.Shelf
section
attribute [local go_sem] Oper.semAt_some
end
end Go.Proofs.YtghikgjknhjjgaaDoor
namespace Go.Proofs.YtghikgjknhjjgaaDoor
set_option maxRecDepth 100000
open Go.RowKit
/-- a string of bytes, kept closed -/
def sB (l : List UInt8) : ByteArray := ⟨l.toArray⟩
end Go.Proofs.YtghikgjknhjjgaaDoor
namespace Go.Proofs.YtghikgjknhjjgaaDoor
open Go.RowKit
end Go.Proofs.YtghikgjknhjjgaaDoor
namespace Go.Proofs.YtghikgjknhjjgaaDoor
open Go.RowKit
end Go.Proofs.YtghikgjknhjjgaaDoor
namespace Go.Proofs.YtghikgjknhjjgaaDoor
set_option maxRecDepth 100000
open Go.RowKit
end Go.Proofs.YtghikgjknhjjgaaDoor
namespace Go.Proofs.YtghikgjknhjjgaaDoor
set_option maxRecDepth 100000
open Go.RowKit
theorem flat_len {α : Type} {m : Nat} : ∀ {L : List (List α)}, (∀ x ∈ L, x.length = m) → L.flatten.length = L.length * m
 | [], _ => by simp
 | x :: L, h => by
  rw [List.flatten_cons, List.length_append, h x (by simp), flat_len (L := L) (fun y hy => h y (by simp [hy])), List.length_cons, Nat.add_mul]; omega
theorem flat_get {α : Type} {m : Nat} : ∀ {L : List (List α)}, (∀ x ∈ L, x.length = m) → ∀ (i r : Nat), r < m → L.flatten[i * m + r]? = L[i]?.bind (·[r]?)
 | [], _, i, r, _ => by simp
 | x :: L, h, 0, r, hr => by
  rw [List.flatten_cons, Nat.zero_mul, Nat.zero_add, List.getElem?_append_left (by rw [h x (by simp)]; exact hr)]; rfl
 | x :: L, h, i + 1, r, hr => by
  rw [List.flatten_cons, List.getElem?_append_right (by rw [h x (by simp), Nat.add_mul]; omega), h x (by simp), show (i + 1) * m + r - m = i * m + r by rw [Nat.add_mul]; omega, flat_get (L := L) (fun y hy => h y (by simp [hy])) i r hr]
  rfl
/-- a slice value over elements L, in blocks of S -/
def RowsR (S : Nat → Prop) (w : World) (v : Value) (L : List (List Value)) : Prop := ∃ o c, v = .slice o L.length c ∧ SlW o L.length c ∧ RowAt S w o L.flatten
theorem RowsR.below {S : Nat → Prop} {w w' : World} {v : Value} {L : List (List Value)} (h : RowsR S w v L) (hb : Below w.heap.size w w') : RowsR S w' v L := by
 obtain ⟨o, c, e, hs, hr⟩ := h
 exact ⟨o, c, e, hs, hr.below hb⟩
theorem RowsR.same {S : Nat → Prop} {w w' : World} {v : Value} {L : List (List Value)} (h : RowsR S w v L) (hb : Same S w w') : RowsR S w' v L := by
 obtain ⟨o, c, e, hs, hr⟩ := h
 exact ⟨o, c, e, hs, hr.same hb⟩
theorem RowsR.mono {S T : Nat → Prop} {w : World} {v : Value} {L : List (List Value)} (h : RowsR S w v L) (hT : ∀ b, S b → T b) : RowsR T w v L := by
 obtain ⟨o, c, e, hs, hr⟩ := h
 exact ⟨o, c, e, hs, hr.mono hT⟩
theorem RowsR.nil (S : Nat → Prop) (w : World) : RowsR S w (.slice none 0 0) [] := ⟨none, 0, rfl, .inl ⟨rfl, rfl, rfl⟩, RowAt.nil _ _ _⟩
theorem RowsR.owns {w : World} {base : Nat} {e : TypeId} {m : Nat} {v : Value} {L : List (List Value)} (h : w.ownsRow base e m v L.length L.flatten) : RowsR (fun b => base ≤ b ∧ b < w.heap.size) w v L := by
 obtain ⟨o, c, e', hs, hr, _⟩ := ownsRow_at h
 exact ⟨o, c, e', hs, hr⟩
end Go.Proofs.YtghikgjknhjjgaaDoor
namespace Go.Proofs.YtghikgjknhjjgaaDoor
set_option maxRecDepth 100000
open Go.RowKit
/-- a fence that lets every call pass -/
structure Lets (F : Fence) (P : Program) : Prop where
 fn : ∀ f, F.fn f
 depth : F.depth = none
 calls : ∀ {n : Nat} {f : FuncId} {args : Array Value} {w : World} {R : Ending → World → Prop}, Calls P f args w R → CallsIn F n P f args w R
theorem lets_round (P : Program) (l : Nat) : Lets (Fence.wide.inRound l) P := ⟨fun _ => trivial, rfl, fun h => CallsIn.inRound l (callsIn_wide.2 h)⟩
section
variable {F : Fence} {nF : Nat} {P : Program} {ops : Array Oper} {md : Region.Mode} {W0 : World} {an : Anns} {Q : Exit → Act → World → Prop}
theorem not_defer_value {ρ : Operand → Value} {o : Oper} {w w' : World} {v : Value} (h : (execOp ρ o).run P w = .ok (.value v) w') : ∀ c, o.op ≠ .defer c := by
 intro c hc
 unfold execOp at h
 rw [hc] at h
 simp only [Sem.run_bind] at h
 cases hr : (resolve ρ c o.type).run P w with
 | ok d w1 => rw [hr] at h; simp [Result.andThen] at h
 | halt x w1 => rw [hr] at h; simp [Result.andThen] at h
theorem not_defer_lz {o : Oper} {a : Act} {w : World} {Post : Value → World → Prop} (h : lzAt P o a w Post) : ∀ c, o.op ≠ .defer c := by
 intro c hc
 unfold lzAt execOp at h
 rw [hc] at h
 simp only [Sem.run_bind] at h
 cases hr : (resolve a.eval c o.type).run P w with
 | ok d w1 => rw [hr] at h; simp [Result.andThen] at h
 | halt x w1 => rw [hr] at h; simp [Result.andThen] at h
theorem wpIn_of_lz (hF : Lets F P) {o : Oper} {a : Act} {w : World} {Post : Value → World → Prop} {K : Act → World → Prop} (h : lzAt P o a w Post) (hK : ∀ v w', Post v w' → K (a.put o.dst v) w') : o.wpIn F nF P a w K Q := by
 have hnd := not_defer_lz h
 unfold Oper.wpIn
 refine ⟨fun f _ => hF.fn f, ?_⟩
 rw [Oper.semAt_plain F _ _ hnd]
 unfold lzAt at h
 generalize (execOp a.eval o).run P w = r at *
 cases r with
 | ok n w' =>
  cases n <;> simp only [Oper.uponIn] at h ⊢
  case value u => exact hK _ _ h
  case skip => exact hK _ _ h
  case enter f args => exact ⟨fun hd => by rw [hF.depth] at hd; simp at hd, hF.calls (h.mono fun e w'' ⟨v, he, hp⟩ => by subst he; exact hK _ _ hp)⟩
 | halt x w' => exact h.elim
theorem wpAnyIn_of_AO (hF : Lets F P) {n g : Nat} {L : Array Bool → Recs → Act → Prop} (hL : ∀ listed ξ a w, L listed ξ a → Good an W0 ξ w → wpAnyIn F nF P md ops Q g listed a w) :
  ∀ (f : Nat) (listed : Array Bool) (ξ : Recs) (a : Act) (w : World), AO P ops md an W0 n L f listed ξ a → Good an W0 ξ w → wpAnyIn F nF P md ops Q (f + g) listed a w
 | 0, listed, ξ, a, w, h, hg => by rw [Nat.zero_add]; exact hL _ _ _ _ h hg
 | f + 1, listed, ξ, a, w, h, hg => by
  rw [show f + 1 + g = (f + g) + 1 by omega]
  refine ⟨fun h0 => absurd h0 h.1, fun i hi => ?_⟩
  obtain ⟨_, oi, hoi, _⟩ := mem_ready.1 hi
  obtain ⟨S, hS, hK⟩ := (h.2 i hi).2 oi hoi
  unfold wpOpIn
  simp only [hoi]
  cases hS with
  | skip hw =>
   rw [if_neg (by rw [hw]; exact Bool.false_ne_true)]
   exact ⟨fun f _ => hF.fn f, wpAnyIn_of_AO hF hL f _ _ _ _ (hK none undef ⟨rfl, rfl⟩) hg⟩
  | quiet v hw hn hr =>
   rw [if_pos hw]
   have hrun := hr w ⟨⟨w, hg.below⟩, rfl⟩
   unfold Oper.wpIn
   refine ⟨fun f _ => hF.fn f, ?_⟩
   rw [Oper.semAt_plain F _ _ (not_defer_value hrun), hrun]
   exact wpAnyIn_of_AO hF hL f _ _ _ _ (hK none v ⟨rfl, rfl⟩) hg
  | lzy A hw hn hl =>
   rw [if_pos hw]
   refine wpIn_of_lz hF (hl w hg.below fun j _ => hg.fact j) ?_
   rintro v w' ⟨hb, x, rfl, hΦ⟩
   exact wpAnyIn_of_AO hF hL f _ _ _ _ (hK _ _ ⟨_, rfl, rfl⟩) (hg.add hb hn hΦ)
theorem wpIn_region_lz (hF : Lets F P) {id : Nat} {a : Act} {w : World} {l : List Oper} (n g : Nat) (done : Array Bool) (an : Anns) (hm : P.follows .mixedOrders = true) (hn : l.length = n + g) (hd : setTo (Array.replicate l.length false) n 0 = done) (hB : lazyB .any l.toArray n = true)
  (h : LW P l.toArray .any an w (fun ξ a' => ∀ w', Good an w ξ w' → wpAnyIn F nF P .any l.toArray Q g done a' w') (l.take n) 0 (fun _ => none) a) : (Code.region id l.toArray true).wpIn F nF P Q a w := by
 simp only [lazyB, Bool.and_eq_true] at hB
 obtain ⟨⟨hsel, hs⟩, hlex⟩ := hB
 have htl : (l.take n).length = n := by simp; omega
 have inv0 : Closed .any l.toArray n (Array.replicate l.toArray.size false) := ⟨by simp, fun j oj _ hl => (by rw [getD_replicate_false] at hl; cases hl)⟩
 have hdn := lazyHead_done _ _ _ hlex
 have H := AO_lex (md := .any) hsel hs _ hdn (l.take n) 0 _ _ a (fun j hj => by
  have hj' : j < n := by rw [htl] at hj; exact hj
  simp [hj']) (by simpa using htl) inv0 (by rw [htl]) (by rw [htl]; exact hlex) h
 refine wpIn_region_any hm ?_
 simp only [List.size_toArray] at H
 have := wpAnyIn_of_AO hF (nF := nF) (g := g) (Q := Q) (w := { w with drawn := w.drawn + 1 }) (fun listed ξ a' w' hL hg => ?_) _ _ _ _ H (Good.start an ((Below.refl _ w).drew))
 ·
  rw [htl] at this
  rw [← hn] at this
  rw [List.size_toArray]
  exact this
 ·
  rw [hL.1, hd]
  exact hL.2 w' hg
end
section
variable {P : Program} {o : Oper} {a : Act} {C : World → Prop} {K : Act → Prop}
end
end Go.Proofs.YtghikgjknhjjgaaDoor
namespace Go.Proofs.YtghikgjknhjjgaaDoor
open Go.RowKit
section
variable {P : Program} {ops : Array Oper} {rest : List Oper} {o : Oper} {a : Act} {Q : Exit → Act → World → Prop} {w : World}
end
end Go.Proofs.YtghikgjknhjjgaaDoor
namespace Go.Proofs.YtghikgjknhjjgaaDoor
open Go.RowKit
section
variable {P : Program} {ops : Array Oper} {rest : List Oper} {o : Oper} {a : Act} {Q : Exit → Act → World → Prop} {w : World}
end
end Go.Proofs.YtghikgjknhjjgaaDoor
namespace Go.Proofs.YtghikgjknhjjgaaDoor
set_option maxRecDepth 100000
open Go.RowKit Go.Shelf
/-- every block but b is kept that is no row of bytes -/
def KeptU (b : Nat) (w w' : World) : Prop := ∀ k o, w.heap[k]? = some o → k ≠ b → (∀ cs fr, o ≠ .cells cs 5 fr) → w'.heap[k]? = some o
theorem ownsRow_obj {w : World} {base : Nat} {e : TypeId} {size : Nat} {v : Value} {n : Nat} {xs : List Value} (h : w.ownsRow base e size v n xs) {k : Nat} (hk : v.ownBlock = some k) : ∃ cs fr, w.heap[k]? = some (.cells cs e fr) := by
 rcases h.2 with ⟨hv, _⟩ | ⟨g, cap, cur, hv, _, hg, _⟩
 ·
  rw [hv] at hk; cases hk
 ·
  rw [hv] at hk
  have : g = k := by injection hk
  subst this
  exact ⟨_, _, hg⟩
theorem keptU_grown {w1 w2 : World} {b B n : Nat} {v p : Value} {xs : List Value} {t : TypeId} (_hlt : b < w1.heap.size) (_hb : w1.heap[b]? = some (.cells #[p, v] t (0, 0))) (ho : w1.ownsRow B 5 1 v n xs) (hg : w1.grownBy w2 v.ownBlock) : KeptU b w1 w2 := by
 intro k o hk _ hu
 refine (hg.block k (Array.getElem?_eq_some_iff.1 hk).1 fun e => ?_).trans hk
 obtain ⟨cs, fr, h⟩ := ownsRow_obj ho e.symm
 rw [h] at hk
 exact hu cs fr (Option.some.inj hk).symm
set_option maxHeartbeats 2000000 in
theorem bd_WriteStringK {B b : Nat} {l : List UInt8} {w : World} (h : IsBd B b (bytesV l) w) (s : List UInt8) (hlen : l.length + s.length ≤ 140737488355328) (hBw : B ≤ w.heap.size) :
  Calls Tryd.prog 31 #[.pointer (some ⟨b, 0, none⟩), .string (bs s)] w fun e w' => e = .returned (.tuple #[.int .i64 s.length, .nilIface]) ∧ IsBd B b (bytesV (l ++ s)) w' ∧ KeptU b w w' ∧ Below B w w' := by
 obtain ⟨i0, hi, hz0, hz1, hz2⟩ := info_parts infoU8
 have Hi := Lib.hid (And.intro hi (And.intro hz0 (And.intro hz1 hz2)))
 have Hck := Lib.hid (bd_check h)
 have Hlen := Lib.hid hlen
 obtain ⟨S, hS⟩ : ∃ S, bs s = S := ⟨_, rfl⟩
 have hSz : S.size = s.length := by rw [← hS, bs_size]
 have HS := Lib.hid hS
 rw [hS]
 clear hi hz0 hz1 hz2 h hlen hS
 go_enter Tryd.func31, Tryd.ntmps31
 go_wp2_with fail
 refine Hck.out.mono ?_
 rintro e w1 ⟨rfl, h1, hk1, hz1, hb1⟩
 obtain ⟨hB, v, hbk, hown, hne⟩ := h1
 have c1 : w1.cell? ⟨b, 1, none⟩ = some v := by rw [Lib.cell_of_heap hbk]; rfl
 have Hown := Lib.hid hown
 have Hbk := Lib.hid hbk
 have Hne := Lib.hid hne
 have Hz1 := Lib.hid hz1
 have Hk1 := Lib.hid hk1
 clear hown hbk hne hk1 hz1
 have hlt : b < w1.heap.size := (Array.getElem?_eq_some_iff.1 Hbk.out).1
 go_wp2_with (at_builtin; refine Lib.wpList_append_own_string _ rfl (.tmp 12) (.tmp 13) 73 9 rfl B 5 i0 Tryd.underlying73 Tryd.underlying9 Hi.out.1 Hi.out.2.1 Hi.out.2.2.1 Hi.out.2.2.2 v _ _ rfl Hown.out S rfl (by rw [bytesV_len, hSz]; have := Hlen.out; unfold maxLen; omega) (by rw [bytesV_len, hSz]; exact Hlen.out) (by have := Hz1.out; omega) ?_; intro v' w2 hown' hgrow _; obtain ⟨ao, n', cap, rfl⟩ := ownsRow_slice hown'; have Hb2 : Hid (w2.heap[b]? = some (.cells #[.pointer (some ⟨b, 0, none⟩), v] 75 (0, 0))) := Lib.hid (by rw [hgrow.block b hlt (fun e => Hne.out e.symm)]; exact Hbk.out); have d1 : w2.cell? ⟨b, 1, none⟩ = some v := (by rw [Lib.cell_of_heap Hb2.out]; rfl); have f1 : w2.frozen? ⟨b, 1, none⟩ = false := Lib.frozen_of_heap Hb2.out 1; have Hown' := Lib.hid hown'; have HB := Lib.hid (hb1.grown hgrow (by have := Hz1.out; omega) (fun k hk => (Hown.out.lt k hk).1)); have HK := Lib.hid (keptU_grown hlt Hbk.out Hown.out hgrow); clear hown' hgrow c1)
 go_ret2
 refine ⟨by rw [← hSz]; rfl, .inr ?_, ?_, HB.out.setCell (p := ⟨b, 1, none⟩) hB _⟩
 rotate_left
 ·
  intro k o ho hk hu
  exact (Below.heap_setCell _ _ _ _ hk).trans (HK.out k o ((Hk1.out k hk).trans ho) hk hu)
 refine Lib.BuilderAt.put (T := 75) (e := 5) hB Hb2.out (bs' := bytesV (l ++ s)) ?_ (by decide)
 have := Hown'.out
 rw [← HS.out, strCells_bs, bs_size, bytesV_len, ← bytesV_app] at this
 rwa [bytesV_len, List.length_append]
theorem keptU_freeze {w : World} {b g : Nat} {cs : Array Value} {fr : Nat × Nat} (hg : w.heap[g]? = some (.cells cs 5 fr)) (n : Nat) : KeptU b w (w.drew.freeze ⟨g, 0, none⟩ n) := by
 intro k o hk _ hu
 have hne : g ≠ k := by
  intro e
  rw [← e, hg] at hk
  exact hu cs fr (Option.some.inj hk).symm
 unfold World.freeze
 split
 ·
  exact hk
 ·
  show (w.heap.modify g _)[k]? = _
  rw [Array.getElem?_modify, if_neg hne]
  exact hk
set_option maxHeartbeats 1000000 in
set_option maxRecDepth 100000 in
theorem bd_StringK {B b : Nat} {l : List UInt8} {w : World} (h : IsBd B b (bytesV l) w) (h0 : l ≠ []) :
  Calls Tryd.prog 33 #[.pointer (some ⟨b, 0, none⟩)] w fun e w' => e = .returned (.string (bs l)) ∧ KeptU b w w' ∧ Below B w w' := by
 obtain ⟨p, hB, v, hbk, hown, hne⟩ : ∃ p, BdAt B b p (bytesV l) w := by
  rcases h with h | h
  ·
   exact ⟨_, h⟩
  ·
   exact ⟨_, h⟩
 have hl0 : l.length ≠ 0 := by simpa using h0
 rw [bytesV_len] at hown
 obtain ⟨g, cap, cur, rfl, hbg, hg, hnc, hcm, hcs, htake⟩ : ∃ g cap cur, v = .slice (some ⟨g, 0, none⟩) l.length cap ∧ B ≤ g ∧ w.heap[g]? = some (.cells cur 5 (0, 0)) ∧ l.length ≤ cap ∧ cap ≤ maxLen ∧ cur.size = cap * 1 ∧ cur.toList.take (l.length * 1) = bytesV l := by
  rcases hown.2 with ⟨_, hz⟩ | ⟨g, cap, cur, hv, r⟩
  ·
   exact absurd hz hl0
  ·
   exact ⟨g, cap, cur, hv, r⟩
 have c1 : w.drew.cell? ⟨b, 1, none⟩ = some (.slice (some ⟨g, 0, none⟩) l.length cap) := by
  have : w.drew.heap[b]? = some (.cells #[p, .slice (some ⟨g, 0, none⟩) l.length cap] 75 (0, 0)) := hbk
  rw [Lib.cell_of_heap this]; rfl
 have hSD : (Builtin.unsafeSliceData_ #[73] 112 #[.slice (some ⟨g, 0, none⟩) l.length cap]).run Tryd.prog w.drew = .ok (.pointer (some ⟨g, 0, none⟩)) w.drew :=
  Lib.run_unsafeSliceData_row _ _ _ _ _ _ (by omega)
 have hUS : (Builtin.unsafeString_ #[112, 3] 9 #[.pointer (some ⟨g, 0, none⟩), .int .i64 l.length]).run Tryd.prog w.drew = .ok (.string ⟨l.toArray⟩) (w.drew.freeze ⟨g, 0, none⟩ l.length) := by
  refine Lib.run_unsafeString_row w.drew 112 3 9 5 Tryd.underlying112 cellsU8 g cur.size (by have hg' : w.drew.heap[g]? = some (.cells cur 5 (0, 0)) := hg; simp [World.shape?, hg']) l h0 (by omega) (by unfold maxLen at hcm; omega) ?_
  intro j x hx
  have := hown.cells (g := g) rfl j (.int .u8 x.toNat) (by simp [bytesV, hx])
  exact this
 have HG := Lib.hid hg
 clear hbk hown hne h hg htake hcs
 go_enter Tryd.func33, Tryd.ntmps33
 go_wp2
 go_region
 all_goals (go_wp2; go_ret; exact ⟨rfl, keptU_freeze HG.out (b := b) l.length, Lib.below_freeze (Below.drew (Below.refl B w)) (p := ⟨g, 0, none⟩) hbg _⟩)
variable {F : Fence} {n : Nat} {P : Program}
theorem rangeFunc_run3 {α : Type} {g : Operand} {ps : Array Tmp} {assign body : Code} {Q : Exit → Act → World → Prop} {a : Act} {w : World}
  (hro : F.round = none) (h1 : 1 ≤ n) {gf : Nat} {lb : Array Value} (hg : a.eval g = .func (.func gf) #[] lb) (hFg : F.fn gf) (eg : ∀ args w, (callFunc gf args).run P w = .ok (.enter gf args) w)
  {encs : α → Array Value} {T : Nat → Prop} {S : List α → Prop} {N : Nat}
  (hseq : ∀ W1 : World, W1.heap.size = w.heap.size + 2 → Below w.heap.size w W1 → SeqRun2 F (n - 1) P gf lb encs T S N W1)
  (hT : ¬ T (w.heap.size + 1)) (hps : ∀ x, (encs x).size = ps.size)
  (I : List α → World → Prop) (hI : ∀ s W W' row, I s W → W.grownBy W' row → (∀ r, row = some r → r = w.heap.size + 1) → I s W') (h0 : I [] w) (a₁ : α → Act)
  (hassign : ∀ (l : Nat) (x : α) (W : World) (K : Act → World → Prop), K (a₁ x) W →
   assign.wpIn (F.inRound l) (n - 1 - 1) P (Exit.then K (fun _ _ _ => False)) { tmps := (ps.zip (encs x)).foldl (fun t (p, v) => t.setIfInBounds p v) a.tmps, defers := [] } W)
  (hbody : ∀ (l : Nat) (pre : List α) (x : α) (W : World), I pre W → w.heap.size + 2 ≤ W.heap.size → W.heap[w.heap.size]? = some (.deferred (some [])) → (∃ lp, W.heap[w.heap.size + 1]? = some (.loop lp)) → pre.length < N → body.wpIn (F.inRound l) (n - 1 - 1) P (runPost w.heap.size T I (pre ++ [x]) W) (a₁ x) W)
  (hdone : ∀ (xs : List α) (W : World), S xs → I xs W → W.heap[w.heap.size]? = some (.deferred (some [])) → Q .normal { a with defers := { target := .collected w.heap.size, args := #[] } :: a.defers } W) :
  (Code.rangeFunc g ps assign body).wpIn F n P Q a w := by
 refine wpIn_rangeFunc fun fn hfn => ?_
 rw [hro]
 let r0 : LoopState → Loop := fun st => { state := st, pending := none, fn, tmps := a.tmps, params := ps, assign, body, defers := w.heap.size }
 have hW : Below w.heap.size w ((w.alloc (.deferred (some []))).alloc (.loop (r0 .ready))) := ((Below.refl _ w).alloc (Nat.le_refl _) _).alloc (by simp) _
 have hz : ((w.alloc (.deferred (some []))).alloc (.loop (r0 .ready))).heap.size = w.heap.size + 2 := by simp
 have hl0 : ((w.alloc (.deferred (some []))).alloc (.loop (r0 .ready))).heap[w.heap.size + 1]? = some (.loop (r0 .ready)) := by
  have := World.alloc_heap_new (w.alloc (.deferred (some []))) (.loop (r0 .ready)); rwa [World.size_alloc] at this
 have hd0 : ((w.alloc (.deferred (some []))).alloc (.loop (r0 .ready))).heap[w.heap.size]? = some (.deferred (some [])) :=
  (Below.heap_alloc _ _ _ (by simp)).trans (World.alloc_heap_new w _)
 have hi0 : I [] ((w.alloc (.deferred (some []))).alloc (.loop (r0 .ready))) :=
  hI _ _ _ none (hI _ _ _ none h0 (World.grownBy_alloc w _ none) (by simp)) (World.grownBy_alloc _ _ none) (by simp)
 refine ⟨w.heap.size + 1, [{ target := .collected w.heap.size, args := #[] }], (w.alloc (.deferred (some []))).alloc (.loop (r0 .ready)), { target := .fn (.func gf) lb, args := #[.func (.yield (w.heap.size + 1)) #[] #[]] }, (w.alloc (.deferred (some []))).alloc (.loop (r0 .ready)), gf,
  #[.func (.yield (w.heap.size + 1)) #[] #[]] ++ lb, (w.alloc (.deferred (some []))).alloc (.loop (r0 .ready)), run_enterLoop_outer _ _ _ _ _, ?_, ?_, ?_, fun _ => h1, ?_⟩
 ·
  simp only [resolve, hg]
  simp [go_sem]
 ·
  intro f' hf'; simp [Target.leads] at hf'; subst hf'; exact hFg
 ·
  simp [invoke, go_sem, eg]
 ·
  refine (hseq _ hz hW (w.heap.size + 1) (fun pre W => I pre W ∧ W.heap[w.heap.size + 1]? = some (.loop (r0 .ready)) ∧ W.heap[w.heap.size]? = some (.deferred (some []))) ?_ ?_ ⟨hi0, hl0, hd0⟩ (fun _ W h => by have := (Array.getElem?_eq_some_iff.1 h.2.1).1; omega)).mono ?_
  ·
   rintro s A B ⟨h1, h2, h3⟩ hg'
   exact ⟨hI _ _ _ none h1 hg' (by simp), (hg'.block _ (Array.getElem?_eq_some_iff.1 h2).1 (by simp)).trans h2, (hg'.block _ (Array.getElem?_eq_some_iff.1 h3).1 (by simp)).trans h3⟩
  ·
   rintro pre x W ⟨hi, hl, hd⟩ hlen
   have hlt := (Array.getElem?_eq_some_iff.1 hl).1
   refine ⟨fn, _, assign, body, run_yield (P := P) (args := encs x) hl (hps x), roundIn_of_wpIn hfn (hassign _ x W _ ?_)⟩
   refine ⟨_, run_beginRound hl rfl, ?_⟩
   refine wpIn_mono (hbody (w.heap.size + 1) pre x _ (hI _ _ _ _ hi (grownBy_putObj' W (w.heap.size + 1) _) (fun r e => by cases e; rfl)) (Nat.le_trans hlt (grownBy_putObj' W (w.heap.size + 1) _).size) ((World.putObj_heap_other (by omega)).trans hd) ⟨_, World.putObj_heap_same hlt⟩ hlen) ?_
   rintro e a3 W3 hp
   cases e with
   | normal =>
    obtain ⟨h1, h2, h3, h4⟩ := hp
    have hl3 : W3.heap[w.heap.size + 1]? = some (.loop (r0 .busy)) := h2.trans (World.putObj_heap_same hlt)
    have hd3 : W3.heap[w.heap.size]? = some (.deferred (some [])) := h1.trans ((World.putObj_heap_other (by omega)).trans hd)
    exact ⟨_, _, run_endRound none hl3, rfl, ⟨hI _ _ _ _ h4 (grownBy_putObj' W3 (w.heap.size + 1) _) (fun r e => by cases e; rfl), World.putObj_heap_same (Array.getElem?_eq_some_iff.1 hl3).1, (World.putObj_heap_other (by omega)).trans hd3⟩,
     ((KeepT.put W _ hT).trans h3).trans (KeepT.put W3 _ hT)⟩
   | ret => exact hp.elim
   | exit id => exact hp.elim
   | goto t => exact hp.elim
   | panic ch => exact hp.elim
   | outgrown => exact hp.elim
  ·
   rintro e W2 ⟨⟨v, rfl⟩, xs, hS, hi, hl, hd⟩
   exact ⟨none, _, run_endLoop (P := P) hl (by simp [r0]), hdone xs _ hS (hI _ _ _ _ hi (grownBy_putObj' W2 (w.heap.size + 1) _) (fun r e => by cases e; rfl)) ((World.putObj_heap_other (by omega)).trans hd)⟩
/-- the world after two marks are taken over -/
def markW (w : World) (b1 b2 : Nat) : World := (w.putObj b1 (.deferred none)).putObj b2 (.deferred none)
theorem markW_other {w : World} {b1 b2 k : Nat} (h1 : k ≠ b1) (h2 : k ≠ b2) : (markW w b1 b2).heap[k]? = w.heap[k]? := (World.putObj_heap_other h2).trans (World.putObj_heap_other h1)
theorem leave2 {F : Fence} {n : Nat} {P : Program} {fn : Func} {tmps : Array Value} {R : Ending → World → Prop} {Wf : World} {b1 b2 : Nat} (z1 : Wf.heap[b1]? = some (.deferred (some []))) (z2 : Wf.heap[b2]? = some (.deferred (some []))) (hne : b2 ≠ b1)
  (h : LeavesInM F n P fn tmps R [] .returning (markW Wf b1 b2)) : LeavesInM F n P fn tmps R [{ target := .collected b1, args := #[] }, { target := .collected b2, args := #[] }] .returning Wf := by
 have z2' : (Wf.putObj b1 (.deferred none)).heap[b2]? = some (.deferred (some [])) := (World.putObj_heap_other hne).trans z2
 refine ⟨by simp, .inl ⟨_, _, rfl, run_takeDeferred z1, ?_⟩⟩
 exact ⟨by simp, .inl ⟨_, _, rfl, run_takeDeferred z2', h⟩⟩
theorem markW_below {w Wf : World} {b1 b2 : Nat} (h : Below w.heap.size w Wf) (h1 : w.heap.size ≤ b1) (h2 : w.heap.size ≤ b2) : Below w.heap.size w (markW Wf b1 b2) := by
 refine ⟨h.os, h.tape, h.output, ?_, fun k hk => (markW_other (by omega) (by omega)).trans (h.block k hk)⟩
 have := h.size
 simpa [markW, World.putObj] using this
end Go.Proofs.YtghikgjknhjjgaaDoor
