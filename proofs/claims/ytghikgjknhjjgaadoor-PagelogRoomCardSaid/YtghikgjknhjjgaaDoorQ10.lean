/- The reference's Decimal, Size, stream. Disks and logs do not lie in a box that holds no string: they keep their values over stores into it. No function of the program is named here. pagelog.Open = openL at any pages; pagelog.valid, quiltref41.Valid = validL. The reference's comparison of records, Valid; Room on both sides. Plain laws: headers, and what a log in good order is (LogS): it opens as itself. No function of the program is named here. Operations of a disk: pagelog.write, its function, pagelog.perform = perfP. pagelog.next: the operations that write the next header. -/
import Derived.Test.YtghikgjknhjjgaaDoorQ06
import Derived.Test.YtghikgjknhjjgaaDoorQ08
import Derived.Test.YtghikgjknhjjgaaDoorQ09
import Derived.Test.YtghikgjknhjjgaaDoorQ02
import Derived.Test.YtghikgjknhjjgaaDoorQ05
import Derived.Test.YtghikgjknhjjgaaDoorQ01
namespace Go.Proofs.YtghikgjknhjjgaaDoor
set_option maxRecDepth 100000
open Go.RowKit
end Go.Proofs.YtghikgjknhjjgaaDoor
namespace Go.Proofs.YtghikgjknhjjgaaDoor
set_option maxRecDepth 100000
open Go.RowKit
def NoS (cs : Array Value) : Prop := ∀ (k : Nat) (s : ByteArray), cs[k]? ≠ some (.string s)
theorem noS4 {a b : Int} {x y : Value} (hx : ∀ s, x ≠ .string s) (hy : ∀ s, y ≠ .string s) : NoS #[.int .i64 a, x, y, .int .i64 b] := by
 intro k s
 rcases k with _ | _ | _ | _ | k <;> simp <;> first | exact hx s | exact hy s | skip
theorem noS_dC (d : Dsk) (po co : Option Addr) (pc cc : Nat) : NoS (dC d po co pc cc) := noS4 (by simp) (by simp)
abbrev dZ : Array Value := #[.int .i64 0, .slice none 0 0, .slice none 0 0, .int .i64 0]
theorem noS_dZ : NoS dZ := noS4 (by simp) (by simp)
theorem noS_lg (a b c e f : Int) (o1 o2 o3 : Option Addr) (n1 n2 n3 c1 c2 c3 : Nat) : NoS #[.int .i64 a, .slice o1 n1 c1, .slice o2 n2 c2, .int .i64 b, .int .i64 c, .int .i64 e, .int .i64 f, .slice o3 n3 c3] := by
 intro k s
 rcases k with _ | _ | _ | _ | _ | _ | _ | _ | k <;> simp
theorem StrsAt.apart {S : Nat → Prop} {w : World} {o : Option Addr} {l : List ByteArray} {r : Nat} {cs : Array Value} {t : TypeId} (h : StrsAt S w o l) (hx : Bx w r cs t) (hn : NoS cs) : StrsAt (fun b => S b ∧ b ≠ r) w o l := by
 intro i hi
 obtain ⟨b, off, e, hc, hs⟩ := h i hi
 refine ⟨b, off, e, hc, hs, ?_⟩
 rintro rfl
 rw [hx.cell] at hc
 exact hn _ _ hc
theorem PWsAt.apart {S : Nat → Prop} {w : World} {o : Option Addr} {l : List PW} {r : Nat} {cs : Array Value} {t : TypeId} (h : PWsAt S w o l) (hx : Bx w r cs t) (hn : NoS cs) : PWsAt (fun b => S b ∧ b ≠ r) w o l := by
 intro i hi
 obtain ⟨b, off, e, hc, hd, hs⟩ := h i hi
 refine ⟨b, off, e, hc, hd, hs, ?_⟩
 rintro rfl
 rw [hx.cell] at hd
 exact hn _ _ hd
theorem DskR.apart {S : Nat → Prop} {w : World} {v : Value} {d : Dsk} {r : Nat} {cs : Array Value} {t : TypeId} (h : DskR S w v d) (hx : Bx w r cs t) (hn : NoS cs) : DskR (fun b => S b ∧ b ≠ r) w v d := by
 obtain ⟨po, pc, co, cc, e, hp, hc, ok⟩ := h
 exact ⟨po, pc, co, cc, e, hp.apart hx hn, hc.apart hx hn, ok⟩
/-- only block r is another one -/
def Only (r : Nat) (w w' : World) : Prop := w.heap.size ≤ w'.heap.size ∧ ∀ b, b ≠ r → w'.heap[b]? = w.heap[b]?
theorem Only.refl (r : Nat) (w : World) : Only r w w := ⟨Nat.le_refl _, fun _ _ => rfl⟩
theorem Only.set {r : Nat} {w w' : World} (h : Only r w w') (k : Nat) (v : Value) : Only r w (w'.setCell ⟨r, k, none⟩ v) := ⟨by simpa using h.1, fun b hb => (Below.heap_setCell w' ⟨r, k, none⟩ v b hb).trans (h.2 b hb)⟩
theorem Only.one {r k : Nat} {v : Value} {w : World} : Only r w (w.setCell ⟨r, k, none⟩ v) := (Only.refl r w).set k v
theorem Only.four {r : Nat} {v0 v1 v2 v3 : Value} {w : World} : Only r w ((((w.setCell ⟨r, 0, none⟩ v0).setCell ⟨r, 1, none⟩ v1).setCell ⟨r, 2, none⟩ v2).setCell ⟨r, 3, none⟩ v3) := ((((Only.refl r w).set 0 _).set 1 _).set 2 _).set 3 _
def st4 (w : World) (b : Nat) (v0 v1 v2 v3 : Value) : World := (((w.setCell ⟨b, 0, none⟩ v0).setCell ⟨b, 1, none⟩ v1).setCell ⟨b, 2, none⟩ v2).setCell ⟨b, 3, none⟩ v3
theorem only_st4 {w : World} {b : Nat} {v0 v1 v2 v3 : Value} : Only b w (Go.Proofs.YtghikgjknhjjgaaDoor.st4 w b v0 v1 v2 v3) := Only.four
theorem Bx.st4 {w : World} {b : Nat} {u0 u1 u2 u3 v0 v1 v2 v3 : Value} {t : TypeId} (h : Bx w b #[u0, u1, u2, u3] t) : Bx (Go.Proofs.YtghikgjknhjjgaaDoor.st4 w b v0 v1 v2 v3) b #[v0, v1, v2, v3] t := h.set4
theorem below_st4 {B b : Nat} {w w' : World} {v0 v1 v2 v3 : Value} (h : Below B w w') (hb : B ≤ b) : Below B w (Go.Proofs.YtghikgjknhjjgaaDoor.st4 w' b v0 v1 v2 v3) := below_set4 (b := b) h hb
theorem size_st4 (w : World) (b : Nat) (v0 v1 v2 v3 : Value) : (Go.Proofs.YtghikgjknhjjgaaDoor.st4 w b v0 v1 v2 v3).heap.size = w.heap.size := size_set4
theorem Only.eight {r : Nat} {v0 v1 v2 v3 v4 v5 v6 v7 : Value} {w : World} : Only r w (st8 w r v0 v1 v2 v3 v4 v5 v6 v7) := ((((((((Only.refl r w).set 0 _).set 1 _).set 2 _).set 3 _).set 4 _).set 5 _).set 6 _).set 7 _
theorem DskV.only {w w' : World} {v : Value} {d : Dsk} {r : Nat} {cs : Array Value} {t : TypeId} (h : DskV w v d) (hx : Bx w r cs t) (hn : NoS cs) (ho : Only r w w') : DskV w' v d :=
 ((DskR.apart h hx hn).same (w' := w') (fun b hb => ho.2 b hb.2)).mono (fun _b hb => Nat.lt_of_lt_of_le hb.1 ho.1)
theorem StrsAt.only {w w' : World} {o : Option Addr} {l : List ByteArray} {r : Nat} {cs : Array Value} {t : TypeId} (h : StrsAt (· < w.heap.size) w o l) (hx : Bx w r cs t) (hn : NoS cs) (ho : Only r w w') : StrsAt (· < w'.heap.size) w' o l :=
 ((StrsAt.apart h hx hn).same (w' := w') (fun b hb => ho.2 b hb.2)).mono (fun _b hb => Nat.lt_of_lt_of_le hb.1 ho.1)
theorem LgV.only {w w' : World} {v : Value} {l : Lg} {r : Nat} {cs : Array Value} {t : TypeId} (h : LgV w v l) (hx : Bx w r cs t) (hn : NoS cs) (ho : Only r w w') : LgV w' v l := by
 obtain ⟨po, pc, co, cc, ro, rc, e, h1, h2, h3⟩ := h
 exact ⟨po, pc, co, cc, ro, rc, e, h1.only hx hn ho, h2, h3.only hx hn ho⟩
theorem Bx.only {w w' : World} {r b : Nat} {cs : Array Value} {t : TypeId} (h : Bx w b cs t) (ho : Only r w w') (hb : b ≠ r) : Bx w' b cs t := (ho.2 b hb).trans h
theorem Below.only {B r : Nat} {w w' w'' : World} (h : Below B w w') (ho : Only r w' w'') (hos : w''.os = w'.os) (htp : w''.tape = w'.tape) (hou : w''.output = w'.output) (hr : B ≤ r) : Below B w w'' :=
 ⟨hos ▸ h.os, htp ▸ h.tape, hou ▸ h.output, Nat.le_trans h.size ho.1, fun b hb => (ho.2 b (by omega)).trans (h.block b hb)⟩
end Go.Proofs.YtghikgjknhjjgaaDoor
namespace Go.Proofs.YtghikgjknhjjgaaDoor
set_option maxRecDepth 100000
open Go.RowKit Go.Shelf
set_option maxRecDepth 100000 in
set_option maxHeartbeats 1000000 in
theorem pl_Open_bad (d : Dsk) (v : Value) (frm til : Int) (w : World) (hD : DskV w v d) (hf : fitE d frm til ≠ 0) :
  Calls Tryd.prog 13 #[v, .int .i64 frm, .int .i64 til] w (RetLE w zeroL (fitE d frm til)) := by
 have hD0 := hD
 obtain ⟨po, pc, co, cc, rfl⟩ := hD.agg
 obtain ⟨N, hN⟩ : ∃ N, w.heap.size = N := ⟨_, rfl⟩
 obtain ⟨W0, hW0⟩ : ∃ W0, (((w.alloc (.cells (dC d po co pc cc) 30)).alloc (.cells #[.int .i64 frm] 3)).alloc (.cells #[.int .i64 til] 3)).alloc (.cells lgZ 32) = W0 := ⟨_, rfl⟩
 have x0 : Bx W0 N (dC d po co pc cc) 30 := by subst hW0 hN; exact (((Bx.new w _ _).alloc _).alloc _).alloc _
 have x1 : Bx W0 (N + 1) #[.int .i64 frm] 3 := by subst hW0 hN; exact ((Bx.newAt _ _ _ _ (by simp)).alloc _).alloc _
 have x2 : Bx W0 (N + 1 + 1) #[.int .i64 til] 3 := by subst hW0 hN; exact (Bx.newAt _ _ _ _ (by simp)).alloc _
 have x3 : Bx W0 (N + 1 + 1 + 1) lgZ 32 := by subst hW0 hN; exact Bx.newAt _ _ _ _ (by simp)
 have hB0 : Below w.heap.size w W0 := by subst hW0; exact (((Below.one w _).alloc (by simp) _).alloc (by simp; omega) _).alloc (by simp; omega) _
 obtain ⟨n, hn⟩ : ∃ n, 9 ≤ n := ⟨9, Nat.le_refl _⟩
 refine (callsIn_wide (n := n)).1 ?_
 have hro : Fence.wide.round = none := rfl
 have h1 : 1 ≤ n := by omega
 refine callsIn_of_wp_marks Tryd.func13 rfl trivial ?_ hro
 simp only [Tryd.ntmps13, List.size_toArray, List.length_cons, List.length_nil, Nat.reduceAdd, Nat.reduceSub, Array.replicate_succ, Array.replicate_zero, List.push_toArray, List.append_toArray, List.nil_append, List.cons_append]
 obtain ⟨er, her⟩ : ∃ er, fitE d frm til = er := ⟨_, rfl⟩
 rw [her] at hf ⊢
 have hfit := fun W vv (h : DskV W vv d) => by have := pl_fits d vv frm til W h; rw [her] at this; exact this
 have Hfit := Lib.hid hfit
 have c0 := x0.cell
 have c1 := x1.cell 0
 have c2 := x2.cell 0
 have l0 := x0.lt
 simp at c1 c2
 have hne : (er != 0) = true := by simpa using hf
 have hbad : ¬ (er = 0) := hf
 clear hfit hf her
 gi_wp2_with (refine ⟨trivial, ?_⟩; gi_at_call 27; refine (callsIn_wide.2 (Hfit.out _ _ (hD0.below hB0))).mono ?_)
 rintro e w1 ⟨rfl, hb1⟩
 have y3 := x3.belowAll hb1
 have hB1 := btr hB0 hb1
 clear c0 c1 c2 l0 x0 x1 x2 x3 hW0 hb1
 have cX := y3.cell
 have lX := y3.lt
 have fX := y3.free
 obtain ⟨Wf, hWf⟩ : ∃ Wf, st8 w1 (N + 1 + 1 + 1) (.int .i64 0) (.slice none 0 0) (.slice none 0 0) (.int .i64 0) (.int .i64 0) (.int .i64 0) (.int .i64 0) (.slice none 0 0) = Wf := ⟨_, rfl⟩
 have zR : Bx Wf (N + 1 + 1 + 1) lgZ 32 := by subst hWf; exact y3.set8
 have zB : Below w.heap.size w Wf := by subst hWf; exact below_set8 hB1 (by omega)
 have HWf := Lib.hid hWf
 clear hWf
 gi_wp2
 have HW := HWf.out
 unfold st8 at HW
 rw [HW]
 have cZ := zR.cell
 refine ⟨.tuple #[.agg lgZ, .int .i64 er], ?_, ?_⟩
 ·
  simp [results, Tryd.f13, go_sem, cZ]
 ·
  exact ⟨_, rfl, LgV.zero _, zB⟩
theorem pl_Open (d : Dsk) (v : Value) (frm til : Int) (w : World) (hD : DskV w v d) :
  Calls Tryd.prog 13 #[v, .int .i64 frm, .int .i64 til] w (RetLE w (openL d frm til).1 (openL d frm til).2) := by
 by_cases hf : fitE d frm til = 0
 ·
  exact pl_Open_ok d v frm til w hD hf
 ·
  rw [openL_bad hf]
  exact pl_Open_bad d v frm til w hD hf
theorem sl_equal {S T : Nat → Prop} (l m : List ByteArray) (a b : Option Addr) (c d : Nat) (w : World) (ha : StrsAt S w a l) (hb : StrsAt T w b m) (hl : l.length ≤ 9223372036854775807) (hm : m.length ≤ 9223372036854775807) :
  Calls Tryd.prog 14 #[.slice a l.length c, .slice b m.length d] w fun e w' => e = .returned (.bool (decide (l = m))) ∧ Below w.heap.size w w' := by
 by_cases hlm : l.length = m.length
 ·
  cases l with
  | nil =>
   have hm0 : m = [] := List.eq_nil_of_length_eq_zero (by simpa using hlm.symm)
   subst hm0
   refine (Tryd.slices_Equal_string_empty a b c 0 d w (by omega)).mono ?_
   rintro e w' ⟨rfl, rfl⟩
   exact ⟨rfl, Below.refl _ _⟩
  | cons x l =>
   obtain ⟨b1, o1, rfl, _⟩ := ha 0 (by simp)
   obtain ⟨b2, o2, rfl, _⟩ := hb 0 (by rw [← hlm]; simp)
   refine (Tryd.slices_Equal_string b1 o1 _ c b2 o2 _ d (x :: l) m w (Nat.le_refl _) (Nat.le_refl _) hl hm (fun j hj => ?_) (fun j hj => ?_)).mono ?_
   ·
    obtain ⟨b, off, e, hc, _⟩ := ha j hj
    obtain ⟨rfl, rfl⟩ : b1 = b ∧ o1 = off := by simpa using e
    rw [hc, List.getD, List.getElem?_eq_getElem hj, Option.getD_some]
   ·
    obtain ⟨b, off, e, hc, _⟩ := hb j hj
    obtain ⟨rfl, rfl⟩ : b2 = b ∧ o2 = off := by simpa using e
    rw [hc, List.getD, List.getElem?_eq_getElem hj, Option.getD_some]
   ·
    rintro e w' ⟨rfl, q, rfl⟩
    rw [List.take_length, List.take_length]
    exact ⟨rfl, Below.drewN (Below.refl _ _) q⟩
 ·
  refine (Tryd.slices_Equal_string_lens a b _ c _ d w hlm).mono ?_
  rintro e w' ⟨rfl, rfl⟩
  refine ⟨?_, Below.refl _ _⟩
  rw [decide_eq_false]
  intro e
  exact hlm (by rw [e])
theorem slw_len {o : Option Addr} {n c : Nat} (h : SlW o n c) : n ≤ 9223372036854775807 := by
 rcases h with ⟨_, rfl, _⟩ | ⟨_, _, h1, h2⟩
 ·
  omega
 ·
  unfold maxLen at h2; omega
set_option maxRecDepth 100000 in
set_option maxHeartbeats 1000000 in
theorem pl_valid (l : Lg) (v : Value) (w : World) (hL : LgV w v l) :
  Calls Tryd.prog 36 #[v] w fun e w' => e = .returned (.bool (validL l)) ∧ Below w.heap.size w w' := by
 obtain ⟨po, pc, co, cc, ro, rc, rfl, hD, hsl, hst⟩ := hL
 obtain ⟨N, hN⟩ : ∃ N, w.heap.size = N := ⟨_, rfl⟩
 obtain ⟨W0, hW0⟩ : ∃ W0, w.alloc (.cells (lgC l.disk po co pc cc l.frm l.til l.ver ro l.recs.length rc) 32) = W0 := ⟨_, rfl⟩
 have x0 : Bx W0 N (lgC l.disk po co pc cc l.frm l.til l.ver ro l.recs.length rc) 32 := by subst hW0 hN; exact Bx.new w _ _
 have hB0 : Below w.heap.size w W0 := by subst hW0; exact Below.one w _
 obtain ⟨X, er, he⟩ : ∃ X er, openL l.disk l.frm l.til = (X, er) := ⟨_, _, rfl⟩
 have hval : validL l = (decide (er = 0) && decide (X.ver = l.ver) && decide (X.recs = l.recs)) := by unfold validL; rw [he]
 have ho := pl_Open l.disk _ l.frm l.til W0 (hD.below hB0)
 rw [he] at ho
 rw [hval]
 have Ho := Lib.hid ho
 clear ho he hval
 have c0 := x0.cell
 have l0 := x0.lt
 go_enter Tryd.func36, Tryd.ntmps36
 go_wp2_with fail
 refine Ho.out.mono ?_
 rintro e w1 ⟨v1, rfl, hX, hb1⟩
 obtain ⟨po1, pc1, co1, cc1, ro1, rc1, rfl, hD1, hsl1, hst1⟩ := hX
 have y0 := x0.belowAll hb1
 have hB1 := btr hB0 hb1
 clear c0 l0
 have c0 := y0.cell
 have l0 := y0.lt
 have hz := hB1.size
 have heq := fun W (hb : Below w1.heap.size w1 W) => sl_equal X.recs l.recs ro1 ro rc1 rc W (hst1.below hb) (hst.below (btr hB1 hb)) (slw_len hsl1) (slw_len hsl)
 have Heq := Lib.hid heq
 clear heq hst1 hst hsl hsl1 hD hD1
 cases g1 : (er == 0)
 ·
  have e1 : er ≠ 0 := by simpa using g1
  go_wp2
  go_ret
  exact ⟨by simp [e1], hB1.alloc (by omega) _⟩
 ·
  have e1 : er = 0 := by simpa using g1
  cases g2 : (X.ver == l.ver)
  ·
   have e2 : X.ver ≠ l.ver := by simpa using g2
   go_wp2
   go_ret
   exact ⟨by simp [e2], hB1.alloc (by omega) _⟩
  ·
   have e2 : X.ver = l.ver := by simpa using g2
   go_wp2_with fail
   refine (Heq.out _ (Below.one _ _)).mono ?_
   rintro e w2 ⟨rfl, hb2⟩
   go_wp2
   go_ret
   exact ⟨by simp [e1, e2], btr (hB1.alloc (by omega) _) hb2⟩
end Go.Proofs.YtghikgjknhjjgaaDoor
namespace Go.Proofs.YtghikgjknhjjgaaDoor
set_option maxRecDepth 100000
open Go.RowKit Go.Shelf
theorem validL_parts {l : Lg} (h : validL l = true) : fitE l.disk l.frm l.til = 0 ∧ (headL l.disk l.frm l.til).1 ≠ 0 ∧ l.ver = (headL l.disk l.frm l.til).1 ∧ recsOf ((areaL l.disk l.frm l.til).take (headL l.disk l.frm l.til).2) = some l.recs := by
 unfold validL at h
 simp only [Bool.and_eq_true, decide_eq_true_eq] at h
 obtain ⟨⟨h1, h2⟩, h3⟩ := h
 by_cases hf : fitE l.disk l.frm l.til = 0
 ·
  by_cases hv : (headL l.disk l.frm l.til).1 = 0
  ·
   rw [openL_nohead hf hv] at h1; cases h1
  ·
   cases hr : recsOf ((areaL l.disk l.frm l.til).take (headL l.disk l.frm l.til).2) with
   | none => rw [openL_norecs hf hv hr] at h1; cases h1
   | some rs =>
    rw [openL_ok hf hv hr] at h2 h3
    exact ⟨hf, hv, h2.symm, congrArg some h3⟩
 ·
  rw [openL_bad hf] at h1; exact absurd h1 hf
/-- a valid log's records are those of the area: their size is what its header says -/
theorem valid_size {l : Lg} (h : validL l = true) : sizeL l.recs = (headL l.disk l.frm l.til).2 ∧ (sizeL l.recs : Int) ≤ areaN l.disk l.frm l.til ∧ streamL l.recs = (areaL l.disk l.frm l.til).take (sizeL l.recs) ∧ ∀ s ∈ l.recs, s.size ≤ 65536 := by
 obtain ⟨h1, h2, h3, h4⟩ := validL_parts h
 obtain ⟨e, hz⟩ := recsOf_stream h4
 have hb := (headL_bd l.disk l.frm l.til).2.2 h2
 have hs : sizeL l.recs = (headL l.disk l.frm l.til).2 := by
  rw [← streamL_len, e, List.length_take]
  have := areaL_len h1
  omega
 exact ⟨hs, by omega, by rw [hs]; exact e, hz⟩
theorem recs_len_size (l : List ByteArray) : 2 * l.length ≤ sizeL l := by
 induction l with
 | nil => simp [sizeL]
 | cons x l ih =>
  have e' : sizeL (x :: l) = ((Lib.decDigits x.size).length + 1 + x.size) + sizeL l := by simp [sizeL]
  have := Lib.decDigits_length x.size
  have := Lib.nDigits_pos x.size
  rw [e']
  simp
  omega
theorem valid_bd {l : Lg} (h : validL l = true) : sizeL l.recs ≤ 1024000 ∧ l.recs.length ≤ 1024000 := by
 have h1 := (valid_size h).2.1
 have h2 := (area_bd (validL_parts h).1).2.1
 have h3 := recs_len_size l.recs
 omega
set_option maxRecDepth 100000 in
set_option maxHeartbeats 1000000 in
theorem pl_Room (l : Lg) (v : Value) (w : World) (hL : LgV w v l) (hT : TabW w) :
  Calls Tryd.prog 17 #[v] w fun e w' => e = .returned (.int .i64 (roomL l)) ∧ Below w.heap.size w w' := by
 have hL0 := hL
 obtain ⟨po, pc, co, cc, ro, rc, rfl, hD, hsl, hst⟩ := hL
 obtain ⟨N, hN⟩ : ∃ N, w.heap.size = N := ⟨_, rfl⟩
 obtain ⟨W0, hW0⟩ : ∃ W0, w.alloc (.cells (lgC l.disk po co pc cc l.frm l.til l.ver ro l.recs.length rc) 32) = W0 := ⟨_, rfl⟩
 have x0 : Bx W0 N (lgC l.disk po co pc cc l.frm l.til l.ver ro l.recs.length rc) 32 := by subst hW0 hN; exact Bx.new w _ _
 have hB0 : Below w.heap.size w W0 := by subst hW0; exact Below.one w _
 have hv := pl_valid l _ W0 (hL0.below hB0)
 unfold roomL
 cases g : validL l
 ·
  rw [g] at hv
  have Hv := Lib.hid hv
  clear hv g
  have c0 := x0.cell
  have l0 := x0.lt
  go_enter Tryd.func17, Tryd.ntmps17
  go_wp2_with fail
  refine Hv.out.mono ?_
  rintro e w1 ⟨rfl, hb1⟩
  go_wp2
  go_ret
  exact ⟨rfl, by first | exact btr hB0 hb1 | (rw [← hN]; exact btr hB0 hb1)⟩
 ·
  rw [g] at hv
  have hbd := valid_bd g
  have hf := (validL_parts g).1
  have hab := area_bd hf
  have Hv := Lib.hid hv
  have hA := fun W (hb : Below w.heap.size w W) => pl_area l.disk _ l.frm l.til W hf (hD.below hb)
  have hS := fun W (hb : Below w.heap.size w W) => pl_Size W ro rc l.recs (hst.below hb) (by omega) (hT.below hb) (by omega)
  obtain ⟨a, ha⟩ : ∃ a, areaN l.disk l.frm l.til = a := ⟨_, rfl⟩
  obtain ⟨s, hs⟩ : ∃ s, sizeL l.recs = s := ⟨_, rfl⟩
  rw [ha] at hA hab
  rw [hs] at hS hbd
  rw [ha, hs]
  have HA := Lib.hid hA
  have HS := Lib.hid hS
  have Hab := Lib.hid hab
  have Hbd := Lib.hid hbd
  have hsub : IntKind.i64.wrap (a - (s : Int)) = a - s := IntWalk.i64_in _ (by have := Hab.out; have := Hbd.out; omega)
  clear hv g hA hS hab hbd hf ha hs hD hL0
  have c0 := x0.cell
  have l0 := x0.lt
  go_enter Tryd.func17, Tryd.ntmps17
  go_wp2_with fail
  refine Hv.out.mono ?_
  rintro e w1 ⟨rfl, hb1⟩
  have y0 := x0.belowAll hb1
  have hB1 := btr hB0 hb1
  clear c0 l0
  have c0 := y0.cell
  have l0 := y0.lt
  have cQ := Lat.cells w1
  have hLB : ∀ x : Lat w1, Below w.heap.size w x.w := fun x => btr hB1 x.h
  go_wp2
  refine wp_region_lat (by kernel_rfl) (by kernel_rfl) ?_
  repeat (any_goals (first | go_big_quiet_skip | (go_big_quiet_want; go_big_quiet_op; first | go_big_quiet_on | go_big_quiet_call ((first | (go_at_call 30; exact Calls.lat (HA.out _ (hLB _))) | (go_at_call 18; exact Calls.lat (HS.out _ (hLB _)))))) | quiet_step ((first | (go_at_call 30; exact Calls.lat (HA.out _ (hLB _))) | (go_at_call 18; exact Calls.lat (HS.out _ (hLB _)))))))
  refine wpQuiet_nil ?_
  rintro W9 ⟨⟨_, hb9⟩, rfl⟩
  go_wp2
  go_ret
  exact ⟨rfl, by first | exact btr hB1 hb9 | (rw [← hN]; exact btr hB1 hb9)⟩
end Go.Proofs.YtghikgjknhjjgaaDoor
namespace Go.Proofs.YtghikgjknhjjgaaDoor
set_option maxRecDepth 100000
open Go.RowKit
theorem be_num8 {n : Nat} (h : n ≤ 1099511627776) : be (num8 n) = n := by
 unfold be num8
 simp only [List.foldl_cons, List.foldl_nil, UInt8.toNat_ofNat']
 omega
theorem num8_len (n : Nat) : (num8 n).length = 8 := rfl
theorem hdrL_len {z v n : Nat} (hz : 24 ≤ z) : (hdrL z v n).length = z := by unfold hdrL; simp [num8_len]; omega
theorem hdrL_v (z v n : Nat) : (hdrL z v n).take 8 = num8 v := by
 unfold hdrL
 rw [List.append_assoc, List.append_assoc]
 exact List.take_left' (num8_len v)
theorem hdrL_n (z v n : Nat) : ((hdrL z v n).drop 8).take 8 = num8 n := by
 unfold hdrL
 rw [List.append_assoc, List.append_assoc, List.drop_left' (num8_len v)]
 exact List.take_left' (num8_len n)
theorem hdrL_tail {z v n : Nat} (hz : 24 ≤ z) : (hdrL z v n).drop (z - 8) = num8 v := by
 unfold hdrL
 exact List.drop_left' (by simp [num8_len]; omega)
theorem hdrP_mk {z V n k : Nat} {a : Int} (hz : 24 ≤ z) (h1 : 1 ≤ V) (h2 : V ≤ 1099511627776) (h3 : V % 2 = k) (h4 : (n : Int) ≤ a) (h5 : n ≤ 1099511627776) : hdrP (hdrL z V n) k a = some (V, n) := by
 unfold hdrP
 rw [hdrL_v, hdrL_n, be_num8 h2, be_num8 h5, hdrL_len hz, if_pos ⟨h1, h2, h3, h4, h5, rfl⟩]
/-- a page that holds no later header -/
def OldH (z V : Nat) (p : List UInt8) : Prop := p.length = z ∧ p.take 7 = List.replicate 7 0 ∧ (p.drop (z - 8)).take 7 = List.replicate 7 0 ∧ (p.getD (z - 1) 0).toNat < V
theorem num8_small {v : Nat} (h : v < 256) : num8 v = List.replicate 7 0 ++ [UInt8.ofNat v] := by
 unfold num8
 rw [Nat.div_eq_of_lt (by omega), Nat.div_eq_of_lt (by omega), Nat.div_eq_of_lt (by omega), Nat.div_eq_of_lt (by omega), Nat.div_eq_of_lt (by omega), Nat.div_eq_of_lt (by omega), Nat.div_eq_of_lt h]
 rfl
theorem getD_drop {p : List UInt8} {a j : Nat} : (p.drop a).getD j 0 = p.getD (a + j) 0 := by simp [List.getD]
theorem hdrP_old {z V k v n : Nat} {a : Int} {p : List UInt8} (hz : 24 ≤ z) (h : OldH z V p) (hp : hdrP p k a = some (v, n)) : v < V := by
 obtain ⟨h1, h2, h3, h4⟩ := h
 obtain ⟨q1, q2, q3, q4, q5, q6, q7, q8⟩ := hdrP_some hp
 have e8 : p.take 8 = num8 v := by rw [q8, hdrL_v]
 have e7 : (num8 v).take 7 = List.replicate 7 0 := by rw [← e8, List.take_take]; exact h2
 have hv : v < 256 := by
  have hb : be (num8 v) = v := be_num8 q4
  have hs : num8 v = (num8 v).take 7 ++ [UInt8.ofNat v] := rfl
  rw [hs, e7] at hb
  have hc : be (List.replicate 7 0 ++ [UInt8.ofNat v]) = (UInt8.ofNat v).toNat := by simp [be, List.replicate]
  rw [hc, UInt8.toNat_ofNat'] at hb
  omega
 have et : p.drop (z - 8) = num8 v := by rw [q8, h1, hdrL_tail hz]
 have : p.getD (z - 1) 0 = UInt8.ofNat v := by
  have := getD_drop (p := p) (a := z - 8) (j := 7)
  rw [et, show z - 8 + 7 = z - 1 by omega] at this
  rw [← this]
  rfl
 rw [this, UInt8.toNat_ofNat'] at h4
 omega
theorem hdr_old {z V n : Nat} (hz : 24 ≤ z) (hV : V < 256) : OldH z (V + 1) (hdrL z V n) := by
 refine ⟨hdrL_len hz, ?_, ?_, ?_⟩
 ·
  have : (hdrL z V n).take 7 = ((hdrL z V n).take 8).take 7 := by rw [List.take_take, Nat.min_eq_left (by omega)]
  rw [this, hdrL_v, num8_small hV]; rfl
 ·
  rw [hdrL_tail hz, num8_small hV]; rfl
 ·
  have := getD_drop (p := hdrL z V n) (a := z - 8) (j := 7)
  rw [hdrL_tail hz, show z - 8 + 7 = z - 1 by omega, num8_small hV] at this
  rw [← this]
  simp [List.replicate]
  omega
theorem zero_old {z V : Nat} (hz : 24 ≤ z) (hV : 1 ≤ V) : OldH z V (List.replicate z 0) := by
 refine ⟨by simp, ?_, ?_, ?_⟩
 ·
  rw [List.take_replicate, Nat.min_eq_left (by omega)]
 ·
  rw [List.drop_replicate, List.take_replicate, Nat.min_eq_left (by omega)]
 ·
  have : (List.replicate z (0 : UInt8)).getD (z - 1) 0 = 0 := by rw [List.getD, List.getElem?_replicate, if_pos (by omega)]; rfl
  rw [this]
  exact hV
/-- a header torn over an old page: the old page in good order, or the whole header -/
theorem torn_old {z V n t : Nat} {p : List UInt8} (hz : 24 ≤ z) (hV : V < 255) (hp : OldH z V p) : OldH z V ((hdrL z (V + 1) n).take t ++ p.drop t) ∨ z ≤ t := by
 rcases Nat.lt_or_ge t z with h | h
 ·
  left
  obtain ⟨h1, h2, h3, h4⟩ := hp
  have hl := hdrL_len (v := V + 1) (n := n) hz
  have hq : ∀ j, ((hdrL z (V + 1) n).take t ++ p.drop t)[j]? = if j < t then (hdrL z (V + 1) n)[j]? else p[j]? := by
   intro j
   have e1 : ((hdrL z (V + 1) n).take t).length = t := by rw [List.length_take]; omega
   by_cases hj : j < t
   ·
    rw [if_pos hj, List.getElem?_append_left (by omega), List.getElem?_take, if_pos hj]
   ·
    rw [if_neg hj, List.getElem?_append_right (by omega), List.getElem?_drop]
    congr 1
    omega
  obtain ⟨g1, g2, g3, g4⟩ := hdr_old (n := n) hz (V := V + 1) (by omega)
  refine ⟨by simp; omega, ?_, ?_, ?_⟩
  ·
   apply List.ext_getElem?
   intro j
   rw [List.getElem?_take]
   by_cases hj : j < 7
   ·
    rw [if_pos hj, hq]
    have a1 := congrArg (fun l : List UInt8 => l[j]?) h2
    have a2 := congrArg (fun l : List UInt8 => l[j]?) g2
    simp only [List.getElem?_take, if_pos hj] at a1 a2
    split
    ·
     exact a2
    ·
     exact a1
   ·
    rw [if_neg hj, List.getElem?_eq_none (by simp; omega)]
  ·
   apply List.ext_getElem?
   intro j
   rw [List.getElem?_take]
   by_cases hj : j < 7
   ·
    rw [if_pos hj, List.getElem?_drop, hq]
    have a1 := congrArg (fun l : List UInt8 => l[j]?) h3
    have a2 := congrArg (fun l : List UInt8 => l[j]?) g3
    simp only [List.getElem?_take, if_pos hj, List.getElem?_drop] at a1 a2
    split
    ·
     exact a2
    ·
     exact a1
   ·
    rw [if_neg hj, List.getElem?_eq_none (by simp; omega)]
  ·
   have e : ((hdrL z (V + 1) n).take t ++ p.drop t).getD (z - 1) 0 = p.getD (z - 1) 0 := by
    unfold List.getD
    rw [hq, if_neg (by omega)]
   rw [e]
   exact h4
 ·
  exact .inr h
/-- a log in good order, all of it durable -/
structure LogS (d : Dsk) (frm til : Int) (V : Nat) (recs : List ByteArray) : Prop where
 fit : fitE d frm til = 0
 empty : d.cache = []
 ver : 1 ≤ V
 small : V ≤ 200
 cur : pageL d (frm + ((V % 2 : Nat) : Int)) = hdrL d.size.toNat V (sizeL recs)
 old : OldH d.size.toNat V (pageL d (frm + (((V + 1) % 2 : Nat) : Int)))
 each : ∀ s ∈ recs, s.size ≤ 65536
 room : (sizeL recs : Int) ≤ areaN d frm til
 area : (areaL d frm til).take (sizeL recs) = streamL recs
theorem pickH_eq {x y : Option (Nat × Nat)} {V n : Nat} (h : (x = some (V, n) ∧ ∀ p, y = some p → p.1 < V) ∨ (y = some (V, n) ∧ ∀ p, x = some p → p.1 < V)) : pickH x y = (V, n) := by
 rcases h with ⟨rfl, h⟩ | ⟨rfl, h⟩
 ·
  cases y with
  | none => rfl
  | some p => have := h p rfl; simp [pickH]; omega
 ·
  cases x with
  | none => rfl
  | some p => have := h p rfl; simp [pickH]; omega
theorem LogS.head {d : Dsk} {frm til : Int} {V : Nat} {recs : List ByteArray} (h : LogS d frm til V recs) : headL d frm til = (V, sizeL recs) := by
 have hab := area_bd h.fit
 have hz : 24 ≤ d.size.toNat := by omega
 have hr := h.room
 have hs := h.small
 have h5 : sizeL recs ≤ 1099511627776 := by omega
 unfold headL
 rcases Nat.mod_two_eq_zero_or_one V with h0 | h0
 ·
  have hc := h.cur
  have ho := h.old
  rw [h0, show (frm + ((0 : Nat) : Int)) = frm by simp] at hc
  rw [show (V + 1) % 2 = 1 by omega, show (frm + ((1 : Nat) : Int)) = frm + 1 by simp] at ho
  refine pickH_eq (.inl ⟨by rw [hc]; exact hdrP_mk hz h.ver (by omega) h0 hr h5, fun p hp => hdrP_old (v := p.1) (n := p.2) hz ho hp⟩)
 ·
  have hc := h.cur
  have ho := h.old
  rw [h0, show (frm + ((1 : Nat) : Int)) = frm + 1 by simp] at hc
  rw [show (V + 1) % 2 = 0 by omega, show (frm + ((0 : Nat) : Int)) = frm by simp] at ho
  refine pickH_eq (.inr ⟨by rw [hc]; exact hdrP_mk hz h.ver (by omega) h0 hr h5, fun p hp => hdrP_old (v := p.1) (n := p.2) hz ho hp⟩)
theorem LogS.opens {d : Dsk} {frm til : Int} {V : Nat} {recs : List ByteArray} (h : LogS d frm til V recs) : openL d frm til = (⟨d, frm, til, V, recs⟩, 0) := by
 have hh := h.head
 have := openL_ok h.fit (by rw [hh]; have := h.ver; simp; omega) (l := recs) (by rw [hh]; simp only; rw [h.area]; exact stream_recsOf h.each)
 rw [this, hh]
theorem LogS.valid {l : Lg} {V : Nat} (h : LogS l.disk l.frm l.til V l.recs) (hv : l.ver = V) : validL l = true := by
 unfold validL
 rw [h.opens]
 simp [hv]
/-- a disk whose pages read the same -/
theorem LogS.same {d e : Dsk} {frm til : Int} {V : Nat} {recs : List ByteArray} (h : LogS d frm til V recs) (hs : Shape d e) (he : e.cache = []) (hp : ∀ k : Nat, k < d.pages.length → pageL e k = pageL d k) : LogS e frm til V recs := by
 have hfz := fitE_zero h.fit
 have hfe : fitE e frm til = 0 := fitE_0 (by simp [hs.1]) (by rw [hs.2.1]; omega) (by omega) (by omega) (by rw [hs.2.2]; omega) (by omega)
 have hpi : ∀ i : Int, 0 ≤ i → i < d.pages.length → pageL e i = pageL d i := by
  intro i h0 h1
  obtain ⟨k, rfl⟩ : ∃ k : Nat, i = k := ⟨i.toNat, by omega⟩
  exact hp k (by omega)
 have hA : areaL e frm til = areaL d frm til := by
  refine area_of h.fit hs rfl fun i hi => ?_
  rw [hpi _ (by omega) (by omega), ← area_page h.fit hi]
 exact ⟨hfe, he, h.ver, h.small, by rw [hpi _ (by omega) (by omega), hs.2.1]; exact h.cur, by rw [hpi _ (by omega) (by omega), hs.2.1]; exact h.old, h.each, by unfold areaN at *; rw [hs.2.1]; exact h.room, by rw [hA]; exact h.area⟩
end Go.Proofs.YtghikgjknhjjgaaDoor
namespace Go.Proofs.YtghikgjknhjjgaaDoor
set_option maxRecDepth 100000
open Go.RowKit Go.Shelf
/-- the value v is the operation o -/
def OpV (w : World) (v : Value) : DOp → Prop
 | .wr i data => ∃ bi bd, v = .func (.func 63) #[] #[.pointer (some ⟨bi, 0, none⟩), .pointer (some ⟨bd, 0, none⟩)] ∧ Bx w bi #[.int .i64 i] 3 ∧ Bx w bd #[.string data] 9 ∧ data.size ≤ 140737488351232
 | .fl => v = .func (.func 42) #[] #[]
theorem OpV.below {w w' : World} {v : Value} {o : DOp} (h : OpV w v o) (hb : Below w.heap.size w w') : OpV w' v o := by
 cases o with
 | wr i data =>
  obtain ⟨bi, bd, e, h1, h2, h3⟩ := h
  exact ⟨bi, bd, e, h1.belowAll hb, h2.belowAll hb, h3⟩
 | fl => exact h
/-- operations in a slice -/
def OpsAt (w : World) (o : Option Addr) (ops : List DOp) : Prop := ∀ j (h : j < ops.length), ∃ b off u, o = some ⟨b, off, none⟩ ∧ w.cell? ⟨b, off + j, none⟩ = some u ∧ OpV w u ops[j]
theorem OpsAt.below {w w' : World} {o : Option Addr} {ops : List DOp} (h : OpsAt w o ops) (hb : Below w.heap.size w w') : OpsAt w' o ops := by
 intro j hj
 obtain ⟨b, off, u, ho, hc, hu⟩ := h j hj
 exact ⟨b, off, u, ho, by rw [hb.cell (World.block_lt_of_cell? w _ hc)]; exact hc, hu.below hb⟩
def RetVE (w : World) (d : Dsk) (er : Int) (e : Ending) (w' : World) : Prop := ∃ v, e = .returned (.tuple #[v, .int .i64 er]) ∧ DskV w' v d ∧ Below w.heap.size w w'
theorem pl_write (i : Int) (data : ByteArray) (w : World) (hd : data.size ≤ 140737488351232) :
  Calls Tryd.prog 48 #[.int .i64 i, .string data] w fun e w' => ∃ v, e = .returned v ∧ OpV w' v (.wr i data) ∧ Below w.heap.size w w' := by
 have hmf : ∀ (fn : Fn) (first cap : Array Value) (w : World), (Instr.makeFunc fn first cap).run Tryd.prog w = .ok (.func fn first cap) w := fun _ _ _ _ => rfl
 go_enter Tryd.func48, Tryd.ntmps48
 go_wp2
 go_ret
 exact ⟨_, rfl, ⟨_, _, rfl, (Bx.new _ _ _).alloc _, Bx.newAt _ _ _ _ (by simp), hd⟩, (Below.one _ _).alloc (by simp) _⟩
set_option maxHeartbeats 800000 in
theorem pl_write1 (d : Dsk) (v : Value) (bi bd : Nat) (i : Int) (data : ByteArray) (w : World) (hD : DskV w v d) (h1 : Bx w bi #[.int .i64 i] 3) (h2 : Bx w bd #[.string data] 9) (hd : data.size ≤ 140737488351232) (hn : d.cache.length ≤ 1000000) :
  Calls Tryd.prog 63 #[v, .pointer (some ⟨bi, 0, none⟩), .pointer (some ⟨bd, 0, none⟩)] w (RetVE w (writeD d i data).1 (writeD d i data).2) := by
 have hD0 := hD
 obtain ⟨po, pc, co, cc, rfl⟩ := hD.agg
 obtain ⟨N, hN⟩ : ∃ N, w.heap.size = N := ⟨_, rfl⟩
 obtain ⟨W0, hW0⟩ : ∃ W0, (w.alloc (.cells (dC d po co pc cc) 30)).alloc (.cells #[.int .i64 0, .slice none 0 0, .slice none 0 0, .int .i64 0] 30) = W0 := ⟨_, rfl⟩
 have x0 : Bx W0 N (dC d po co pc cc) 30 := by subst hW0 hN; exact (Bx.new w _ _).alloc _
 have x1 : Bx W0 (N + 1) #[.int .i64 0, .slice none 0 0, .slice none 0 0, .int .i64 0] 30 := by subst hW0 hN; exact Bx.newAt _ _ _ _ (by simp)
 have y1 : Bx W0 bi #[.int .i64 i] 3 := by subst hW0; exact (h1.alloc _).alloc _
 have y2 : Bx W0 bd #[.string data] 9 := by subst hW0; exact (h2.alloc _).alloc _
 have hB0 : Below w.heap.size w W0 := by subst hW0; exact (Below.one w _).alloc (by simp) _
 obtain ⟨A, er, he⟩ : ∃ A er, writeD d i data = (A, er) := ⟨_, _, rfl⟩
 have c0 := x0.cell
 have c1 := y1.cell 0
 have c2 := y2.cell 0
 have l0 := x0.lt
 have l1 := y1.lt
 have l2 := y2.lt
 simp at c1 c2
 have hcall := v_write d _ i data W0 (hD0.below hB0) hd hn he
 have Hcall := Lib.hid hcall
 clear hcall
 rw [he]
 go_enter Tryd.func63, Tryd.ntmps63
 go_wp2_with fail
 refine Hcall.out.mono ?_
 rintro e w1 ⟨v1, rfl, hN1, hb1⟩
 have z1 := x1.belowAll hb1
 have hB1 := btr hB0 hb1
 have hM1 := hN1
 obtain ⟨po1, pc1, co1, cc1, rfl⟩ := hN1.agg
 clear c0 c1 c2 l0 l1 l2 hW0
 have cX := z1.cell
 have lX := z1.lt
 have fX := z1.free
 have hNn : w.heap.size ≤ N + 1 := by omega
 have sB := below_set4 (b := N + 1) (v0 := .int .i64 A.size) (v1 := .slice po1 A.pages.length pc1) (v2 := .slice co1 A.cache.length cc1) (v3 := .int .i64 A.left) hB1 hNn
 have Z4 := z1.set4 (v0 := .int .i64 A.size) (v1 := .slice po1 A.pages.length pc1) (v2 := .slice co1 A.cache.length cc1) (v3 := .int .i64 A.left)
 have cZ := Z4.cell
 clear hNn
 have HB := Lib.hid sB
 have HM := Lib.hid (hM1.only z1 noS_dZ (Only.four (v0 := .int .i64 A.size) (v1 := .slice po1 A.pages.length pc1) (v2 := .slice co1 A.cache.length cc1) (v3 := .int .i64 A.left)))
 go_wp2
 refine bodyPost_ret (v := .tuple #[.agg #[.int .i64 A.size, .slice po1 A.pages.length pc1, .slice co1 A.cache.length cc1, .int .i64 A.left], .int .i64 er]) (by simp [results, Tryd.results63, go_sem, cZ]) rfl ?_
 exact ⟨_, rfl, HM.out, HB.out⟩
/-- an operation called through its value -/
theorem perfP_next {d : Dsk} {ops : List DOp} {k : Nat} (h : k < ops.length) : perfP d (ops.drop k) = if (opP d ops[k]).2 ≠ 0 then opP d ops[k] else perfP (opP d ops[k]).1 (ops.drop (k + 1)) := by
 rw [List.drop_eq_getElem_cons h, perfP]
theorem opP_cache {d : Dsk} {o : DOp} : (opP d o).1.cache.length ≤ d.cache.length + 1 := by
 cases o with
 | wr i data =>
  unfold opP
  rcases write_cases d i data with ⟨_, _, h⟩ | ⟨_, _, _, _, ⟨_, _, h⟩ | ⟨_, _, h⟩⟩
  ·
   simp only [h]; simp [zeroD]
  ·
   simp only [h]; omega
  ·
   simp only [h]; simp
 | fl =>
  unfold opP
  rcases flush_cases d with ⟨_, _, h⟩ | ⟨_, _, _, h⟩ | ⟨_, _, _, h⟩
  ·
   simp only [h]; simp [zeroD]
  ·
   simp only [h]; omega
  ·
   simp only [h]; simp
set_option maxRecDepth 100000 in
set_option maxHeartbeats 1000000 in
theorem pl_perform (d : Dsk) (v : Value) (ops : List DOp) (o : Option Addr) (c : Nat) (w : World) (hD : DskV w v d) (ho : OpsAt w o ops) (hn : d.cache.length + ops.length ≤ 1000000) :
  Calls Tryd.prog 47 #[v, .slice o ops.length c] w (RetVE w (perfP d ops).1 (perfP d ops).2) := by
 have hD0 := hD
 obtain ⟨po, pc, co, cc, rfl⟩ := hD.agg
 obtain ⟨N, hN⟩ : ∃ N, w.heap.size = N := ⟨_, rfl⟩
 obtain ⟨p, hp⟩ : ∃ p, perfP d ops = p := ⟨_, rfl⟩
 rw [hp]
 go_enter Tryd.func47, Tryd.ntmps47
 go_wp2
 have x0 : Bx ((w.alloc (.cells (dC d po co pc cc) 30)).alloc (.cells dZ 30)) N (dC d po co pc cc) 30 := by subst hN; exact (Bx.new w _ _).alloc _
 have x1 : Bx ((w.alloc (.cells (dC d po co pc cc) 30)).alloc (.cells dZ 30)) (N + 1) dZ 30 := by subst hN; exact Bx.newAt _ _ _ _ (by simp)
 have hB0 : Below w.heap.size w ((w.alloc (.cells (dC d po co pc cc) 30)).alloc (.cells dZ 30)) := (Below.one w _).alloc (by simp) _
 have hV0 := hD0.below hB0
 generalize ((w.alloc (.cells (dC d po co pc cc) 30)).alloc (.cells dZ 30)) = W0 at *
 go_loopw [12] (fun t wr => ∃ (k : Nat) (dk : Dsk) (po pc co cc : _), k ≤ ops.length ∧ t = .int .i64 k ∧ Below w.heap.size w wr ∧
  Bx wr N (dC dk po co pc cc) 30 ∧ Bx wr (N + 1) dZ 30 ∧ DskV wr (.agg (dC dk po co pc cc)) dk ∧ dk.cache.length ≤ d.cache.length + k ∧ perfP dk (ops.drop k) = p) (fun t _ => ops.length - (intOf t).toNat)
 case atStart => exact ⟨0, d, po, pc, co, cc, Nat.zero_le _, rfl, hB0, x0, x1, hV0, by omega, hp⟩
 case round =>
  clear x0 x1 hV0 hB0 hD0
  obtain ⟨k, dk, po, pc, co, cc, hk, rfl, hb, xX, xR, hV, hc, hpk⟩ := hrel
  have hz := hb.size
  have cX := xX.cell
  have lX := xX.lt
  have cR := xR.cell
  have lR := xR.lt
  have fR := xR.free
  by_cases hlt : k < ops.length
  ·
   rw [perfP_next hlt] at hpk
   obtain ⟨b, off, u, rfl, hcell, hu⟩ := ho.below hb k hlt
   obtain ⟨A, er, he⟩ : ∃ A er, opP dk ops[k] = (A, er) := ⟨_, _, rfl⟩
   have hAc := opP_cache (d := dk) (o := ops[k])
   rw [he] at hpk hAc
   have hlt' : (k : Int) < ops.length := by omega
   have hhd : (er ≠ 0 ∧ (A, er) = p) ∨ (er = 0 ∧ perfP A (ops.drop (k + 1)) = p) := by
    by_cases h : er = 0
    ·
     right; refine ⟨h, ?_⟩; rw [if_neg (by simp [h])] at hpk; exact hpk
    ·
     left; refine ⟨h, ?_⟩; rw [if_pos h] at hpk; exact hpk
   have Hhd := Lib.hid hhd
   clear hhd hpk
   cases hop : ops[k] with
   | wr i data =>
    rw [hop] at hu he
    obtain ⟨bi, bd, rfl, u1, u2, u3⟩ := hu
    have hcall := pl_write1 dk _ bi bd i data wr hV u1 u2 u3 (by omega)
    rw [show writeD dk i data = (A, er) from he] at hcall
    clear hop he
    go_wp2_with fail
    refine hcall.mono ?_
    rintro e w1 ⟨v1, rfl, hM1, hb1⟩
    have hM2 := hM1
    obtain ⟨po1, pc1, co1, cc1, rfl⟩ := hM1.agg
    have y0 := xX.belowAll hb1
    have y1 := xR.belowAll hb1
    have hB1 := btr hb hb1
    have hz1 := hB1.size
    clear cX lX cR lR fR xX xR hV hcell
    cases g : (er != 0)
    ·
     have ge : er = 0 := by simpa using g
     have hnext : perfP A (ops.drop (k + 1)) = p := by rcases Hhd.out with h | h; exact absurd ge h.1; exact h.2
     have Hn := Lib.hid hnext
     clear hnext Hhd
     have cX := y0.cell
     have lX := y0.lt
     have fX := y0.free
     have sB := below_set4 (b := N) (v0 := .int .i64 A.size) (v1 := .slice po1 A.pages.length pc1) (v2 := .slice co1 A.cache.length cc1) (v3 := .int .i64 A.left) hB1 (by omega)
     have hA : Below _ ((((w1.setCell ⟨N, 0, none⟩ (.int .i64 A.size)).setCell ⟨N, 1, none⟩ (.slice po1 A.pages.length pc1)).setCell ⟨N, 2, none⟩ (.slice co1 A.cache.length cc1)).setCell ⟨N, 3, none⟩ (.int .i64 A.left)) _ := Below.one _ (.cells (dC A po1 co1 pc1 cc1) 30)
     have hSB := Lib.hid (btr sB hA)
     have hSX := Lib.hid ((y0.set4 (v0 := .int .i64 A.size) (v1 := .slice po1 A.pages.length pc1) (v2 := .slice co1 A.cache.length cc1) (v3 := .int .i64 A.left)).belowAll hA)
     have hSR := Lib.hid ((y1.setO4 (b' := N) (v0 := .int .i64 A.size) (v1 := .slice po1 A.pages.length pc1) (v2 := .slice co1 A.cache.length cc1) (v3 := .int .i64 A.left) (by omega)).belowAll hA)
     have hSM := Lib.hid ((hM2.only y0 (noS_dC _ _ _ _ _) (Only.four (v0 := .int .i64 A.size) (v1 := .slice po1 A.pages.length pc1) (v2 := .slice co1 A.cache.length cc1) (v3 := .int .i64 A.left))).below hA)
     clear sB hA
     go_wp2
     go_roundw
     case rel => exact ⟨k + 1, A, po1, pc1, co1, cc1, by omega, by go_num, hSB.out, hSX.out, hSR.out, hSM.out, by omega, Hn.out⟩
     case measure => simp [intOf]; omega
    ·
     have gp : (A, er) = p := by rcases Hhd.out with h | h; exact h.2; rw [h.1] at g; cases g
     subst gp
     clear Hhd
     have cX := y0.cell
     have lX := y0.lt
     have fX := y0.free
     have cR := y1.cell
     have lR := y1.lt
     have fR := y1.free
     obtain ⟨Wf, hWf⟩ : ∃ Wf, (st4 (st4 w1 N (.int .i64 A.size) (.slice po1 A.pages.length pc1) (.slice co1 A.cache.length cc1) (.int .i64 A.left)) (N + 1) (.int .i64 A.size) (.slice po1 A.pages.length pc1) (.slice co1 A.cache.length cc1) (.int .i64 A.left)).alloc (.cells (dC A po1 co1 pc1 cc1) 30) = Wf := ⟨_, rfl⟩
     have zR : Bx Wf (N + 1) (dC A po1 co1 pc1 cc1) 30 := by subst hWf; exact ((y1.only only_st4 (by omega)).st4).alloc _
     have zB : Below w.heap.size w Wf := by subst hWf; exact (below_st4 (below_st4 hB1 (by omega)) (by omega)).alloc (by rw [size_st4, size_st4]; omega) _
     have zM : DskV Wf (.agg (dC A po1 co1 pc1 cc1)) A := by subst hWf; exact ((hM2.only y0 (noS_dC _ _ _ _ _) only_st4).only (y1.only only_st4 (by omega)) noS_dZ only_st4).below (Below.one _ _)
     have HWf := Lib.hid hWf
     have HB := Lib.hid zB
     have HM := Lib.hid zM
     clear hWf zB zM
     go_wp2
     have HW := HWf.out
     unfold st4 at HW
     rw [HW]
     have cZ := zR.cell
     refine bodyPost_ret (v := .tuple #[.agg (dC A po1 co1 pc1 cc1), .int .i64 er]) (by simp [results, Tryd.results47, go_sem, cZ]) rfl ?_
     exact ⟨_, rfl, HM.out, HB.out⟩
   | fl =>
    rw [hop] at hu he
    have hu : u = .func (.func 42) #[] #[] := hu
    subst hu
    have hcall := v_flush dk _ wr hV (A := A) (er := er) he
    clear hop he
    go_wp2_with fail
    refine hcall.mono ?_
    rintro e w1 ⟨v1, rfl, hM1, hb1⟩
    have hM2 := hM1
    obtain ⟨po1, pc1, co1, cc1, rfl⟩ := hM1.agg
    have y0 := xX.belowAll hb1
    have y1 := xR.belowAll hb1
    have hB1 := btr hb hb1
    have hz1 := hB1.size
    clear cX lX cR lR fR xX xR hV hcell
    cases g : (er != 0)
    ·
     have ge : er = 0 := by simpa using g
     have hnext : perfP A (ops.drop (k + 1)) = p := by rcases Hhd.out with h | h; exact absurd ge h.1; exact h.2
     have Hn := Lib.hid hnext
     clear hnext Hhd
     have cX := y0.cell
     have lX := y0.lt
     have fX := y0.free
     have sB := below_set4 (b := N) (v0 := .int .i64 A.size) (v1 := .slice po1 A.pages.length pc1) (v2 := .slice co1 A.cache.length cc1) (v3 := .int .i64 A.left) hB1 (by omega)
     have hA : Below _ ((((w1.setCell ⟨N, 0, none⟩ (.int .i64 A.size)).setCell ⟨N, 1, none⟩ (.slice po1 A.pages.length pc1)).setCell ⟨N, 2, none⟩ (.slice co1 A.cache.length cc1)).setCell ⟨N, 3, none⟩ (.int .i64 A.left)) _ := Below.one _ (.cells (dC A po1 co1 pc1 cc1) 30)
     have hSB := Lib.hid (btr sB hA)
     have hSX := Lib.hid ((y0.set4 (v0 := .int .i64 A.size) (v1 := .slice po1 A.pages.length pc1) (v2 := .slice co1 A.cache.length cc1) (v3 := .int .i64 A.left)).belowAll hA)
     have hSR := Lib.hid ((y1.setO4 (b' := N) (v0 := .int .i64 A.size) (v1 := .slice po1 A.pages.length pc1) (v2 := .slice co1 A.cache.length cc1) (v3 := .int .i64 A.left) (by omega)).belowAll hA)
     have hSM := Lib.hid ((hM2.only y0 (noS_dC _ _ _ _ _) (Only.four (v0 := .int .i64 A.size) (v1 := .slice po1 A.pages.length pc1) (v2 := .slice co1 A.cache.length cc1) (v3 := .int .i64 A.left))).below hA)
     clear sB hA
     go_wp2
     go_roundw
     case rel => exact ⟨k + 1, A, po1, pc1, co1, cc1, by omega, by go_num, hSB.out, hSX.out, hSR.out, hSM.out, by omega, Hn.out⟩
     case measure => simp [intOf]; omega
    ·
     have gp : (A, er) = p := by rcases Hhd.out with h | h; exact h.2; rw [h.1] at g; cases g
     subst gp
     clear Hhd
     have cX := y0.cell
     have lX := y0.lt
     have fX := y0.free
     have cR := y1.cell
     have lR := y1.lt
     have fR := y1.free
     obtain ⟨Wf, hWf⟩ : ∃ Wf, (st4 (st4 w1 N (.int .i64 A.size) (.slice po1 A.pages.length pc1) (.slice co1 A.cache.length cc1) (.int .i64 A.left)) (N + 1) (.int .i64 A.size) (.slice po1 A.pages.length pc1) (.slice co1 A.cache.length cc1) (.int .i64 A.left)).alloc (.cells (dC A po1 co1 pc1 cc1) 30) = Wf := ⟨_, rfl⟩
     have zR : Bx Wf (N + 1) (dC A po1 co1 pc1 cc1) 30 := by subst hWf; exact ((y1.only only_st4 (by omega)).st4).alloc _
     have zB : Below w.heap.size w Wf := by subst hWf; exact (below_st4 (below_st4 hB1 (by omega)) (by omega)).alloc (by rw [size_st4, size_st4]; omega) _
     have zM : DskV Wf (.agg (dC A po1 co1 pc1 cc1)) A := by subst hWf; exact ((hM2.only y0 (noS_dC _ _ _ _ _) only_st4).only (y1.only only_st4 (by omega)) noS_dZ only_st4).below (Below.one _ _)
     have HWf := Lib.hid hWf
     have HB := Lib.hid zB
     have HM := Lib.hid zM
     clear hWf zB zM
     go_wp2
     have HW := HWf.out
     unfold st4 at HW
     rw [HW]
     have cZ := zR.cell
     refine bodyPost_ret (v := .tuple #[.agg (dC A po1 co1 pc1 cc1), .int .i64 er]) (by simp [results, Tryd.results47, go_sem, cZ]) rfl ?_
     exact ⟨_, rfl, HM.out, HB.out⟩
  ·
   have hk' : ¬ ((k : Int) < ops.length) := by omega
   have gp : (dk, 0) = p := by rw [← hpk, List.drop_eq_nil_of_le (by omega), perfP]
   subst gp
   clear hpk
   have fX := xX.free
   obtain ⟨Wf, hWf⟩ : ∃ Wf, st4 wr (N + 1) (.int .i64 dk.size) (.slice po dk.pages.length pc) (.slice co dk.cache.length cc) (.int .i64 dk.left) = Wf := ⟨_, rfl⟩
   have zR : Bx Wf (N + 1) (dC dk po co pc cc) 30 := by subst hWf; exact xR.st4
   have zB : Below w.heap.size w Wf := by subst hWf; exact below_st4 hb (by omega)
   have zM : DskV Wf (.agg (dC dk po co pc cc)) dk := by subst hWf; exact hV.only xR noS_dZ only_st4
   have HWf := Lib.hid hWf
   have HB := Lib.hid zB
   have HM := Lib.hid zM
   clear hWf zB zM
   go_wp2
   have HW := HWf.out
   unfold st4 at HW
   rw [HW]
   have cZ := zR.cell
   refine bodyPost_ret (v := .tuple #[.agg (dC dk po co pc cc), .int .i64 0]) (by simp [results, Tryd.results47, go_sem, cZ]) rfl ?_
   exact ⟨_, rfl, HM.out, HB.out⟩
end Go.Proofs.YtghikgjknhjjgaaDoor
namespace Go.Proofs.YtghikgjknhjjgaaDoor
set_option maxRecDepth 100000
open Go.RowKit Go.Shelf
/-- a call that answers with an operation, within a drawn region -/
def annOp (o : DOp) : Ann := ⟨fun r => r.x 0, fun r W => OpV W (r.x 0) o⟩
def annOps (ops : List DOp) (n : Nat) : Ann := ⟨fun r => .slice (some ⟨r.lo, 0, none⟩) n n, fun r W => OpsAt W (some ⟨r.lo, 0, none⟩) ops⟩
theorem lz_op {f : FuncId} {args : Array Value} {o : DOp} {W : World} (h : Calls Tryd.prog f args W fun e w' => ∃ v, e = .returned v ∧ OpV w' v o ∧ Below W.heap.size W w') : Calls Tryd.prog f args W fun e w' => ∃ u, e = .returned u ∧ lzPost (annOp o) W u w' :=
 h.mono fun _ _ ⟨v, he, ho, hb⟩ => ⟨v, he, hb, fun _ => v, rfl, fun _ hb' => ho.below hb'⟩
theorem OpsAt.bx {w : World} {b : Nat} {vs : List Value} {ops : List DOp} {t : TypeId} (h : Bx w b vs.toArray t) (hv : vs.length = ops.length) (ho : ∀ j (h : j < ops.length) (h' : j < vs.length), OpV w vs[j] ops[j]) : OpsAt w (some ⟨b, 0, none⟩) ops := by
 intro j hj
 refine ⟨b, 0, vs[j]'(by omega), rfl, ?_, ho j hj (by omega)⟩
 rw [Nat.zero_add, h.cell]
 simp [show j < vs.length by omega]
set_option maxRecDepth 100000 in
set_option maxHeartbeats 1000000 in
theorem pl_next (l : Lg) (v : Value) (V n : Nat) (w : World) (hL : LgV w v l) (hV : l.ver = V) (hVb : V ≤ 1099511627776) (_hn : n ≤ 1099511627776) (hz : 24 ≤ l.disk.size) (hz2 : l.disk.size ≤ 512) (hf : 0 ≤ l.frm) (hf2 : l.frm ≤ 1000000) :
  Calls Tryd.prog 45 #[v, .int .i64 n] w fun e w' => ∃ b, e = .returned (.slice (some ⟨b, 0, none⟩) 2 2) ∧ OpsAt w' (some ⟨b, 0, none⟩) (nextL l n) ∧ Below w.heap.size w w' := by
 obtain ⟨⟨size, pages, cache, left⟩, frm, til, ver, recs⟩ := l
 simp only at hV hz hz2 hf hf2
 obtain ⟨z, rfl⟩ : ∃ z : Nat, size = z := ⟨size.toNat, by omega⟩
 subst hV
 obtain ⟨po, pc, co, cc, ro, rc, rfl, hD, hsl, hst⟩ := hL
 obtain ⟨N, hN⟩ : ∃ N, w.heap.size = N := ⟨_, rfl⟩
 have hnx : nextL ⟨⟨z, pages, cache, left⟩, frm, til, V, recs⟩ n = [.wr (frm + ((V : Int) + 1) % 2) (bs (hdrL z (V + 1) n)), .fl] := by
  unfold nextL
  simp only
  rw [Int.tmod_eq_emod_of_nonneg (by omega)]
  congr 3
 obtain ⟨k, hk⟩ : ∃ k : Int, ((V : Int) + 1) % 2 = k := ⟨_, rfl⟩
 have hk2 : 0 ≤ k ∧ k ≤ 1 := by omega
 rw [hk] at hnx
 rw [hnx]
 obtain ⟨W0, hW0⟩ : ∃ W0, w.alloc (.cells (lgC ⟨z, pages, cache, left⟩ po co pc cc frm til V ro recs.length rc) 32) = W0 := ⟨_, rfl⟩
 have x0 : Bx W0 N (lgC ⟨z, pages, cache, left⟩ po co pc cc frm til V ro recs.length rc) 32 := by subst hW0 hN; exact Bx.new w _ _
 have hB0 : Below w.heap.size w W0 := by subst hW0; exact Below.one w _
 have c0 := x0.cell
 have l0 := x0.lt
 have hhd := fun W => pl_header z (V + 1) n W (by omega) (by omega)
 obtain ⟨H, hH⟩ : ∃ H, bs (hdrL z (V + 1) n) = H := ⟨_, rfl⟩
 have hHs : H.size ≤ 1000 := by rw [← hH, bs_size]; simp [hdrL, num8]; omega
 simp only [hH, Int.natCast_add, Int.natCast_one] at hhd
 rw [hH]
 have Hhd := Lib.hid hhd
 clear hhd hH hnx hst hsl hD
 go_enter Tryd.func45, Tryd.ntmps45
 have cQ := Lat.cells W0
 go_wp2
 refine wp_region_lz 14 0 #[true, true, true, true, true, true, true, true, true, true, true, true, true, true] (fun i => if i = 10 then some (annK (.string H)) else if i = 11 then some (annOp (.wr (frm + k) H)) else if i = 12 then some (annOps [.wr (frm + k) H, .fl] 2) else none) (by kernel_rfl) (by rfl) (by rfl) (by kernel_rfl) ?_
 simp only [List.take_succ_cons, List.take_zero]
 refine LW.block 10 10 (by rfl) (by kernel_rfl) (by kernel_rfl) ?_
 simp only [List.take_succ_cons, List.take_zero, List.drop_succ_cons, List.drop_zero]
 repeat (first | go_big_quiet_skip | (go_big_quiet_want; go_big_quiet_op; go_big_quiet_on))
 refine wpQuiet_nil ?_
 refine LW.lzy _ (by rfl) (by rfl) ?_ ?_
 ·
  intro yL _
  unfold lzAt
  go_simp
  exact lz_constB (Hhd.out _)
 intro _
 simp only [Act.put, List.setIfInBounds_toArray, List.set_cons_zero, List.set_cons_succ]
 (try simp only [annK])
 refine LW.lzy _ (by rfl) (by rfl) ?_ ?_
 ·
  intro yL _
  unfold lzAt
  go_simp
  exact lz_op (pl_write _ _ _ (by omega))
 intro r11
 simp only [Act.put, List.setIfInBounds_toArray, List.set_cons_zero, List.set_cons_succ]
 refine LW.lzy _ (by rfl) (by rfl) ?_ ?_
 ·
  intro yL hf
  have hx : OpV yL.w (r11.x 0) (.wr (frm + k) H) := (hf 11 (by decide +kernel)).get (by rfl) (by rfl)
  have hx' := hx
  obtain ⟨bi, bd, e, _, _, _⟩ := hx
  have e' : (annOp (.wr (frm + k) H)).f r11 = .func (.func 63) #[] #[.pointer (some ⟨bi, 0, none⟩), .pointer (some ⟨bd, 0, none⟩)] := e
  rw [e']
  unfold lzAt
  go_simp
  refine ⟨Below.one _ _, fun _ => undef, rfl, fun w'' hb => ?_⟩
  have hX := (Bx.new yL.w #[.func (.func 63) #[] #[.pointer (some ⟨bi, 0, none⟩), .pointer (some ⟨bd, 0, none⟩)], .func (.func 42) #[] #[]] 99).belowAll hb
  refine OpsAt.bx (vs := [.func (.func 63) #[] #[.pointer (some ⟨bi, 0, none⟩), .pointer (some ⟨bd, 0, none⟩)], .func (.func 42) #[] #[]]) hX rfl ?_
  intro j h1 h2
  rcases j with _ | _ | j
  ·
   have := (hx'.below (Below.one _ _)).below hb
   rw [e] at this
   exact this
  ·
   exact rfl
  ·
   exact absurd h2 (by simp)
 intro r12
 simp only [Act.put, List.setIfInBounds_toArray, List.set_cons_zero, List.set_cons_succ]
 refine LW.block 1 14 (by rfl) (by kernel_rfl) (by kernel_rfl) ?_
 simp only [List.take_succ_cons, List.take_zero, List.drop_succ_cons, List.drop_zero]
 repeat (first | go_big_quiet_skip | (go_big_quiet_want; go_big_quiet_op; go_big_quiet_on))
 refine wpQuiet_nil ?_
 refine LW.done ?_
 intro w' hG
 have hR : OpsAt w' (some ⟨r12.lo, 0, none⟩) [.wr (frm + k) H, .fl] := hG.get 12 rfl rfl
 have HR := Lib.hid hR
 have hB := Lib.hid (btr hB0 hG.below)
 clear hR hG
 refine wpAny_done (by kernel_rfl) ?_ _
 simp only [annOps]
 go_wp2
 go_ret
 exact ⟨_, rfl, HR.out, by first | exact hB.out | (rw [← hN]; exact hB.out)⟩
end Go.Proofs.YtghikgjknhjjgaaDoor
