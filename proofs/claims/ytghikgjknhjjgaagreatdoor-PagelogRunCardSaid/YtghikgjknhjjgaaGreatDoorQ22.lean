/- law PagelogLog: the walk. An argument of type api.Disk (layer 40), a slice of ints, a string: opened: what it is in plain Lean. Arguments of the types api.Log, []string, []quiltlaw41.Act, quiltlaw41.Run: opened. The sizes of the logs of a run. -/
import Derived.Test.YtghikgjknhjjgaaGreatDoorQ21
import Derived.Test.YtghikgjknhjjgaaGreatDoorQ19
import Derived.Test.YtghikgjknhjjgaaGreatDoorQ17
import Derived.Test.YtghikgjknhjjgaaGreatDoorQ03
import Derived.SizedLaws
import Derived.Lib.SmallJoins
import Derived.Deep.SlicePairs
import Derived.SliceStrings
import Derived.Test.YtghikgjknhjjgaaGreatDoorProg
import Derived.Test.YtghikgjknhjjgaaGreatDoorQ11
namespace Go.Proofs.YtghikgjknhjjgaaGreatDoor
set_option maxRecDepth 100000
open Go.RowKit
theorem greatLg_false {l : Lg} (h : greatLg l = false) : l.disk.cache.length ≤ 20 ∧ l.recs.length ≤ 40 ∧ l.disk.pages.length ≤ 12 := by
 unfold greatLg at h
 simp only [Bool.or_eq_false_iff, decide_eq_false_iff_not] at h
 have := great_false h.1.1
 omega
theorem dec_le (n : Nat) : (Lib.decDigits n).length ≤ n + 1 := by
 induction n using Nat.strongRecOn with
 | _ n ih =>
  unfold Lib.decDigits
  by_cases h : n < 10
  ·
   rw [dif_pos h]; simp
  ·
   rw [dif_neg h]
   have := ih (n / 10) (by omega)
   simp only [List.length_append, List.length_cons, List.length_nil]
   omega
theorem short_size : ∀ {l : List ByteArray}, shortB l = true → sizeL l ≤ l.length * 202 := by
 intro l
 induction l with
 | nil => intro _; simp [sizeL]
 | cons s l ih =>
  intro h
  unfold shortB at h ih
  simp only [List.all_cons, Bool.and_eq_true, Bool.not_eq_true', decide_eq_false_iff_not] at h
  have h1 := ih h.2
  have h2 := dec_le s.size
  have h3 : sizeL (s :: l) = ((Lib.decDigits s.size).length + 1 + s.size) + sizeL l := by simp [sizeL]
  simp only [List.length_cons]
  omega
theorem fine_one {a : ActA} (h : fineB 0 0 [a] = true) : a.recs.length ≤ 8 ∧ a.picks.length ≤ 20 ∧ shortB a.recs = true := by
 unfold fineB actFine at h
 simp only [List.all_cons, List.all_nil, Bool.and_true, Bool.and_eq_true, Bool.not_eq_true', decide_eq_false_iff_not] at h
 obtain ⟨_, _, _, h1, h2, h3⟩ := h
 exact ⟨by omega, by omega, h3⟩
theorem acts_one {W : World} {B : Nat} {t : TypeId} {a : ActA} {ro po : Option Addr} {rc pc : Nat} (x : Bx W B (actC a ro po rc pc) t) (h : ActOk W a ro po rc pc) : ActsAt W (some ⟨B, 0, none⟩) [a] := by
 intro i hi
 obtain rfl : i = 0 := by simpa using hi
 have c := x.cell
 exact ⟨B, 0, ro, rc, po, pc, rfl, by simpa using c 0, by simpa using c 1, by simpa using c 2, by simpa using c 3, h⟩
set_option maxHeartbeats 4000000 in
theorem law41_log (w : World) (l : Lg) (v : Value) (hL : LgV w v l) (rs : List ByteArray) (qo : Option Addr) (qc : Nat) (hqs : SlW qo rs.length qc) (hqt : StrsAt (· < w.heap.size) w qo rs) (n : Int) (hT : TabW w) :
  Calls Tryz.prog 3 #[v, .slice qo rs.length qc, .int .i64 n] w fun e w' => e = .returned (.bool true) ∧ Below w.heap.size w w' := by
 have hL0 := hL
 obtain ⟨po, pc, co, cc, ro, rc, rfl, hD, hsl, hst⟩ := hL
 clear hD hsl hst
 obtain ⟨N, hN⟩ : ∃ N, w.heap.size = N := ⟨_, rfl⟩
 obtain ⟨W1, hW1⟩ : ∃ W1, w.alloc (.cells (lgC l.disk po co pc cc l.frm l.til l.ver ro l.recs.length rc) 27) = W1 := ⟨_, rfl⟩
 have x1 : Bx W1 N (lgC l.disk po co pc cc l.frm l.til l.ver ro l.recs.length rc) 27 := by subst hW1 hN; exact Bx.new w _ _
 have hB1 : Below w.heap.size w W1 := by subst hW1; exact Below.one w _
 have hgr := rf_GreatL l _ W1 (hL0.below hB1)
 have c0 := x1.cell
 have l0 := x1.lt
 cases g : greatLg l
 ·
  rw [g] at hgr
  obtain ⟨hc, hrl, _⟩ := greatLg_false g
  clear g
  go_enter Tryz.func3, Tryz.ntmps3
  go_wp2_with fail
  refine hgr.mono ?_
  rintro e w2 ⟨rfl, hb2⟩
  have x2 := x1.belowAll hb2
  have hB2 := btr hB1 hb2
  clear x1 c0 l0 hgr hb2 hB1 hW1
  have c0 := x2.cell
  have l0 := x2.lt
  go_wp2_with fail
  obtain ⟨a, ha⟩ : ∃ a : ActA, a = ⟨0, rs, 0, []⟩ := ⟨_, rfl⟩
  have xa := Bx.new w2 (actC a qo none qc 0) 32
  have hBo := Below.one w2 (.cells (actC a qo none qc 0) 32)
  have hB3 := btr hB2 hBo
  have hok : ActOk (w2.alloc (.cells (actC a qo none qc 0) 32)) a qo none qc 0 := by
   refine ActOk.below (w := w) ?_ hB3
   subst ha
   exact ⟨hqs, .inl ⟨rfl, rfl, rfl⟩, hqt, fun i hi => absurd hi (Nat.not_lt_zero _), by simp, by simp, fun x hx => by cases hx⟩
  have hfi := rn_Fine 0 0 0 0 [a] (some ⟨w2.heap.size, 0, none⟩) 1 _ (acts_one xa hok) (.inr ⟨_, rfl, by simp, by unfold maxLen; decide⟩)
  have x3 := x2.belowAll hBo
  have hae : actC a qo none qc 0 = #[.int .i64 0, .slice qo rs.length qc, .int .u8 0, .slice none 0 0] := by subst ha; rfl
  rw [hae] at hfi x3 hB3
  simp only [List.length_cons, List.length_nil, Nat.zero_add] at hfi
  clear xa hok hBo hae c0 l0 x2 hB2
  cases g : fineB 0 0 [a]
  ·
   rw [g] at hfi
   refine hfi.mono ?_
   rintro e w4 ⟨rfl, hb4⟩
   have hB4 := btr hB3 hb4
   clear hfi g hB3 x3
   go_wp2_with fail
   refine (law41_awake _ (hT.below hB4)).mono ?_
   rintro e w5 ⟨rfl, hb5⟩
   go_wp2
   go_ret
   exact ⟨rfl, btr hB4 hb5⟩
  rw [g] at hfi
  obtain ⟨hrl8, -, hsh⟩ := fine_one g
  subst ha
  simp only at hrl8 hsh
  have hsz := short_size hsh
  have hsz2 : sizeL rs ≤ 50000 := by omega
  refine hfi.mono ?_
  rintro e w4 ⟨rfl, hb4⟩
  have hB := btr hB3 hb4
  have x0 := x3.belowAll hb4
  clear hfi g hB3 x3 hb4 hsh hsz
  have c0 := x0.cell
  have l0 := x0.lt
  obtain ⟨F, e1, hF⟩ : ∃ F e1, apL l rs = (F, e1) := ⟨_, _, rfl⟩
  obtain ⟨G, e2, hG⟩ : ∃ G e2, cutL l n = (G, e2) := ⟨_, _, rfl⟩
  have hrsl : rs.length ≤ 1000 := by omega
  have hcc : l.disk.cache.length ≤ 900000 := by omega
  have ha1 := fun W (hb : Below w.heap.size w W) => pl_Append l _ rs qo qc W (hL0.below hb) hqs ((hqt.below hb).mono fun b h => Nat.lt_of_lt_of_le h hb.size) hrsl hsz2 (hT.below hb) hcc
  have ha2 := fun W (hb : Below w.heap.size w W) => rf_Append l _ rs qo qc W (hL0.below hb) hqs ((hqt.below hb).mono fun b h => Nat.lt_of_lt_of_le h hb.size) hrsl hsz2 hcc
  have ha3 := fun W (hb : Below w.heap.size w W) => pl_Cut l _ n W (hL0.below hb) (hT.below hb) (by omega)
  have ha4 := fun W (hb : Below w.heap.size w W) => rf_Cut l _ n W (hL0.below hb) (by omega)
  have hr1 := fun W (hb : Below w.heap.size w W) => pl_Room l _ W (hL0.below hb) (hT.below hb)
  have hr2 := fun W (hb : Below w.heap.size w W) => rf_Room l _ W (hL0.below hb)
  have hz1 := fun W (hb : Below w.heap.size w W) => pl_Size W qo qc rs (hqt.below hb) (by omega) (hT.below hb) (by omega)
  have hz2 := fun W (hb : Below w.heap.size w W) => rf_Size W qo qc rs (hqt.below hb) (by omega) (by omega)
  rw [hF] at ha1 ha2
  rw [hG] at ha3 ha4
  have H1 := Lib.hid ha1
  have H2 := Lib.hid ha2
  have H3 := Lib.hid ha3
  have H4 := Lib.hid ha4
  have H5 := Lib.hid hr1
  have H6 := Lib.hid hr2
  have H7 := Lib.hid hz1
  have H8 := Lib.hid hz2
  have HT := Lib.hid hT
  clear ha1 ha2 ha3 ha4 hr1 hr2 hz1 hz2 hF hG hT hqs hqt hL0 hc hrl hrl8 hsz2 hrsl hcc
  have hc1 := H1.out _ hB
  go_wp2_with fail
  refine hc1.mono ?_
  rintro e u1 ⟨v1, rfl, hv1, hb1⟩
  have hw1 := hv1
  obtain ⟨p1, m1, q1, k1, r1, t1, rfl, -, -, -⟩ := hv1
  have y0 := x0.belowAll hb1
  have hBo := Below.one u1 (.cells (lgC F.disk p1 q1 m1 k1 F.frm F.til F.ver r1 F.recs.length t1) 27)
  have yy := Bx.new u1 (lgC F.disk p1 q1 m1 k1 F.frm F.til F.ver r1 F.recs.length t1) 27
  have hBn := btr (btr hB hb1) hBo
  clear c0 l0 x0 hc1 hB
  have x0 := y0.belowAll hBo
  have iA := hw1.below hBo
  have hB := hBn
  clear hBn hBo hw1 hb1 y0
  go_upto_region 4 with fail
  obtain ⟨bA, hbA⟩ : ∃ bA, u1.heap.size = bA := ⟨_, rfl⟩
  obtain ⟨W1, hW1⟩ : ∃ W1, u1.alloc (.cells (lgC F.disk p1 q1 m1 k1 F.frm F.til F.ver r1 F.recs.length t1) 27) = W1 := ⟨_, rfl⟩
  simp only [hW1, hbA] at *
  have xA := yy
  clear yy hW1 hbA
  have c0 := x0.cell
  have l0 := x0.lt
  have hc2 := H2.out _ hB
  go_wp2_with fail
  refine hc2.mono ?_
  rintro e u2 ⟨v2, rfl, hv2, hb2⟩
  have hw2 := hv2
  obtain ⟨p2, m2, q2, k2, r2, t2, rfl, -, -, -⟩ := hv2
  have y0 := x0.belowAll hb2
  have yA := xA.belowAll hb2
  have jA := iA.below hb2
  have hBo := Below.one u2 (.cells (lgC F.disk p2 q2 m2 k2 F.frm F.til F.ver r2 F.recs.length t2) 27)
  have yy := Bx.new u2 (lgC F.disk p2 q2 m2 k2 F.frm F.til F.ver r2 F.recs.length t2) 27
  have hBn := btr (btr hB hb2) hBo
  clear c0 l0 x0 hc2 hB
  clear xA iA
  have x0 := y0.belowAll hBo
  have xA := yA.belowAll hBo
  have iA := jA.below hBo
  have iB := hw2.below hBo
  have hB := hBn
  clear hBn hBo hw2 hb2 y0
  clear yA jA
  go_upto_region 5 with fail
  obtain ⟨bB, hbB⟩ : ∃ bB, u2.heap.size = bB := ⟨_, rfl⟩
  obtain ⟨W2, hW2⟩ : ∃ W2, u2.alloc (.cells (lgC F.disk p2 q2 m2 k2 F.frm F.til F.ver r2 F.recs.length t2) 27) = W2 := ⟨_, rfl⟩
  simp only [hW2, hbB] at *
  have xB := yy
  clear yy hW2 hbB
  have c0 := x0.cell
  have l0 := x0.lt
  have hc3 := H3.out _ hB
  go_wp2_with fail
  refine hc3.mono ?_
  rintro e u3 ⟨v3, rfl, hv3, hb3⟩
  have hw3 := hv3
  obtain ⟨p3, m3, q3, k3, r3, t3, rfl, -, -, -⟩ := hv3
  have y0 := x0.belowAll hb3
  have yA := xA.belowAll hb3
  have yB := xB.belowAll hb3
  have jA := iA.below hb3
  have jB := iB.below hb3
  have hBo := Below.one u3 (.cells (lgC G.disk p3 q3 m3 k3 G.frm G.til G.ver r3 G.recs.length t3) 27)
  have yy := Bx.new u3 (lgC G.disk p3 q3 m3 k3 G.frm G.til G.ver r3 G.recs.length t3) 27
  have hBn := btr (btr hB hb3) hBo
  clear c0 l0 x0 hc3 hB
  clear xA iA
  clear xB iB
  have x0 := y0.belowAll hBo
  have xA := yA.belowAll hBo
  have xB := yB.belowAll hBo
  have iA := jA.below hBo
  have iB := jB.below hBo
  have iC := hw3.below hBo
  have hB := hBn
  clear hBn hBo hw3 hb3 y0
  clear yA jA
  clear yB jB
  go_upto_region 6 with fail
  obtain ⟨bC, hbC⟩ : ∃ bC, u3.heap.size = bC := ⟨_, rfl⟩
  obtain ⟨W3, hW3⟩ : ∃ W3, u3.alloc (.cells (lgC G.disk p3 q3 m3 k3 G.frm G.til G.ver r3 G.recs.length t3) 27) = W3 := ⟨_, rfl⟩
  simp only [hW3, hbC] at *
  have xC := yy
  clear yy hW3 hbC
  have c0 := x0.cell
  have l0 := x0.lt
  have hc4 := H4.out _ hB
  go_wp2_with fail
  refine hc4.mono ?_
  rintro e u4 ⟨v4, rfl, hv4, hb4⟩
  have hw4 := hv4
  obtain ⟨p4, m4, q4, k4, r4, t4, rfl, -, -, -⟩ := hv4
  have y0 := x0.belowAll hb4
  have yA := xA.belowAll hb4
  have yB := xB.belowAll hb4
  have yC := xC.belowAll hb4
  have jA := iA.below hb4
  have jB := iB.below hb4
  have jC := iC.below hb4
  have hBo := Below.one u4 (.cells (lgC G.disk p4 q4 m4 k4 G.frm G.til G.ver r4 G.recs.length t4) 27)
  have yy := Bx.new u4 (lgC G.disk p4 q4 m4 k4 G.frm G.til G.ver r4 G.recs.length t4) 27
  have hBn := btr (btr hB hb4) hBo
  clear c0 l0 x0 hc4 hB
  clear xA iA
  clear xB iB
  clear xC iC
  have x0 := y0.belowAll hBo
  have xA := yA.belowAll hBo
  have xB := yB.belowAll hBo
  have xC := yC.belowAll hBo
  have iA := jA.below hBo
  have iB := jB.below hBo
  have iC := jC.below hBo
  have iD := hw4.below hBo
  have hB := hBn
  clear hBn hBo hw4 hb4 y0
  clear yA jA
  clear yB jB
  clear yC jC
  go_upto_region 7 with fail
  obtain ⟨bD, hbD⟩ : ∃ bD, u4.heap.size = bD := ⟨_, rfl⟩
  obtain ⟨W4, hW4⟩ : ∃ W4, u4.alloc (.cells (lgC G.disk p4 q4 m4 k4 G.frm G.til G.ver r4 G.recs.length t4) 27) = W4 := ⟨_, rfl⟩
  simp only [hW4, hbD] at *
  have xD := yy
  clear yy hW4 hbD
  have c0 := x0.cell
  have l0 := x0.lt
  have cA := xA.cell
  have lA := xA.lt
  have cB := xB.cell
  have lB := xB.lt
  have cC := xC.cell
  have lC := xC.lt
  have cD := xD.cell
  have lD := xD.lt
  have HBw : Hid (∀ x : Lat W4, Below w.heap.size w x.w) := Lib.hid (fun x => btr hB x.h)
  have S1 : Hid (∀ x : Lat W4, Calls Tryz.prog 12 #[.agg (lgC F.disk p1 q1 m1 k1 F.frm F.til F.ver r1 F.recs.length t1), .agg (lgC F.disk p2 q2 m2 k2 F.frm F.til F.ver r2 F.recs.length t2)] x.w fun e w' => e = .returned (.bool true) ∧ Below x.w.heap.size x.w w') := Lib.hid fun x => rf_SameL F _ _ _ (iA.below x.h) (iB.below x.h)
  have S2 : Hid (∀ x : Lat W4, Calls Tryz.prog 12 #[.agg (lgC G.disk p3 q3 m3 k3 G.frm G.til G.ver r3 G.recs.length t3), .agg (lgC G.disk p4 q4 m4 k4 G.frm G.til G.ver r4 G.recs.length t4)] x.w fun e w' => e = .returned (.bool true) ∧ Below x.w.heap.size x.w w') := Lib.hid fun x => rf_SameL G _ _ _ (iC.below x.h) (iD.below x.h)
  have cQ := Lat.cells W4
  clear H1 H2 H3 H4 iA iB iC iD xA xB xC xD x0
  have hB4 := hB
  clear hB
  refine wp_region_lat (by kernel_rfl) (by kernel_rfl) ?_
  repeat (any_goals (first | go_big_quiet_skip | (go_big_quiet_want; go_big_quiet_op; first | go_big_quiet_on | go_big_quiet_call ((first | (go_at_call 12; first | (with_reducible exact Calls.lat (S1.out _)) | (with_reducible exact Calls.lat (S2.out _))) | (go_at_call 13; exact Calls.lat (H5.out _ (HBw.out _))) | (go_at_call 14; exact Calls.lat (H6.out _ (HBw.out _))) | (go_at_call 15; exact Calls.lat (H7.out _ (HBw.out _))) | (go_at_call 16; exact Calls.lat (H8.out _ (HBw.out _))) | (go_at_call 7; exact Calls.lat (law41_awake _ (HT.out.below (HBw.out _))))))) | quiet_step ((first | (go_at_call 12; first | (with_reducible exact Calls.lat (S1.out _)) | (with_reducible exact Calls.lat (S2.out _))) | (go_at_call 13; exact Calls.lat (H5.out _ (HBw.out _))) | (go_at_call 14; exact Calls.lat (H6.out _ (HBw.out _))) | (go_at_call 15; exact Calls.lat (H7.out _ (HBw.out _))) | (go_at_call 16; exact Calls.lat (H8.out _ (HBw.out _))) | (go_at_call 7; exact Calls.lat (law41_awake _ (HT.out.below (HBw.out _))))))))
  refine wpQuiet_nil ?_
  rintro W9 ⟨⟨_, hb9⟩, rfl⟩
  go_wp2
  go_ret
  exact ⟨rfl, btr hB4 hb9⟩
 ·
  rw [g] at hgr
  clear g
  go_enter Tryz.func3, Tryz.ntmps3
  go_wp2_with fail
  refine hgr.mono ?_
  rintro e w2 ⟨rfl, hb2⟩
  have hB2 := btr hB1 hb2
  go_wp2_with fail
  refine (law41_awake _ (hT.below hB2)).mono ?_
  rintro e w3 ⟨rfl, hb3⟩
  go_wp2
  go_ret
  exact ⟨rfl, btr hB2 hb3⟩
end Go.Proofs.YtghikgjknhjjgaaGreatDoor
namespace Go.Proofs.YtghikgjknhjjgaaGreatDoor
set_option maxRecDepth 100000
open Go.RowKit Go.ChangeShapes Go.WideShapes
section
variable {H : Type} {enc : TypeId × Value → H} {W : World} {base : Nat} {sp : Nat → Bool} {held : Bool}
theorem weights_of_all {P : Program} {e : TypeId} : ∀ {l : List (DataW H)} {d : DataW H}, d ∈ l → ∀ n ∈ d.weights P e, n ∈ DataW.weightsAll P e l
 | x :: l, d, h, n, hn => by
  rw [DataW.weightsAll, List.mem_append]
  rcases List.mem_cons.1 h with rfl | h
  ·
   exact .inl hn
  ·
   exact .inr (weights_of_all h n hn)
theorem weights_str {P : Program} {e : TypeId} (bs : List UInt8) : (DataW.lit (.string bs) : DataW H).weights P e = [bs.length] := by rw [DataW.weights]
theorem cellsOf_one9 : Tryz.prog.cellsOf 9 = 1 := by kernel_rfl
theorem cellsOf_int : Tryz.prog.cellsOf 3 = 1 := by kernel_rfl
theorem cellsOf_pw : Tryz.prog.cellsOf 73 = 2 := by kernel_rfl
theorem cellsOf_disk : Tryz.prog.cellsOf 25 = 4 := by kernel_rfl
theorem bytes_str : Tryz.prog.bytesOf 9 = 16 := by kernel_rfl
theorem bytes_pw : Tryz.prog.bytesOf 73 = 24 := by kernel_rfl
theorem bytes_int : Tryz.prog.bytesOf 3 = 8 := by kernel_rfl
theorem addr_form {w : World} {a : Addr} {v : Value} (h : w.cell? a = some v) : ∃ b off, a = ⟨b, off, none⟩ := by
 have := World.cell?_spot h
 cases a; cases this; exact ⟨_, _, rfl⟩
/-- []string -/
theorem open_strs {n : Nat} {v : Value} {y : DataW H × List MemPlace} (h : DataW.trod enc Tryz.prog W base sp held n 22 [v] = some y) (hw : ∀ k ∈ y.1.weights Tryz.prog 22, k ≤ reachBytes) :
  ∃ (o : Option Addr) (l : List ByteArray) (c : Nat), v = .slice o l.length c ∧ SlW o l.length c ∧ StrsAt (· < W.heap.size) W o l ∧ l.length * 16 ≤ 140737488351232 ∧ ∀ s ∈ l, s.size ≤ 140737488351232 := by
 rcases open_strings Tryz.underlying22 Tryz.underlying9 cellsOf_one9 h with ⟨e, _⟩ | ⟨a, len, cap, ss, e, hb, hl, hm, hss, hx, hcell, _⟩
 ·
  cases e
  exact ⟨none, [], 0, rfl, .inl ⟨rfl, rfl, rfl⟩, by intro i hi; simp at hi, by simp, by simp⟩
 ·
  cases e
  have hle : len ≤ ss.length := by rw [hss]; split <;> omega
  have hlen : (ss.take len).length = len := by simp; omega
  rw [hx] at hw
  have e1 := hw _ (by rw [DataW.weights, Tryz.underlying22]; exact List.mem_cons_self)
  rw [bytes_str] at e1
  simp [strs, reachBytes] at e1
  refine ⟨some a, ss.take len, cap, by rw [hlen], .inr ⟨a, rfl, by rw [hlen]; exact hl, hm⟩, ?_, by rw [hlen]; omega, ?_⟩
  ·
   intro i hi
   rw [hlen] at hi
   have h0 := hcell 0 (by omega)
   obtain ⟨b, off, rfl⟩ := addr_form (a := a) (by simpa [Addr.add] using h0)
   have hc := hcell i (by omega)
   rw [Addr.add_lit] at hc
   refine ⟨b, off, rfl, ?_, World.block_lt_of_cell? W _ hc⟩
   rw [hc]
   simp [List.getD, List.getElem?_eq_getElem (show i < ss.length by omega)]
  ·
   intro s hs
   have := hw s.size (by
    rw [DataW.weights, Tryz.underlying22]
    refine List.mem_cons_of_mem _ (List.mem_append.2 (.inl (weights_of_all (d := .lit (.string s.data.toList)) ?_ _ ?_)))
    ·
     exact List.mem_map.2 ⟨s, hs, rfl⟩
    ·
     rw [weights_str]; exact List.mem_singleton.2 (by simp))
   exact this
theorem open_pws {n : Nat} {v : Value} {y : DataW H × List MemPlace} (h : DataW.trod enc Tryz.prog W base sp held n 23 [v] = some y) (hw : ∀ k ∈ y.1.weights Tryz.prog 23, k ≤ reachBytes) :
  ∃ (o : Option Addr) (l : List PW) (c : Nat), v = .slice o l.length c ∧ SlW o l.length c ∧ PWsAt (· < W.heap.size) W o l ∧ l.length * 24 ≤ 140737488351232 ∧ ∀ x ∈ l, x.data.size ≤ 140737488351232 := by
 rcases Deep.open_slice_pairs Tryz.underlying23 Tryz.underlying73 cellsOf_pw rfl rfl cellsOf_int cellsOf_one9 h with ⟨e, _⟩ | ⟨a, len, cap, m, n, V0, V1, D0, D1, P0, P1, e, hb, hl, hm, hmm, hx, hall⟩
 ·
  cases e
  exact ⟨none, [], 0, rfl, .inl ⟨rfl, rfl, rfl⟩, by intro i hi; simp at hi, by simp, by simp⟩
 ·
  cases e
  have hle : len ≤ m := by rw [hmm]; split <;> omega
  rw [hx] at hw
  have e1 := hw _ (by rw [DataW.weights, Tryz.underlying23]; exact List.mem_cons_self)
  rw [bytes_pw] at e1
  simp [reachBytes] at e1
  have each : ∀ i, i < len → ∃ x : Int × ByteArray, W.cell? (a.add (i * 2)) = some (.int .i64 x.1) ∧ W.cell? (a.add (i * 2 + 1)) = some (.string x.2) ∧ D1 i = .lit (.string x.2.data.toList) := by
   intro i hi
   obtain ⟨c0, c1, t0, t1⟩ := hall i (by omega)
   obtain ⟨q, e0, _, _⟩ := DataW.trod_int Tryz.underlying3 t0
   obtain ⟨s, e1, e2, _⟩ := DataW.trod_string Tryz.underlying9 t1
   exact ⟨(q, s), by rw [c0, (List.cons.inj e0).1], by rw [c1, (List.cons.inj e1).1], congrArg Prod.fst e2⟩
  obtain ⟨X, hX⟩ := Deep.choose_lt each
  refine ⟨some a, (List.range len).map (fun i => ⟨(X i).1, (X i).2⟩), cap, by simp, .inr ⟨a, rfl, by simpa using hl, hm⟩, ?_, by simp; omega, ?_⟩
  ·
   intro i hi
   have hi' : i < len := by simpa using hi
   obtain ⟨c0, c1, _⟩ := hX i hi'
   have hz := (hX 0 (by omega)).1
   obtain ⟨b, off, rfl⟩ := addr_form (a := a) (by simpa [Addr.add] using hz)
   rw [Addr.add_lit] at c0 c1
   exact ⟨b, off, rfl, by simpa using c0, by simpa [Nat.add_assoc] using c1, World.block_lt_of_cell? W _ c0⟩
  ·
   intro x hx'
   obtain ⟨i, hi, rfl⟩ := List.mem_map.1 hx'
   have hi' : i < len := by simpa using hi
   have := hw (X i).2.size (by
    rw [DataW.weights, Tryz.underlying23]
    refine List.mem_cons_of_mem _ (List.mem_append.2 (.inl (weights_of_all (d := .agg [D0 i, D1 i]) (List.mem_map.2 ⟨i, hi, rfl⟩) _ ?_)))
    rw [DataW.weights, Tryz.underlying73, (hX i hi').2.2]
    refine DataW.weights_mem_each (j := 1) (t := 9) (d := .lit (.string (X i).2.data.toList)) rfl rfl _ ?_
    rw [weights_str]; exact List.mem_singleton.2 (by simp))
   exact this
end
end Go.Proofs.YtghikgjknhjjgaaGreatDoor
namespace Go.Proofs.YtghikgjknhjjgaaGreatDoor
set_option maxRecDepth 100000
open Go.RowKit Go.ChangeShapes Go.WideShapes
section
variable {H : Type} {enc : TypeId × Value → H} {W : World} {base : Nat} {sp : Nat → Bool} {held : Bool}
theorem wts_all {P : Program} {e : TypeId} {d : DataW H} : ∀ {ds : List (DataW H)}, d ∈ ds → ∀ n ∈ d.weights P e, n ∈ DataW.weightsAll P e ds
 | x :: ds, hd, n, hn => by
  simp only [DataW.weightsAll, List.mem_append]
  rcases List.mem_cons.1 hd with rfl | h
  ·
   exact .inl hn
  ·
   exact .inr (wts_all h n hn)
/-- as open_rows; an element's own weights may be used -/
theorem open_rowsP {X : Type} [Inhabited X] {ok : X → Prop} {en : X → List Value} {t e : TypeId} {m bytes : Nat} (ht : Tryz.prog.underlying t = some (.slice e)) (hm : Tryz.prog.cellsOf e = m) (hm0 : 0 < m) (hb : Tryz.prog.bytesOf e = bytes) (hlen : ∀ x, ok x → (en x).length = m)
  (hE : ∀ n cs y, DataW.trod enc Tryz.prog W base sp held n e cs = some y → (∀ k ∈ y.1.weights Tryz.prog e, k ≤ reachBytes) → ∃ x : X, ok x ∧ cs = en x) {n : Nat} {cs : List Value} {y : DataW H × List MemPlace}
  (h : DataW.trod enc Tryz.prog W base sp held n t cs = some y) (hw : ∀ k ∈ y.1.weights Tryz.prog t, k ≤ reachBytes) :
  ∃ (o : Option Addr) (l : List X) (c : Nat), cs = [.slice o l.length c] ∧ SlW o l.length c ∧ RowAt (· < W.heap.size) W o (l.map en).flatten ∧ (∀ x ∈ l, ok x) ∧ l.length * bytes ≤ 140737488351232 := by
 rcases Deep.open_slice ht h with ⟨e0, _⟩ | ⟨a, len, cap, k, n', D, Pl, e0, hba, hl, hcap, hk, hx, hall⟩
 ·
  exact ⟨none, [], 0, e0, .inl ⟨rfl, rfl, rfl⟩, RowAt.nil _ _ _, (fun x hx => by cases hx), by simp⟩
 ·
  rw [hx] at hw
  have hle : len ≤ k := by rw [hk]; split <;> omega
  have hwD : ∀ i, i < len → ∀ q ∈ (D i).weights Tryz.prog e, q ≤ reachBytes := by
   intro i hi q hq
   refine hw q ?_
   rw [DataW.weights, ht]
   exact List.mem_cons_of_mem _ (List.mem_append_left _ (wts_all (List.mem_map.2 ⟨i, List.mem_range.2 hi, rfl⟩) q hq))
  have e1 := hw _ (by rw [DataW.weights, ht]; exact List.mem_cons_self)
  rw [hb] at e1
  simp [reachBytes] at e1
  rw [hm] at hall
  have each : ∀ i, i < len → ∃ x : X, ok x ∧ ∀ j, j < m → W.cell? ((a.add (i * m)).add j) = (en x)[j]? := by
   intro i hi
   obtain ⟨cs', h1, h2⟩ := hall i (by omega)
   obtain ⟨x, hox, rfl⟩ := hE _ _ _ h2 (hwD i hi)
   obtain ⟨_, _, h3⟩ := World.cells?_some h1
   exact ⟨x, hox, h3⟩
  obtain ⟨Q, hQ⟩ := Deep.choose_lt each
  have hok : ∀ x ∈ (List.range len).map Q, ok x := by
   intro x hx
   obtain ⟨i, hi, rfl⟩ := List.mem_map.1 hx
   exact (hQ i (List.mem_range.1 hi)).1
  have hL : ∀ x ∈ ((List.range len).map Q).map en, x.length = m := by
   intro x hx
   obtain ⟨q, hq, rfl⟩ := List.mem_map.1 hx
   exact hlen q (hok q hq)
  refine ⟨some a, (List.range len).map Q, cap, by rw [e0]; simp, .inr ⟨a, rfl, by simpa using hl, hcap⟩, ?_, hok, by rw [List.length_map, List.length_range]; exact Nat.le_trans (Nat.mul_le_mul_right _ (by omega)) e1⟩
  intro j hj
  have hfl := flat_len hL
  rw [List.length_map, List.length_map, List.length_range] at hfl
  obtain ⟨q, r, hr, rfl⟩ : ∃ q r, r < m ∧ j = q * m + r := ⟨j / m, j % m, Nat.mod_lt _ hm0, by rw [Nat.mul_comm]; exact (Nat.div_add_mod j m).symm⟩
  have hq : q < len := by
   rcases Nat.lt_or_ge q len with h | h
   ·
    exact h
   ·
    have := Nat.mul_le_mul_right m h; omega
  have hc := (hQ q hq).2 r hr
  have hg := flat_get hL q r hr
  simp only [List.getElem?_map, List.getElem?_range hq, Option.map_some, Option.bind_some] at hg
  rw [← hg, Deep.add_add, List.getElem?_eq_getElem hj] at hc
  have h00 := (hQ 0 (by omega)).2 0 hm0
  obtain ⟨b, off, rfl⟩ : ∃ b off, a = ⟨b, off, none⟩ := by
   have hz : (en (Q 0))[0]? = some ((en (Q 0))[0]'(by rw [hlen _ (hQ 0 (by omega)).1]; exact hm0)) := List.getElem?_eq_getElem _
   rw [hz] at h00
   exact addr_form (by simpa [Addr.add] using h00)
  rw [Addr.add_lit] at hc
  exact ⟨b, off, rfl, hc, World.block_lt_of_cell? W _ hc⟩
theorem list4 {α : Type} {cs : List α} (h : cs.length = 4) : ∃ c0 c1 c2 c3, cs = [c0, c1, c2, c3] := by
 match cs, h with
 | [c0, c1, c2, c3], _ => exact ⟨c0, c1, c2, c3, rfl⟩
/-- a struct of four one-cell fields, by its cells -/
theorem trod_one4 {P : Program} {t : TypeId} {f0 f1 f2 f3 : Field} {cs : List Value} {n : Nat} {y : DataW H × List MemPlace} (hs : P.underlying t = some (.struct #[f0, f1, f2, f3])) (hone : Deep.oneCellFields P #[f0, f1, f2, f3] = true) (hC : P.cellsOf t = 4)
  (h : DataW.trod enc P W base sp held n t cs = some y) :
  ∃ (v0 v1 v2 v3 : Value) (y0 y1 y2 y3 : DataW H × List MemPlace) (n : Nat), cs = [v0, v1, v2, v3] ∧ y.1 = .agg [y0.1, y1.1, y2.1, y3.1] ∧
   DataW.trod enc P W base sp held n f0.type [v0] = some y0 ∧ DataW.trod enc P W base sp held n f1.type [v1] = some y1 ∧ DataW.trod enc P W base sp held n f2.type [v2] = some y2 ∧ DataW.trod enc P W base sp held n f3.type [v3] = some y3 := by
 obtain ⟨y0, y1, y2, y3, m, hx, hl, h0, h1, h2, h3⟩ := Go.Joins.trod_struct4 hs h
 obtain ⟨c0, c1, c2, c3, rfl⟩ := list4 (hl.trans hC)
 obtain ⟨o0, k0⟩ := Deep.hone_of hone 0 f0 rfl
 obtain ⟨o1, k1⟩ := Deep.hone_of hone 1 f1 rfl
 obtain ⟨o2, k2⟩ := Deep.hone_of hone 2 f2 rfl
 obtain ⟨o3, k3⟩ := Deep.hone_of hone 3 f3 rfl
 exact ⟨c0, c1, c2, c3, y0, y1, y2, y3, m, rfl, by rw [hx], by simpa [o0, k0] using h0, by simpa [o1, k1] using h1, by simpa [o2, k2] using h2, by simpa [o3, k3] using h3⟩
set_option maxRecDepth 100000 in
theorem trod_disk {n : Nat} {cs : List Value} {y : DataW H × List MemPlace} (h : DataW.trod enc Tryz.prog W base sp held n 25 cs = some y) (hw : ∀ k ∈ y.1.weights Tryz.prog 25, k ≤ reachBytes) :
  ∃ (x : Dsk) (po co : Option Addr) (pc cc : Nat), cs = (dC x po co pc cc).toList ∧ DskV W (.agg (dC x po co pc cc)) x := by
 obtain ⟨v0, v1, v2, v3, y0, y1, y2, y3, n, rfl, hd, h0, h1, h2, h3⟩ := trod_one4 Tryz.underlying25 (by kernel_rfl) cellsOf_disk h
 rw [hd, DataW.weights, Tryz.underlying25] at hw
 obtain ⟨size, e0, _, _⟩ := DataW.trod_int Tryz.underlying3 h0
 obtain ⟨left, e3, _, wl⟩ := DataW.trod_int Tryz.underlying3 h3
 obtain rfl := (List.cons.inj e0).1
 obtain rfl := (List.cons.inj e3).1
 obtain ⟨po, pages, pc, rfl, s1, a1, l1, z1⟩ := open_strs h1 (fun k hk => hw k (DataW.weights_mem_each (j := 1) (t := 22) rfl rfl k hk))
 obtain ⟨co, cache, cc, rfl, s2, a2, l2, z2⟩ := open_pws h2 (fun k hk => hw k (DataW.weights_mem_each (j := 2) (t := 23) rfl rfl k hk))
 refine ⟨⟨size, pages, cache, left⟩, po, co, pc, cc, rfl, po, pc, co, cc, rfl, a1, a2, ⟨s1, s2, by simp only; omega, by simp only; omega, z1, z2, ?_⟩⟩
 simpa [Lit.wf, IntKind.min, IntKind.max, IntKind.signed, IntKind.bits] using wl
theorem cellsOf_log : Tryz.prog.cellsOf 27 = 8 := by kernel_rfl
theorem cellsOf_strs : Tryz.prog.cellsOf 22 = 1 := by kernel_rfl
theorem structLog : Tryz.prog.underlying 27 = some (.struct (Tryz.prog.fieldsOf 27)) := by kernel_rfl
theorem fieldsLog : (Tryz.prog.fieldsOf 27).toList.map (fun f => (f.type, f.offset)) = [(25, 0), (3, 4), (3, 5), (3, 6), (22, 7)] := by kernel_rfl
set_option maxRecDepth 100000 in
theorem open_log {r : Reach} {b0 : Nat} {v : Value} {d : DataW H} {p : List MemPlace} (hv : Value.okWide Tryz.prog W r b0 27 v) (h : DataW.Trod enc Tryz.prog W base sp held 27 v d p) (hw : ∀ k ∈ d.weights Tryz.prog 27, k ≤ reachBytes) :
  ∃ x : Lg, LgV W v x := by
 obtain ⟨cs, rfl, hsz⟩ := okWide_struct structLog hv
 rw [cellsOf_log] at hsz
 obtain ⟨fuel, hfu⟩ := h
 have hf := fieldsLog
 obtain ⟨xs, m, _, hy, hl, hx, hall⟩ := DataW.trod_struct structLog hfu
 have hd : d = .agg (xs.map (·.1)) := congrArg Prod.fst hy
 have hw' : ∀ k ∈ DataW.weightsEach Tryz.prog ((Tryz.prog.fieldsOf 27).toList.map (·.type)) (xs.map (·.1)), k ≤ reachBytes := by
  intro k hk
  refine hw k ?_
  rw [hd, DataW.weights, structLog]
  exact hk
 have hcs : (Value.agg cs).cells.toList = cs.toList := rfl
 rw [hcs] at hall
 have hall' : ∀ (i : Nat) (f : Field), (Tryz.prog.fieldsOf 27).toList[i]? = some f → DataW.trod enc Tryz.prog W base sp held m f.type ((cs.toList.drop f.offset).take (Tryz.prog.cellsOf f.type)) = xs[i]? := fun i f e => hall i f (by rw [← Array.getElem?_toList]; exact e)
 have hx' : xs.length = (Tryz.prog.fieldsOf 27).toList.length := by rw [hx]; rfl
 generalize (Tryz.prog.fieldsOf 27).toList = fs at *
 have hl5 : fs.length = 5 := by simpa using congrArg List.length hf
 match fs, hl5 with
 | [f1, f2, f3, f4, f5], _ =>
  simp only [List.map_cons, List.map_nil, List.cons.injEq, Prod.mk.injEq, and_true] at hf
  obtain ⟨⟨t1, o1⟩, ⟨t2, o2⟩, ⟨t3, o3⟩, ⟨t4, o4⟩, ⟨t5, o5⟩⟩ := hf
  have h1 := hall' 0 f1 rfl
  have h2 := hall' 1 f2 rfl
  have h3 := hall' 2 f3 rfl
  have h4 := hall' 3 f4 rfl
  have h5 := hall' 4 f5 rfl
  simp only [List.length_cons, List.length_nil] at hx'
  rw [t1, o1, cellsOf_disk, List.getElem?_eq_getElem (by omega)] at h1
  rw [t2, o2, cellsOf_int, List.getElem?_eq_getElem (by omega)] at h2
  rw [t3, o3, cellsOf_int, List.getElem?_eq_getElem (by omega)] at h3
  rw [t4, o4, cellsOf_int, List.getElem?_eq_getElem (by omega)] at h4
  rw [t5, o5, cellsOf_strs, List.getElem?_eq_getElem (by omega)] at h5
  obtain ⟨x, po, co, pc, cc, e1, hD⟩ := trod_disk h1 (fun k hk => hw' k (DataW.weights_mem_each (j := 0) (t := 25) (d := (xs[0]'(by omega)).1) (by simp [t1]) (by rw [List.getElem?_map, List.getElem?_eq_getElem (by omega)]; rfl) k hk))
  obtain ⟨q2, e2, _, _⟩ := DataW.trod_int Tryz.underlying3 h2
  obtain ⟨q3, e3, _, _⟩ := DataW.trod_int Tryz.underlying3 h3
  obtain ⟨q4, e4, _, _⟩ := DataW.trod_int Tryz.underlying3 h4
  have hL : cs.toList.length = 8 := by simpa using hsz
  have g5 : (cs.toList.drop 7).take 1 = cs.toList.drop 7 := List.take_of_length_le (by rw [List.length_drop]; omega)
  obtain ⟨z, hz⟩ : ∃ z, cs.toList.drop 7 = [z] := by
   have : (cs.toList.drop 7).length = 1 := by rw [List.length_drop]; omega
   match cs.toList.drop 7, this with
   | [z], _ => exact ⟨z, rfl⟩
  rw [g5, hz] at h5
  obtain ⟨ro, recs, rc, e5, s5, a5, _, _⟩ := open_strs h5 (fun k hk => hw' k (DataW.weights_mem_each (j := 4) (t := 22) (d := (xs[4]'(by omega)).1) (by simp [t5]) (by rw [List.getElem?_map, List.getElem?_eq_getElem (by omega)]; rfl) k hk))
  have st : ∀ a m, cs.toList.drop a = (cs.toList.drop a).take m ++ cs.toList.drop (a + m) := fun a m => by rw [← List.drop_drop, List.take_append_drop]
  have k0 : cs.toList.drop 0 = (cs.toList.drop 0).take 4 ++ cs.toList.drop 4 := st 0 4
  have k1 : cs.toList.drop 4 = (cs.toList.drop 4).take 1 ++ cs.toList.drop 5 := st 4 1
  have k2 : cs.toList.drop 5 = (cs.toList.drop 5).take 1 ++ cs.toList.drop 6 := st 5 1
  have k3 : cs.toList.drop 6 = (cs.toList.drop 6).take 1 ++ cs.toList.drop 7 := st 6 1
  rw [e4, hz, e5] at k3
  rw [e3, k3] at k2
  rw [e2, k2] at k1
  rw [e1, k1] at k0
  have hcs' : cs = lgC x po co pc cc q2 q3 q4 ro recs.length rc := by
   rw [← Array.toList_inj]
   exact k0
  rw [hcs']
  exact ⟨⟨x, q2, q3, q4, recs⟩, po, pc, co, cc, ro, rc, rfl, hD, s5, a5⟩
theorem open_recs {r : Reach} {b0 : Nat} {v : Value} {d : DataW H} {p : List MemPlace} (hv : Value.okWide Tryz.prog W r b0 22 v) (h : DataW.Trod enc Tryz.prog W base sp held 22 v d p) (hw : ∀ k ∈ d.weights Tryz.prog 22, k ≤ reachBytes) :
  ∃ (o : Option Addr) (l : List ByteArray) (c : Nat), v = .slice o l.length c ∧ SlW o l.length c ∧ StrsAt (· < W.heap.size) W o l := by
 obtain ⟨a0, len0, cap0, rfl⟩ := okWide_slice Tryz.underlying22 hv
 obtain ⟨fuel, hf⟩ := h
 obtain ⟨o, l, c, e, h1, h2, _, _⟩ := open_strs (v := .slice a0 len0 cap0) hf hw
 exact ⟨o, l, c, e, h1, h2⟩
theorem cellsOf_act : Tryz.prog.cellsOf 32 = 4 := by kernel_rfl
theorem bytes_act : Tryz.prog.bytesOf 32 = 64 := by kernel_rfl
instance : Inhabited ActA := ⟨⟨0, [], 0, []⟩⟩
/-- an act with its two slices -/
structure ActX where
 a : ActA
 ro : Option Addr
 po : Option Addr
 rc : Nat
 pc : Nat
instance : Inhabited ActX := ⟨⟨default, none, none, 0, 0⟩⟩
def actX (x : ActX) : List Value := [.int .i64 x.a.kind, .slice x.ro x.a.recs.length x.rc, .int .u8 x.a.n, .slice x.po x.a.picks.length x.pc]
theorem ints_flat : ∀ l : List Int, (l.map fun x => [Value.int .i64 x]).flatten = l.map (.int .i64)
 | [] => rfl
 | x :: l => by rw [List.map_cons, List.flatten_cons, ints_flat l]; rfl
set_option maxRecDepth 100000 in
theorem open_intsT {n : Nat} {v : Value} {y : DataW H × List MemPlace} (h : DataW.trod enc Tryz.prog W base sp held n 30 [v] = some y) (hw : ∀ k ∈ y.1.weights Tryz.prog 30, k ≤ reachBytes) :
  ∃ (o : Option Addr) (l : List Int) (c : Nat), v = .slice o l.length c ∧ SlW o l.length c ∧ IntsAt (· < W.heap.size) W o l ∧ ∀ x ∈ l, -9223372036854775808 ≤ x ∧ x ≤ 9223372036854775807 := by
 obtain ⟨o, l, c, e, hs, hr, hok, _⟩ := open_rowsP (X := Int) (ok := fun x => -9223372036854775808 ≤ x ∧ x ≤ 9223372036854775807) (en := fun x => [.int .i64 x]) Tryz.underlying30 cellsOf_int (by decide) bytes_int (fun _ _ => rfl)
  (fun n cs y h _ => by
   obtain ⟨q, e0, _, wf⟩ := DataW.trod_int Tryz.underlying3 h
   exact ⟨q, by simpa [Lit.wf, IntKind.min, IntKind.max, IntKind.signed, IntKind.bits] using wf, e0⟩) h hw
 refine ⟨o, l, c, (List.cons.inj e).1, hs, .of_row ?_, hok⟩
 rw [← ints_flat]; exact hr
def okAct (W : World) (x : ActX) : Prop := ActOk W x.a x.ro x.po x.rc x.pc
set_option maxRecDepth 100000 in
theorem trod_act {n : Nat} {cs : List Value} {y : DataW H × List MemPlace} (h : DataW.trod enc Tryz.prog W base sp held n 32 cs = some y) (hw : ∀ k ∈ y.1.weights Tryz.prog 32, k ≤ reachBytes) :
  ∃ x : ActX, okAct W x ∧ cs = actX x := by
 obtain ⟨v0, v1, v2, v3, y0, y1, y2, y3, n, rfl, hd, h0, h1, h2, h3⟩ := trod_one4 Tryz.underlying32 (by kernel_rfl) cellsOf_act h
 rw [hd, DataW.weights, Tryz.underlying32] at hw
 obtain ⟨kd, e0, _, wk⟩ := DataW.trod_int Tryz.underlying3 h0
 obtain ⟨q, e2, _, wq⟩ := DataW.trod_int Tryz.underlying5 h2
 obtain rfl := (List.cons.inj e0).1
 obtain rfl := (List.cons.inj e2).1
 obtain ⟨ro, recs, rc, rfl, s1, a1, _, _⟩ := open_strs h1 (fun k hk => hw k (DataW.weights_mem_each (j := 1) (t := 22) rfl rfl k hk))
 obtain ⟨po, picks, pc, rfl, s2, a2, b2⟩ := open_intsT h3 (fun k hk => hw k (DataW.weights_mem_each (j := 3) (t := 30) rfl rfl k hk))
 have wk' : -9223372036854775808 ≤ kd ∧ kd ≤ 9223372036854775807 := by simpa [Lit.wf, IntKind.min, IntKind.max, IntKind.signed, IntKind.bits] using wk
 have wq' : 0 ≤ q ∧ q ≤ 255 := by simpa [Lit.wf, IntKind.min, IntKind.max, IntKind.signed, IntKind.bits] using wq
 obtain ⟨m, rfl⟩ : ∃ m : Nat, q = m := ⟨q.toNat, by omega⟩
 exact ⟨⟨⟨kd, recs, m, picks⟩, ro, po, rc, pc⟩, ⟨s1, s2, a1, a2, wk', by simp only; omega, b2⟩, rfl⟩
theorem actX_len {l : List ActX} : ∀ x ∈ l.map actX, x.length = 4 := by
 intro x hx
 obtain ⟨q, _, rfl⟩ := List.mem_map.1 hx
 rfl
set_option maxRecDepth 100000 in
theorem open_acts {n : Nat} {v : Value} {y : DataW H × List MemPlace} (h : DataW.trod enc Tryz.prog W base sp held n 33 [v] = some y) (hw : ∀ k ∈ y.1.weights Tryz.prog 33, k ≤ reachBytes) :
  ∃ (o : Option Addr) (l : List ActA) (c : Nat), v = .slice o l.length c ∧ SlW o l.length c ∧ ActsAt W o l := by
 obtain ⟨o, l, c, e, hs, hr, hok, _⟩ := open_rowsP (X := ActX) (ok := okAct W) (en := actX) Tryz.underlying33 cellsOf_act (by decide) bytes_act (fun _ _ => rfl) (fun n cs y h hw => trod_act h hw) h hw
 refine ⟨o, l.map (·.a), c, by rw [List.length_map]; exact (List.cons.inj e).1, by rw [List.length_map]; exact hs, ?_⟩
 intro i hi
 have hi' : i < l.length := by simpa using hi
 have hl := flat_len (actX_len (l := l))
 rw [List.length_map] at hl
 have hc : ∀ r, r < 4 → ∃ b off, o = some ⟨b, off, none⟩ ∧ W.cell? ⟨b, off + (i * 4 + r), none⟩ = (actX l[i])[r]? := by
  intro r hr4
  obtain ⟨b, off, eo, hcell, _⟩ := hr (i * 4 + r) (by omega)
  refine ⟨b, off, eo, ?_⟩
  have hg := flat_get (actX_len (l := l)) i r hr4
  rw [List.getElem?_map, List.getElem?_eq_getElem hi', Option.map_some, Option.bind_some] at hg
  rw [hcell, ← hg]
  exact (List.getElem?_eq_getElem _).symm
 obtain ⟨b, off, rfl, k0⟩ := hc 0 (by decide)
 obtain ⟨b1, off1, q1, k1⟩ := hc 1 (by decide)
 obtain ⟨b2, off2, q2, k2⟩ := hc 2 (by decide)
 obtain ⟨b3, off3, q3, k3⟩ := hc 3 (by decide)
 obtain ⟨rfl, rfl⟩ : b = b1 ∧ off = off1 := by simpa using q1
 obtain ⟨rfl, rfl⟩ : b = b2 ∧ off = off2 := by simpa using q2
 obtain ⟨rfl, rfl⟩ : b = b3 ∧ off = off3 := by simpa using q3
 have ok := hok l[i] (List.getElem_mem hi')
 refine ⟨b, off, l[i].ro, l[i].rc, l[i].po, l[i].pc, rfl, ?_, ?_, ?_, ?_, ?_⟩
 ·
  simpa [actX] using k0
 ·
  simpa [actX, Nat.add_assoc] using k1
 ·
  simpa [actX, Nat.add_assoc] using k2
 ·
  simpa [actX, Nat.add_assoc] using k3
 ·
  simpa [okAct] using ok
theorem cellsOf_acts : Tryz.prog.cellsOf 33 = 1 := by kernel_rfl
theorem cellsOf_run : Tryz.prog.cellsOf 35 = 5 := by kernel_rfl
theorem structRun : Tryz.prog.underlying 35 = some (.struct (Tryz.prog.fieldsOf 35)) := by kernel_rfl
theorem fieldsRun : (Tryz.prog.fieldsOf 35).toList.map (fun f => (f.type, f.offset)) = [(3, 0), (3, 1), (3, 2), (3, 3), (33, 4)] := by kernel_rfl
set_option maxRecDepth 100000 in
theorem open_run {r : Reach} {b0 : Nat} {v : Value} {d : DataW H} {p : List MemPlace} (hv : Value.okWide Tryz.prog W r b0 35 v) (h : DataW.Trod enc Tryz.prog W base sp held 35 v d p) (hw : ∀ k ∈ d.weights Tryz.prog 35, k ≤ reachBytes) :
  ∃ (p s frm til : Int) (acts : List ActA) (o : Option Addr) (c : Nat), v = .agg #[.int .i64 p, .int .i64 s, .int .i64 frm, .int .i64 til, .slice o acts.length c] ∧ ActsAt W o acts ∧ SlW o acts.length c := by
 obtain ⟨cs, rfl, hsz⟩ := okWide_struct structRun hv
 rw [cellsOf_run] at hsz
 obtain ⟨fuel, hfu⟩ := h
 have hf := fieldsRun
 obtain ⟨xs, m, _, hy, hl, hx, hall⟩ := DataW.trod_struct structRun hfu
 have hd : d = .agg (xs.map (·.1)) := congrArg Prod.fst hy
 have hw' : ∀ k ∈ DataW.weightsEach Tryz.prog ((Tryz.prog.fieldsOf 35).toList.map (·.type)) (xs.map (·.1)), k ≤ reachBytes := by
  intro k hk
  refine hw k ?_
  rw [hd, DataW.weights, structRun]
  exact hk
 have hcs : (Value.agg cs).cells.toList = cs.toList := rfl
 rw [hcs] at hall
 have hall' : ∀ (i : Nat) (f : Field), (Tryz.prog.fieldsOf 35).toList[i]? = some f → DataW.trod enc Tryz.prog W base sp held m f.type ((cs.toList.drop f.offset).take (Tryz.prog.cellsOf f.type)) = xs[i]? := fun i f e => hall i f (by rw [← Array.getElem?_toList]; exact e)
 have hx' : xs.length = (Tryz.prog.fieldsOf 35).toList.length := by rw [hx]; rfl
 generalize (Tryz.prog.fieldsOf 35).toList = fs at *
 have hl5 : fs.length = 5 := by simpa using congrArg List.length hf
 match fs, hl5 with
 | [f1, f2, f3, f4, f5], _ =>
  simp only [List.map_cons, List.map_nil, List.cons.injEq, Prod.mk.injEq, and_true] at hf
  obtain ⟨⟨t1, o1⟩, ⟨t2, o2⟩, ⟨t3, o3⟩, ⟨t4, o4⟩, ⟨t5, o5⟩⟩ := hf
  have h1 := hall' 0 f1 rfl
  have h2 := hall' 1 f2 rfl
  have h3 := hall' 2 f3 rfl
  have h4 := hall' 3 f4 rfl
  have h5 := hall' 4 f5 rfl
  simp only [List.length_cons, List.length_nil] at hx'
  rw [t1, o1, cellsOf_int, List.getElem?_eq_getElem (by omega)] at h1
  rw [t2, o2, cellsOf_int, List.getElem?_eq_getElem (by omega)] at h2
  rw [t3, o3, cellsOf_int, List.getElem?_eq_getElem (by omega)] at h3
  rw [t4, o4, cellsOf_int, List.getElem?_eq_getElem (by omega)] at h4
  rw [t5, o5, cellsOf_acts, List.getElem?_eq_getElem (by omega)] at h5
  obtain ⟨q1, e1, _, _⟩ := DataW.trod_int Tryz.underlying3 h1
  obtain ⟨q2, e2, _, _⟩ := DataW.trod_int Tryz.underlying3 h2
  obtain ⟨q3, e3, _, _⟩ := DataW.trod_int Tryz.underlying3 h3
  obtain ⟨q4, e4, _, _⟩ := DataW.trod_int Tryz.underlying3 h4
  have hL : cs.toList.length = 5 := by simpa using hsz
  have g5 : (cs.toList.drop 4).take 1 = cs.toList.drop 4 := List.take_of_length_le (by rw [List.length_drop]; omega)
  obtain ⟨z, hz⟩ : ∃ z, cs.toList.drop 4 = [z] := by
   have : (cs.toList.drop 4).length = 1 := by rw [List.length_drop]; omega
   match cs.toList.drop 4, this with
   | [z], _ => exact ⟨z, rfl⟩
  rw [g5, hz] at h5
  obtain ⟨o, acts, c, e5, s5, a5⟩ := open_acts h5 (fun k hk => hw' k (DataW.weights_mem_each (j := 4) (t := 33) (d := (xs[4]'(by omega)).1) (by simp [t5]) (by rw [List.getElem?_map, List.getElem?_eq_getElem (by omega)]; rfl) k hk))
  have st : ∀ a m, cs.toList.drop a = (cs.toList.drop a).take m ++ cs.toList.drop (a + m) := fun a m => by rw [← List.drop_drop, List.take_append_drop]
  have k0 : cs.toList.drop 0 = (cs.toList.drop 0).take 1 ++ cs.toList.drop 1 := st 0 1
  have k1 : cs.toList.drop 1 = (cs.toList.drop 1).take 1 ++ cs.toList.drop 2 := st 1 1
  have k2 : cs.toList.drop 2 = (cs.toList.drop 2).take 1 ++ cs.toList.drop 3 := st 2 1
  have k3 : cs.toList.drop 3 = (cs.toList.drop 3).take 1 ++ cs.toList.drop 4 := st 3 1
  rw [e4, hz, e5] at k3
  rw [e3, k3] at k2
  rw [e2, k2] at k1
  rw [e1, k1] at k0
  have hcs' : cs = #[.int .i64 q1, .int .i64 q2, .int .i64 q3, .int .i64 q4, .slice o acts.length c] := by
   rw [← Array.toList_inj]
   exact k0
  rw [hcs']
  exact ⟨q1, q2, q3, q4, acts, o, c, rfl, a5, s5⟩
end
end Go.Proofs.YtghikgjknhjjgaaGreatDoor
namespace Go.Proofs.YtghikgjknhjjgaaGreatDoor
set_option maxRecDepth 100000
open Go.RowKit
theorem wrsP_cnt (l : Lg) : ∀ (f a : Nat) (s : List UInt8), (wrsP l f a s).length ≤ f
 | 0, _, _ => by simp [wrsP]
 | _ + 1, _, [] => by simp [wrsP]
 | f + 1, a, c :: r => by
  rw [wrsP, List.length_cons]
  exact Nat.succ_le_succ (wrsP_cnt l f _ _)
theorem finL_bd (l : Lg) (recs : List ByteArray) (ops : List DOp) : (finL l recs ops).1.disk.cache.length ≤ l.disk.cache.length + ops.length ∧ (finL l recs ops).1.recs.length ≤ max l.recs.length recs.length := by
 have h := perf_cache ops l.disk
 unfold finL
 split
 ·
  exact ⟨h, Nat.le_max_left _ _⟩
 ·
  exact ⟨h, Nat.le_max_right _ _⟩
theorem openL_bd (d : Dsk) (frm til : Int) : (openL d frm til).1.disk.cache.length ≤ d.cache.length ∧ (openL d frm til).1.recs.length ≤ 600000 := by
 by_cases h : fitE d frm til = 0
 ·
  by_cases hv : (headL d frm til).1 = 0
  ·
   rw [openL_nohead h hv]; simp [zeroL, zeroD]
  ·
   cases hr : recsOf ((areaL d frm til).take (headL d frm til).2) with
   | none => rw [openL_norecs h hv hr]; simp [zeroL, zeroD]
   | some l =>
    have hk := openL_ok h hv hr
    have hval : validL ⟨d, frm, til, (headL d frm til).1, l⟩ = true := by
     unfold validL; simp only; rw [hk]; simp
    have h1 := valid_bd hval
    have h2 := recs_len_size l
    rw [hk]
    exact ⟨Nat.le_refl _, by simp only at h1 ⊢; omega⟩
 ·
  rw [openL_bad h]; simp [zeroL, zeroD]
theorem crash_cache (d : Dsk) (picks : List Int) : (crashD d picks).cache = [] := by unfold crashD; split <;> rfl
theorem actL_bd {l : Lg} {a : ActA} {C : Nat} (hc : l.disk.cache.length ≤ C) {M : Nat} (hm : 600000 ≤ M) (hr : l.recs.length ≤ M) :
  (actL l a).1.disk.cache.length ≤ C + sizeL a.recs + 3 ∧ (actL l a).1.recs.length ≤ M + a.recs.length := by
 unfold actL
 by_cases h0 : a.kind = 0
 ·
  rw [if_pos h0]
  unfold apL
  have hz : zeroL.disk.cache.length = 0 ∧ zeroL.recs.length = 0 := ⟨rfl, rfl⟩
  split
  ·
   simp only [hz]; omega
  split
  ·
   simp only [hz]; omega
  split
  ·
   simp only; omega
  split
  ·
   simp only [hz]; omega
  ·
   have h1 := finL_bd l (l.recs ++ a.recs) (wrsL l (sizeL l.recs) (streamL a.recs) ++ .fl :: nextL l (sizeL l.recs + sizeL a.recs))
   have h2 := wrsP_cnt l (streamL a.recs).length (sizeL l.recs) (streamL a.recs)
   rw [streamL_len] at h2
   have h3 : (wrsL l (sizeL l.recs) (streamL a.recs)).length ≤ sizeL a.recs := by unfold wrsL; rw [streamL_len]; exact h2
   have h4 : (nextL l (sizeL l.recs + sizeL a.recs)).length = 2 := rfl
   simp only [List.length_append, List.length_cons, h4] at h1
   omega
 rw [if_neg h0]
 by_cases h1 : a.kind = 1
 ·
  rw [if_pos h1]
  generalize (a.n : Int) % ((l.recs.length : Int) + 1) = n
  unfold cutL
  have hz : zeroL.disk.cache.length = 0 ∧ zeroL.recs.length = 0 := ⟨rfl, rfl⟩
  split
  ·
   simp only [hz]; omega
  split
  ·
   simp only [hz]; omega
  split
  ·
   simp only; omega
  split
  ·
   simp only [hz]; omega
  ·
   have h1 := finL_bd l (l.recs.take n.toNat) (nextL l (sizeL (l.recs.take n.toNat)))
   have h4 : (nextL l (sizeL (l.recs.take n.toNat))).length = 2 := rfl
   rw [h4, List.length_take] at h1
   omega
 rw [if_neg h1]
 by_cases h2 : a.kind = 2
 ·
  rw [if_pos h2]
  split <;> (simp only; omega)
 rw [if_neg h2]
 by_cases h3 : a.kind = 3
 ·
  rw [if_pos h3]
  have h4 := openL_bd (crashD l.disk a.picks) l.frm l.til
  rw [crash_cache] at h4
  simp only [List.length_nil] at h4
  omega
 ·
  rw [if_neg h3]; simp only; omega
theorem doL_bd {l : Lg} {a : ActA} {C : Nat} (hc : l.disk.cache.length ≤ C) {M : Nat} (hm : 600000 ≤ M) (hr : l.recs.length ≤ M) :
  (doL l a).1.disk.cache.length ≤ C + sizeL a.recs + 3 ∧ (doL l a).1.recs.length ≤ M + a.recs.length := by
 unfold doL
 split
 ·
  simp only; omega
 ·
  exact actL_bd hc hm hr
theorem act_fine {a : ActA} (h : actFine a = true) : a.recs.length ≤ 8 ∧ a.picks.length ≤ 20 ∧ sizeL a.recs ≤ 1616 := by
 unfold actFine at h
 simp only [Bool.and_eq_true, Bool.not_eq_true', decide_eq_false_iff_not] at h
 have := short_size h.2.2
 omega
/-- the bounds of the logs of a run, after k acts -/
def RunB (l : Lg) (k : Nat) : Prop := l.disk.cache.length ≤ 30 + 2000 * k ∧ l.recs.length ≤ 600000 + 8 * k
theorem RunB.next {l : Lg} {k : Nat} {a : ActA} (h : RunB l k) (ha : actFine a = true) : RunB (doL l a).1 (k + 1) := by
 have h1 := doL_bd (a := a) h.1 (M := 600000 + 8 * k) (by omega) h.2
 have h2 := act_fine ha
 exact ⟨by omega, by omega⟩
theorem begin_bd (p s frm til : Int) : RunB (beginL p s frm til).1 0 := by
 unfold beginL
 split
 ·
  exact ⟨by simp [zeroL, zeroD], by simp [zeroL]⟩
 split
 ·
  exact ⟨by simp [zeroL, zeroD], by simp [zeroL]⟩
 ·
  have h1 := openL_bd (fmtL (newD p s).1 frm til).1 frm til
  refine ⟨?_, by omega⟩
  have h2 : (fmtL (newD p s).1 frm til).1.cache.length ≤ 3 := by
   unfold fmtL
   split
   ·
    simp [zeroD]
   ·
    have := perf_cache [.wr frm (bs (List.replicate (newD p s).1.size.toNat 0)), .wr (frm + 1) (bs (hdrL (newD p s).1.size.toNat 1 0)), .fl] (newD p s).1
    rw [newD_cache] at this
    simpa using this
  omega
end Go.Proofs.YtghikgjknhjjgaaGreatDoor
