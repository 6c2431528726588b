/- law PagelogRoom: the walk. law PagelogElsewhere: the walk. -/
import Derived.Test.YtghikgjknhjjgaaDoorQ17
import Derived.Test.YtghikgjknhjjgaaDoorQ14
namespace Go.Proofs.YtghikgjknhjjgaaDoor
set_option maxRecDepth 100000
open Go.RowKit
theorem SlR.drop {S : Nat → Prop} {w : World} {b off : Nat} {l : List ByteArray} (h : StrsAt S w (some ⟨b, off, none⟩) l) (k : Nat) : StrsAt S w (some ⟨b, off + k, none⟩) (l.drop k) := by
 intro i hi
 have hi' : k + i < l.length := by rw [List.length_drop] at hi; omega
 obtain ⟨b', off', e, hc, hs⟩ := h (k + i) hi'
 obtain ⟨rfl, rfl⟩ : b = b' ∧ off = off' := by simpa using e
 refine ⟨b, off + k, rfl, ?_, hs⟩
 rw [List.getElem_drop, Nat.add_assoc]
 exact hc
/-- appending, then cutting -/
theorem room_key {l : Lg} {frm til : Int} {V : Nat} (h : LogG l frm til V) (hl : l.disk.left = -1) (hV : V ≤ 100) {rs : List ByteArray} (hs : shortB rs = true) :
  ((apL l rs).2 = 17 ∧ roomL l < sizeL rs) ∨
  ((apL l rs).2 = 0 ∧ (sizeL rs : Int) ≤ roomL l ∧ roomL (apL l rs).1 = roomL l - sizeL rs ∧ (apL l rs).1.recs.length ≤ 512000 ∧ sizeL (apL l rs).1.recs ≤ 1024000 ∧ (apL l rs).1.disk.cache.length = 0 ∧
   ∀ k : Nat, k ≤ (apL l rs).1.recs.length → (cutL (apL l rs).1 k).2 = 0 ∧ roomL (cutL (apL l rs).1 k).1 = roomL l - sizeL rs + sizeL ((apL l rs).1.recs.drop k)) := by
 have hr := h.room
 have after : ∀ (M : Lg) (U : Nat), LogG M frm til U → M.disk.left = -1 → U ≤ 150 → areaN M.disk frm til = areaN l.disk frm til → sizeL M.recs = sizeL l.recs + sizeL rs →
   roomL M = roomL l - sizeL rs ∧ M.recs.length ≤ 512000 ∧ sizeL M.recs ≤ 1024000 ∧ M.disk.cache.length = 0 ∧
   ∀ k : Nat, k ≤ M.recs.length → (cutL M k).2 = 0 ∧ roomL (cutL M k).1 = roomL l - sizeL rs + sizeL (M.recs.drop k) := by
  intro M U hM hMl hU ha hz
  have hMr := hM.room
  obtain ⟨b1, b2, b3, _⟩ := hM.bd
  refine ⟨by rw [hMr, hr, ha]; omega, b2, b3, b1, fun k hk => ?_⟩
  have hcut := sizeL_cut M.recs k
  rcases cut_step hM.log' hM.ver (by omega) (n := k) (by omega) (by omega) with ⟨e1, e2⟩ | e
  ·
   rw [e2]
   have : M.recs.drop k = [] := List.drop_of_length_le (by omega)
   rw [this]
   refine ⟨rfl, ?_⟩
   rw [hMr, hr, ha]
   simp [sizeL] at hz ⊢
   omega
  ·
   obtain ⟨f1, f2⟩ := e.full hMl
   rcases e.good hM with ⟨_, g, g2⟩ | ⟨g, _⟩
   ·
    refine ⟨f1, ?_⟩
    rw [g.room, g2, area_shape e.shape, ha, hr, Int.toNat_natCast]
    omega
   ·
    rw [f1] at g; exact absurd g (by decide)
 rcases ap_step h.log' h.ver (by omega) (short_le hs) with ⟨e1, e2⟩ | ⟨e1, e2⟩ | ⟨e1, e2, e3⟩
 ·
  right
  rw [e2, e1]
  have hz : sizeL ([] : List ByteArray) = 0 := rfl
  have := after l V h hl (by omega) rfl (by rw [e1, hz]; omega)
  rw [e1] at this
  obtain ⟨q1, q2, q3, q4, q5⟩ := this
  exact ⟨rfl, by rw [hz, hr]; have := h.bd; omega, q1, q2, q3, q4, q5⟩
 ·
  left
  rw [e2]
  rw [h.frm, h.til] at e1
  exact ⟨rfl, by rw [hr]; exact e1⟩
 ·
  right
  obtain ⟨f1, f2⟩ := e3.full hl
  rw [h.frm, h.til] at e1
  rcases e3.good h with ⟨_, g, g2⟩ | ⟨g, _⟩
  ·
   obtain ⟨q1, q2, q3, q4, q5⟩ := after _ _ g f2 (by omega) (area_shape e3.shape) (by rw [g2, sizeL_app])
   exact ⟨f1, by rw [hr]; exact e1, q1, q2, q3, q4, q5⟩
  ·
   rw [f1] at g; exact absurd g (by decide)
set_option maxHeartbeats 4000000 in
theorem law41_room (w : World) (p s frm til : Int) (acts : List ActA) (o : Option Addr) (c : Nat) (hA : ActsAt w o acts) (hsl : SlW o acts.length c) (rs : List ByteArray) (qo : Option Addr) (qc : Nat) (hqs : SlW qo rs.length qc) (hqt : StrsAt (· < w.heap.size) w qo rs) (n : Int) (hn : 0 ≤ n ∧ n ≤ 255) (hT : TabW w) :
  Calls Tryd.prog 6 #[.agg #[.int .i64 p, .int .i64 s, .int .i64 frm, .int .i64 til, .slice o acts.length c], .slice qo rs.length qc, .int .u8 n] w fun e w' => e = .returned (.bool true) ∧ Below w.heap.size w w' := by
 obtain ⟨W1, hW1⟩ : ∃ W1, w.alloc (.cells #[.int .i64 p, .int .i64 s, .int .i64 frm, .int .i64 til, .slice o acts.length c] 24) = W1 := ⟨_, rfl⟩
 have hB1 : Below w.heap.size w W1 := by subst hW1; exact Below.one w _
 have x1 : Bx W1 w.heap.size #[.int .i64 p, .int .i64 s, .int .i64 frm, .int .i64 til, .slice o acts.length c] 24 := by subst hW1; exact Bx.new w _ _
 have c0 := x1.cell
 have l0 := x1.lt
 have hrc := rn_Reached p s frm til acts o c W1 (hA.below hB1) hsl (hT.below hB1)
 have hso := reach_sound (p := p) (s := s) (frm := frm) (til := til) (acts := acts)
 obtain ⟨l, ok, hR⟩ : ∃ l ok, reachL p s frm til acts = (l, ok) := ⟨_, _, rfl⟩
 rw [hR] at hrc hso
 simp only at hso hrc
 have HS := Lib.hid hso
 clear hso hR
 go_enter Tryd.func6, Tryd.ntmps6
 go_wp2_with fail
 refine hrc.mono ?_
 rintro e w2 ⟨v2, rfl, hv2, hb2⟩
 have hv := hv2
 obtain ⟨po, pc, co, cc, ro, rc, rfl, -, -, -⟩ := hv2
 have hB2 := btr hB1 hb2
 have hBo := Below.one w2 (.cells (lgC l.disk po co pc cc l.frm l.til l.ver ro l.recs.length rc) 32)
 have xl := Bx.new w2 (lgC l.disk po co pc cc l.frm l.til l.ver ro l.recs.length rc) 32
 have hV := hv.below hBo
 have hB := btr hB2 hBo
 clear hrc hv hBo c0 l0 x1
 go_upto_region 2 with fail
 obtain ⟨b, hbe⟩ : ∃ b, w2.heap.size = b := ⟨_, rfl⟩
 have hwb : w.heap.size ≤ b := by have := hB2.size; omega
 obtain ⟨W4, hW4⟩ : ∃ W4, w2.alloc (.cells (lgC l.disk po co pc cc l.frm l.til l.ver ro l.recs.length rc) 32) = W4 := ⟨_, rfl⟩
 simp only [hW4, hbe] at *
 clear hW4 hbe hB2 hb2
 have c0 := xl.cell
 have l0 := xl.lt
 cases ok with
 | false =>
  go_wp2_with fail
  refine (law41_awake _ (hT.below hB)).mono ?_
  rintro e w3 ⟨rfl, hb3⟩
  go_wp2
  go_ret
  exact ⟨rfl, btr hB hb3⟩
 | true =>
  go_wp2_with fail
  obtain ⟨a, ha⟩ : ∃ a : ActA, a = ⟨0, rs, 0, []⟩ := ⟨_, rfl⟩
  have xa := Bx.new W4 (actC a qo none qc 0) 38
  have hBo := Below.one W4 (.cells (actC a qo none qc 0) 38)
  have hB3 := btr hB hBo
  have hok : ActOk (W4.alloc (.cells (actC a qo none qc 0) 38)) a qo none qc 0 := by
   refine ActOk.below (w := w) ?_ hB3
   subst ha
   exact ⟨hqs, .inl ⟨rfl, rfl, rfl⟩, hqt, fun i hi => absurd hi (Nat.not_lt_zero _), by simp, by simp, fun x hx => by cases hx⟩
  have hfi := rn_Fine 0 0 0 0 [a] (some ⟨W4.heap.size, 0, none⟩) 1 _ (acts_one xa hok) (.inr ⟨_, rfl, by simp, by unfold maxLen; decide⟩)
  have x3 := xl.belowAll hBo
  have hV3 := hV.below hBo
  have hae : actC a qo none qc 0 = #[.int .i64 0, .slice qo rs.length qc, .int .u8 0, .slice none 0 0] := by subst ha; rfl
  rw [hae] at hfi x3 hB3 hV3
  simp only [List.length_cons, List.length_nil, Nat.zero_add] at hfi
  clear xa hok hBo hae c0 l0 hB hV xl
  cases g : fineB 0 0 [a]
  ·
   rw [g] at hfi
   refine hfi.mono ?_
   rintro e w4 ⟨rfl, hb4⟩
   have hB := btr hB3 hb4
   clear hfi g hB3 x3
   go_wp2_with fail
   refine (law41_awake _ (hT.below hB)).mono ?_
   rintro e w3 ⟨rfl, hb3⟩
   go_wp2
   go_ret
   exact ⟨rfl, btr hB hb3⟩
  rw [g] at hfi
  obtain ⟨hrl8, -, hsh⟩ := fine_one g
  subst ha
  simp only at hrl8 hsh
  have hsz := short_size hsh
  have hsz2 : sizeL rs ≤ 50000 := by omega
  refine hfi.mono ?_
  rintro e w4 ⟨rfl, hb4⟩
  have hB := btr hB3 hb4
  have xl := x3.belowAll hb4
  have hV := hV3.below hb4
  clear hfi g hB3 x3 hb4 hV3
  have c0 := xl.cell
  have l0 := xl.lt
  cases gl : (l.disk.left != -1)
  ·
   have hl1 : l.disk.left = -1 := by simpa using gl
   obtain ⟨hs, hbd, hbr⟩ := HS.out (by trivial)
   have hgood : ∃ U, U ≤ 11 ∧ LogG l frm til U := by
    rcases hs with hs | ⟨_, _, h0, _⟩
    ·
     exact hs
    ·
     rw [h0] at hl1; exact absurd hl1 (by decide)
   obtain ⟨U, hU, hg⟩ := hgood
   have hkey := room_key hg hl1 (by omega) hsh
   obtain ⟨bd1, bd2, bd3, bd4, bd5⟩ := hg.bd
   have hrm := hg.room
   obtain ⟨M, e1, hM⟩ : ∃ M e1, apL l rs = (M, e1) := ⟨_, _, rfl⟩
   obtain ⟨rm, hrme⟩ : ∃ rm, roomL l = rm := ⟨_, rfl⟩
   rw [hM] at hkey
   simp only [hrme] at hkey
   have hrmb : -2000000 ≤ rm ∧ rm ≤ 2000000 := by rw [← hrme, hrm]; omega
   have hr1 := fun W (hb : Below w4.heap.size w4 W) => pl_Room l _ W (hV.below hb) (hT.below (btr hB hb))
   have hz1 := fun W (hb : Below w4.heap.size w4 W) => pl_Size W qo qc rs (hqt.below (btr hB hb)) (by omega) (hT.below (btr hB hb)) (by omega)
   have ha1 := fun W (hb : Below w4.heap.size w4 W) => pl_Append l _ rs qo qc W (hV.below hb) hqs ((hqt.below (btr hB hb)).mono fun b h => Nat.lt_of_lt_of_le h (btr hB hb).size) (by omega) hsz2 (hT.below (btr hB hb)) (by omega)
   rw [hrme] at hr1
   rw [hM] at ha1
   have HK := Lib.hid hkey
   have H1 := Lib.hid hr1
   have H2 := Lib.hid hz1
   have H3 := Lib.hid ha1
   clear hr1 hz1 ha1 hkey hM hrme hrm hg hs HS bd1 bd2 bd3 bd4 bd5 hU hbd hbr hl1
   go_wp2_with fail
   refine (H1.out _ (Below.refl _ _)).mono ?_
   rintro e w5 ⟨rfl, hb5⟩
   have x5 := xl.belowAll hb5
   clear c0 l0
   have c0 := x5.cell
   have l0 := x5.lt
   go_wp2_with fail
   refine (H2.out _ hb5).mono ?_
   rintro e w6 ⟨rfl, hb6⟩
   have hB6 := btr hb5 hb6
   have x6 := x5.belowAll hb6
   clear c0 l0 x5 hb5 hb6 xl
   have c0 := x6.cell
   have l0 := x6.lt
   go_wp2_with fail
   refine (H3.out _ hB6).mono ?_
   rintro e w7 ⟨v7, rfl, hv7, hb7⟩
   have hv := hv7
   obtain ⟨mpo, mpc, mco, mcc, mro, mrc, rfl, -, -, -⟩ := hv7
   have hB7 := btr hB (btr hB6 hb7)
   have hBo := Below.one w7 (.cells (lgC M.disk mpo mco mpc mcc M.frm M.til M.ver mro M.recs.length mrc) 32)
   have xm := Bx.new w7 (lgC M.disk mpo mco mpc mcc M.frm M.til M.ver mro M.recs.length mrc) 32
   have hVm := hv.below hBo
   have hBm := btr hB7 hBo
   clear hv hBo hB7 hB6 hb7 x6 c0 l0 H1 H2 H3 hV hB
   go_upto_region 6 with fail
   obtain ⟨bm, hbm⟩ : ∃ b, w7.heap.size = b := ⟨_, rfl⟩
   obtain ⟨W8, hW8⟩ : ∃ W8, w7.alloc (.cells (lgC M.disk mpo mco mpc mcc M.frm M.til M.ver mro M.recs.length mrc) 32) = W8 := ⟨_, rfl⟩
   simp only [hW8, hbm] at *
   clear hW8 hbm
   have cm := xm.cell
   have lm := xm.lt
   rcases HK.out with ⟨q1, q2⟩ | ⟨q1, q2, q3, q4, q5, q6, q7⟩
   ·
    subst q1
    clear HK
    have hB := hBm
    go_wp2_with fail
    refine (law41_awake _ (hT.below hB)).mono ?_
    rintro e w9 ⟨rfl, hb9⟩
    go_wp2
    go_ret
    exact ⟨rfl, btr hB hb9⟩
   ·
    subst q1
    clear HK
    obtain ⟨nn, rfl⟩ : ∃ nn : Nat, n = nn := ⟨n.toNat, by omega⟩
    obtain ⟨k, hk⟩ : ∃ k : Nat, (nn : Int) % ((M.recs.length : Int) + 1) = k := ⟨((nn : Int) % ((M.recs.length : Int) + 1)).toNat, by have := Int.emod_nonneg (nn : Int) (b := (M.recs.length : Int) + 1) (by omega); omega⟩
    have hkl : k ≤ M.recs.length := by have := Int.emod_lt_of_pos (nn : Int) (b := (M.recs.length : Int) + 1) (by omega); omega
    have q7' := q7 k hkl
    obtain ⟨X, e2, hX⟩ : ∃ X e2, cutL M k = (X, e2) := ⟨_, _, rfl⟩
    rw [hX] at q7'
    obtain ⟨z1, z2⟩ := q7'
    simp only at z1 z2
    have hdz := sizeL_cut M.recs k
    have hc1 := fun W (hb : Below W8.heap.size W8 W) => pl_Cut M _ k W (hVm.below hb) (hT.below (btr hBm hb)) (by omega)
    rw [hX] at hc1
    have p1 : IntKind.i64.wrap ((M.recs.length : Int) + 1) = (M.recs.length : Int) + 1 := IntWalk.i64_in _ (by omega)
    have p2 : ((M.recs.length : Int) + 1 == 0) = false := by rw [beq_eq_false_iff_ne]; omega
    have hmod : ((nn : Int).tmod ((M.recs.length : Int) + 1)) = k := by rw [Int.tmod_eq_emod_of_nonneg (by omega)]; exact hk
    have hn2 : nn < 256 := by omega
    have H4 := Lib.hid hc1
    have Z2 := Lib.hid z2
    have Q3 := Lib.hid q3
    clear hc1 hX q7 z2 q3 q6
    subst z1
    go_upto_region 9 with fail
    go_wp2_with fail
    refine (H4.out _ (Below.refl _ _)).mono ?_
    rintro e w9 ⟨v9, rfl, hv9, hb9⟩
    have hv := hv9
    obtain ⟨xpo, xpc, xco, xcc, xro, xrc, rfl, -, -, -⟩ := hv9
    have hBo := Below.one w9 (.cells (lgC X.disk xpo xco xpc xcc X.frm X.til X.ver xro X.recs.length xrc) 32)
    have xx := Bx.new w9 (lgC X.disk xpo xco xpc xcc X.frm X.til X.ver xro X.recs.length xrc) 32
    have ym := (xm.belowAll hb9).belowAll hBo
    have hVx := hv.below hBo
    have hVm9 := (hVm.below hb9).below hBo
    have hB9 := btr (btr hBm hb9) hBo
    clear hv hBo hb9 xm hVm hBm cm lm H4
    go_upto_region 10 with fail
    obtain ⟨bx, hbx⟩ : ∃ b, w9.heap.size = b := ⟨_, rfl⟩
    obtain ⟨W10, hW10⟩ : ∃ W, w9.alloc (.cells (lgC X.disk xpo xco xpc xcc X.frm X.til X.ver xro X.recs.length xrc) 32) = W := ⟨_, rfl⟩
    simp only [hW10, hbx] at *
    clear hW10 hbx
    have cm := ym.cell
    have lm := ym.lt
    have cx := xx.cell
    have lx := xx.lt
    obtain ⟨sM, tM⟩ : SlW mro M.recs.length mrc ∧ StrsAt (· < W10.heap.size) W10 mro M.recs := by
     obtain ⟨_, _, _, _, _, _, e, -, s1, t1⟩ := id hVm9
     simp only [Value.agg.injEq, Array.mk.injEq, List.cons.injEq, Value.slice.injEq, and_true, true_and] at e
     obtain ⟨-, -, rfl, rfl⟩ := e
     exact ⟨s1, t1⟩
    obtain ⟨sz, hsze⟩ : ∃ sz : Nat, sizeL rs = sz := ⟨_, rfl⟩
    obtain ⟨sd, hsd⟩ : ∃ sd : Nat, sizeL (M.recs.drop k) = sd := ⟨_, rfl⟩
    obtain ⟨md, hmd⟩ : ∃ md : Nat, M.recs.length - k = md := ⟨_, rfl⟩
    have hmdl : (M.recs.drop k).length = md := by rw [List.length_drop]; exact hmd
    have HBw : Hid (∀ x : Lat W10, Below w.heap.size w x.w) := Lib.hid (fun x => btr hB9 x.h)
    have R1 : Hid (∀ x : Lat W10, Calls Tryd.prog 17 #[.agg (lgC M.disk mpo mco mpc mcc M.frm M.til M.ver mro M.recs.length mrc)] x.w fun e w' => e = .returned (.int .i64 (rm - (sz : Int))) ∧ Below x.w.heap.size x.w w') := Lib.hid fun x => by
     have := pl_Room M _ x.w (hVm9.below x.h) (hT.below (HBw.out x))
     rw [Q3.out, hsze] at this
     exact this
    have R2 : Hid (∀ x : Lat W10, Calls Tryd.prog 17 #[.agg (lgC X.disk xpo xco xpc xcc X.frm X.til X.ver xro X.recs.length xrc)] x.w fun e w' => e = .returned (.int .i64 (rm - (sz : Int) + (sd : Int))) ∧ Below x.w.heap.size x.w w') := Lib.hid fun x => by
     have := pl_Room X _ x.w (hVx.below x.h) (hT.below (HBw.out x))
     rw [Z2.out, hsze, hsd] at this
     exact this
    rw [hsze] at q2 hsz2
    rw [hsd] at hdz
    have p3 : IntKind.i64.wrap (rm - (sz : Int)) = rm - (sz : Int) := IntWalk.i64_in _ (by omega)
    have p4 : IntKind.i64.wrap (rm - (sz : Int) + (sd : Int)) = rm - (sz : Int) + (sd : Int) := IntWalk.i64_in _ (by omega)
    have Ha : Hid (∀ x : Lat W10, Calls Tryd.prog 9 #[] x.w fun e w' => e = .returned (.bool true) ∧ Below x.w.heap.size x.w w') := Lib.hid fun x => law41_awake x.w (hT.below (HBw.out x))
    have cQ := Lat.cells W10
    have hB := hB9
    have hkc : k ≤ mrc := by
     rcases sM with ⟨_, h, _⟩ | ⟨_, _, h, _⟩ <;> omega
    have hsdb : sd ≤ 1000000000000 := by omega
    clear hVx hVm9 ym xx Q3 Z2 hB9 p1 p2 hmod
    have hle : ((sz : Int) ≤ rm) := q2
    have hqb : (rm == rm) = true := by simp
    by_cases hmd0 : md = 0
    ·
     have hsd0 : Hid (sd = 0) := by
      refine Lib.hid ?_
      rw [← hsd, List.drop_of_length_le (by omega)]; rfl
     have HZ : Hid (∀ x : Lat W10, ∀ o c, Calls Tryd.prog 18 #[.slice o 0 c] x.w fun e w' => e = .returned (.int .i64 (sd : Int)) ∧ Below x.w.heap.size x.w w') := Lib.hid fun x o c => by
      have := pl_Size (S := fun _ => True) x.w o c [] (by intro i hi; exact absurd hi (by simp)) (by rw [show sizeL ([] : List ByteArray) = 0 from rfl]; omega) (hT.below (HBw.out x)) (Nat.zero_le _)
      rw [show sizeL ([] : List ByteArray) = 0 from rfl] at this
      rw [hsd0.out]
      exact this
     refine wp_region_lat (by kernel_rfl) (by kernel_rfl) ?_
     repeat (any_goals (first | go_big_quiet_skip | (go_big_quiet_want; go_big_quiet_op; first | go_big_quiet_on | go_big_quiet_call ((first | (go_at_call 17; first | (with_reducible exact Calls.lat (R1.out _)) | (with_reducible exact Calls.lat (R2.out _))) | (go_at_call 18; exact Calls.lat (HZ.out _ _ _)) | (go_at_call 9; exact Calls.lat (Ha.out _))))) | quiet_step ((first | (go_at_call 17; first | (with_reducible exact Calls.lat (R1.out _)) | (with_reducible exact Calls.lat (R2.out _))) | (go_at_call 18; exact Calls.lat (HZ.out _ _ _)) | (go_at_call 9; exact Calls.lat (Ha.out _))))))
     refine wpQuiet_nil ?_
     rintro W9 ⟨⟨_, hb9⟩, rfl⟩
     go_wp2
     all_goals (go_ret; exact ⟨rfl, btr hB hb9⟩)
    ·
     obtain ⟨mb, moff, hme, -, -⟩ := tM 0 (by omega)
     subst hme
     have HZ : Hid (∀ x : Lat W10, ∀ c, Calls Tryd.prog 18 #[.slice (some ⟨mb, moff + k, none⟩) md c] x.w fun e w' => e = .returned (.int .i64 (sd : Int)) ∧ Below x.w.heap.size x.w w') := Lib.hid fun x c => by
      have := pl_Size x.w (some ⟨mb, moff + k, none⟩) c (M.recs.drop k) ((SlR.drop tM k).below x.h) (by omega) (hT.below (HBw.out x)) (by omega)
      rw [hmdl, hsd] at this
      exact this
     have hlm : M.recs.length ≤ mrc := by
      rcases sM with ⟨h, _, _⟩ | ⟨_, _, h, _⟩
      ·
       cases h
      ·
       exact h
     have hck : ¬ mrc = k := by omega
     have hck2 : ¬ (mrc : Int) = (k : Int) := by omega
     clear tM sM
     refine wp_region_lat (by kernel_rfl) (by kernel_rfl) ?_
     repeat (any_goals (first | go_big_quiet_skip | (go_big_quiet_want; go_big_quiet_op; first | go_big_quiet_on | go_big_quiet_call ((first | (go_at_call 17; first | (with_reducible exact Calls.lat (R1.out _)) | (with_reducible exact Calls.lat (R2.out _))) | (go_at_call 18; exact Calls.lat (HZ.out _ _)) | (go_at_call 9; exact Calls.lat (Ha.out _))))) | quiet_step ((first | (go_at_call 17; first | (with_reducible exact Calls.lat (R1.out _)) | (with_reducible exact Calls.lat (R2.out _))) | (go_at_call 18; exact Calls.lat (HZ.out _ _)) | (go_at_call 9; exact Calls.lat (Ha.out _))))))
     refine wpQuiet_nil ?_
     rintro W9 ⟨⟨_, hb9⟩, rfl⟩
     go_wp2
     all_goals (go_ret; exact ⟨rfl, btr hB hb9⟩)
  ·
   go_wp2_with fail
   refine (law41_awake _ (hT.below hB)).mono ?_
   rintro e w3 ⟨rfl, hb3⟩
   go_wp2
   go_ret
   exact ⟨rfl, btr hB hb3⟩
end Go.Proofs.YtghikgjknhjjgaaDoor
namespace Go.Proofs.YtghikgjknhjjgaaDoor
set_option maxRecDepth 100000
open Go.RowKit
theorem read_of_page {d e : Dsk} (hd : chk d = 0) (he : chk e = 0) {k : Nat} (h1 : k < d.pages.length) (h2 : k < e.pages.length) (h : pageL e k = pageL d k) : ∃ s, readD d k = (s, 0) ∧ readD e k = (s, 0) := by
 refine ⟨_, readD_ok hd h1, ?_⟩
 rw [readD_ok he h2]
 rw [pageL_nat hd h1, pageL_nat he h2] at h
 rw [← bs_of (contentD e k h2), ← bs_of (contentD d k h1), h]
theorem else_key {d f : Dsk} {frm til : Int} (hf : fmtL d frm til = (f, 0)) {a : ActA} (ha : actFine a = true) (hk : a.kind ≤ 1) :
  openL f frm til = (⟨f, frm, til, 1, []⟩, 0) ∧ f.cache.length ≤ 1000 ∧ ∀ k : Nat, k < d.pages.length → ((k : Int) < frm ∨ til ≤ k) → ∃ s, readD d k = (s, 0) ∧ readD (doL ⟨f, frm, til, 1, []⟩ a).1.disk k = (s, 0) := by
 obtain ⟨g1, g2, g3, g4, g5⟩ := fmt_S (d := d) (frm := frm) (til := til) (by rw [hf])
 rw [hf] at g1 g2 g4 g5
 simp only at g1 g2 g4 g5
 have hd := (fitE_zero g3).1
 have ho := g1.opens
 refine ⟨ho, by rw [g1.empty]; simp, ?_⟩
 have hG : LogG ⟨f, frm, til, 1, []⟩ frm til 1 := ⟨rfl, rfl, g1, rfl⟩
 intro k hk1 hk2
 have base : ∀ X : Dsk, Shape f X → pageL X k = pageL f k → ∃ s, readD d k = (s, 0) ∧ readD X k = (s, 0) := by
  intro X hX hp
  refine read_of_page hd hX.1 hk1 (by rw [hX.2.2, g2.2.2]; exact hk1) ?_
  rw [hp, g5 k hk1 hk2]
 have hid := base f ⟨g2.1, rfl, rfl⟩ rfl
 by_cases h01 : a.kind = 0 ∨ a.kind = 1
 ·
  rcases hG.act (by omega) ha h01 with ⟨_, e⟩ | ⟨_, _, e⟩ | ⟨_, e⟩
  ·
   rw [e]; exact hid
  ·
   rw [e]; exact hid
  ·
   exact base _ e.shape (e.pages k (by simp only; rw [g2.2.2]; exact hk1) hk2)
 ·
  have hA : actL ⟨f, frm, til, 1, []⟩ a = (⟨f, frm, til, 1, []⟩, 0) := by
   unfold actL
   rw [if_neg (by omega), if_neg (by omega), if_neg (by omega), if_neg (by omega)]
  rw [do_of hA (.inl rfl)]
  exact hid
set_option maxHeartbeats 4000000 in
theorem law41_else (w : World) (d : Dsk) (v : Value) (hD : DskV w v d) (frm til : Int) (a : ActA) (ro po : Option Addr) (rc pc : Nat) (hok : ActOk w a ro po rc pc) (hT : TabW w) :
  Calls Tryd.prog 7 #[v, .agg #[.int .i64 frm, .int .i64 til], .agg (actC a ro po rc pc)] w fun e w' => e = .returned (.bool true) ∧ Below w.heap.size w w' := by
 have hD0 := hD
 obtain ⟨do_, dc, eo, ec, rfl⟩ := hD.agg
 clear hD
 obtain ⟨N, hN⟩ : ∃ N, w.heap.size = N := ⟨_, rfl⟩
 obtain ⟨W3, hW3⟩ : ∃ W3, ((w.alloc (.cells (dC d do_ eo dc ec) 30)).alloc (.cells #[.int .i64 frm, .int .i64 til] 55)).alloc (.cells (actC a ro po rc pc) 38) = W3 := ⟨_, rfl⟩
 have x0 : Bx W3 N (dC d do_ eo dc ec) 30 := by subst hW3 hN; exact ((Bx.new w _ _).alloc _).alloc _
 have x1 : Bx W3 (N + 1) #[.int .i64 frm, .int .i64 til] 55 := by subst hW3 hN; exact (Bx.newAt _ _ _ _ (by simp)).alloc _
 have x2 : Bx W3 (N + 1 + 1) (actC a ro po rc pc) 38 := by subst hW3 hN; exact Bx.newAt _ _ _ _ (by simp)
 have hB : Below w.heap.size w W3 := by subst hW3; exact ((Below.one w _).alloc (by simp) _).alloc (by simp; omega) _
 have c0 := x0.cell
 have l0 := x0.lt
 have c1 := x1.cell
 have l1 := x1.lt
 have c2 := x2.cell
 have l2 := x2.lt
 go_enter Tryd.func7, Tryd.ntmps7
 go_upto_region 1 with fail
 have cQ := Lat.cells W3
 refine wp_region_lat (by kernel_rfl) (by kernel_rfl) ?_
 repeat (any_goals (first | go_big_quiet_skip | (go_big_quiet_want; go_big_quiet_op; first | go_big_quiet_on | go_big_quiet_call ((fail))) | quiet_step ((fail))))
 refine wpQuiet_nil ?_
 rintro W3b ⟨⟨_, hb3b⟩, rfl⟩
 have y0 := x0.belowAll hb3b
 have y2 := x2.belowAll hb3b
 have hB' := btr hB hb3b
 clear c0 l0 c1 l1 c2 l2 x1 x0 x2 cQ hB hb3b hW3
 generalize W3b = W3 at *
 have x0 := y0
 have x2 := y2
 have hB := hB'
 clear y0 y2 hB'
 have c0 := x0.cell
 have l0 := x0.lt
 have c2 := x2.cell
 have l2 := x2.lt
 have hbase : N + 1 + 1 < W3.heap.size := x2.lt
 have hgr := fun b (g : greatW d.pages d.cache = b) W (hb : Below w.heap.size w W) => v_great d _ W (hD0.below hb) g
 cases g : greatW d.pages d.cache
 rotate_left
 ·
  go_wp2_with fail
  refine (hgr _ g _ hB).mono ?_
  rintro e w4 ⟨rfl, hb4⟩
  have hB := btr hB hb4
  clear hgr g x0 x2 c0 l0 c2 l2
  go_wp2_with fail
  refine (law41_awake _ (hT.below hB)).mono ?_
  rintro e w3 ⟨rfl, hb3⟩
  go_wp2
  go_ret
  exact ⟨rfl, btr hB hb3⟩
 have hgf := great_false g
 have hgr1 := hgr _ g
 clear hgr g
 go_wp2_with fail
 refine (hgr1 _ hB).mono ?_
 rintro e w4 ⟨rfl, hb4⟩
 have y0 := x0.belowAll hb4
 have y2 := x2.belowAll hb4
 have hB4 := btr hB hb4
 have hs4 := hb4.size
 clear x0 x2 c0 l0 c2 l2 hB hb4 hgr1
 have c0 := y0.cell
 have l0 := y0.lt
 have c2 := y2.cell
 have l2 := y2.lt
 obtain ⟨ck, hck⟩ : ∃ ck, chk d = ck := ⟨_, rfl⟩
 have hch := fun W (hb : Below w.heap.size w W) => v_rcheck d _ W (hD0.below hb) hck
 have Hck := Lib.hid hck
 clear hck
 go_wp2_with fail
 refine (hch _ hB4).mono ?_
 rintro e w5 ⟨rfl, hb5⟩
 have x0 := y0.belowAll hb5
 have x2 := y2.belowAll hb5
 have hB := btr hB4 hb5
 have hs5 := hb5.size
 clear y0 y2 c0 l0 c2 l2 hB4 hb5 hch
 have c0 := x0.cell
 have l0 := x0.lt
 have c2 := x2.cell
 have l2 := x2.lt
 cases g2 : (ck != 0)
 rotate_left
 ·
  go_wp2_with fail
  refine (law41_awake _ (hT.below hB)).mono ?_
  rintro e w3 ⟨rfl, hb3⟩
  go_wp2
  go_ret
  exact ⟨rfl, btr hB hb3⟩
 cases g3 : decide ((1 : Int) < a.kind)
 rotate_left
 ·
  go_wp2_with fail
  refine (law41_awake _ (hT.below hB)).mono ?_
  rintro e w3 ⟨rfl, hb3⟩
  go_wp2
  go_ret
  exact ⟨rfl, btr hB hb3⟩
 have hk1 := of_decide_eq_false g3
 go_wp2_with fail
 have xs := Bx.new w5 (actC a ro po rc pc) 38
 have hBo := Below.one w5 (.cells (actC a ro po rc pc) 38)
 have hB3 := btr hB hBo
 have hfi := rn_Fine 0 0 0 0 [a] (some ⟨w5.heap.size, 0, none⟩) 1 _ (acts_one xs (hok.below hB3)) (.inr ⟨_, rfl, by simp, by unfold maxLen; decide⟩)
 have z0 := x0.belowAll hBo
 have z2 := x2.belowAll hBo
 simp only [List.length_cons, List.length_nil, Nat.zero_add] at hfi
 clear xs hBo c0 l0 c2 l2 hB x0 x2
 cases g : fineB 0 0 [a]
 ·
  rw [g] at hfi
  refine hfi.mono ?_
  rintro e w6 ⟨rfl, hb6⟩
  have hB := btr hB3 hb6
  clear hfi g hB3 z0 z2
  go_wp2_with fail
  refine (law41_awake _ (hT.below hB)).mono ?_
  rintro e w3 ⟨rfl, hb3⟩
  go_wp2
  go_ret
  exact ⟨rfl, btr hB hb3⟩
 rw [g] at hfi
 have haf : actFine a = true := by
  unfold fineB at g
  simpa using g
 obtain ⟨f1, f2, f3⟩ := act_fine haf
 refine hfi.mono ?_
 rintro e w6 ⟨rfl, hb6⟩
 have hB6 := btr hB3 hb6
 have x0 := z0.belowAll hb6
 have x2 := z2.belowAll hb6
 clear hfi g hB3 z0 z2 hb6 g2 g3
 have c0 := x0.cell
 have l0 := x0.lt
 have hfo := fun W (hb : Below w.heap.size w W) => pl_Format d _ frm til W (hD0.below hb) (by omega)
 obtain ⟨f, fe, hf⟩ : ∃ f fe, fmtL d frm til = (f, fe) := ⟨_, _, rfl⟩
 rw [hf] at hfo
 have Hf := Lib.hid hf
 clear hf
 go_wp2_with fail
 refine (hfo _ hB6).mono ?_
 rintro e w7 ⟨v7, rfl, hv7, hb7⟩
 have hv := hv7
 obtain ⟨fp, fpc, fc, fcc, rfl⟩ := hv7.agg
 have hBo := Below.one w7 (.cells (dC f fp fc fpc fcc) 30)
 have xf := Bx.new w7 (dC f fp fc fpc fcc) 30
 have y0 := (x0.belowAll hb7).belowAll hBo
 have y2 := (x2.belowAll hb7).belowAll hBo
 have hVf := hv.below hBo
 have hB := btr (btr hB6 hb7) hBo
 have hs7 := hb7.size
 have l2 := x2.lt
 clear hfo hv hBo hb7 x0 x2 hB6 c0 l0 hv7
 go_upto_region 5 with fail
 obtain ⟨bf, hbf⟩ : ∃ b, w7.heap.size = b := ⟨_, rfl⟩
 have hbf2 : N + 2 < bf := by omega
 obtain ⟨W8, hW8⟩ : ∃ W8, w7.alloc (.cells (dC f fp fc fpc fcc) 30) = W8 := ⟨_, rfl⟩
 simp only [hW8, hbf] at *
 clear hW8 hs7 l2 hs4 hs5 hbase
 cases g1 : (fe != 0)
 rotate_left
 ·
  go_wp2_with fail
  refine (law41_awake _ (hT.below hB)).mono ?_
  rintro e w3 ⟨rfl, hb3⟩
  go_wp2
  go_ret
  exact ⟨rfl, btr hB hb3⟩
 have hfe : fe = 0 := by simpa using g1
 subst hfe
 obtain ⟨k1, k2, k3⟩ := else_key Hf.out haf (by omega)
 obtain ⟨l, hl⟩ : ∃ l : Lg, l = ⟨f, frm, til, 1, []⟩ := ⟨_, rfl⟩
 rw [← hl] at k1 k3
 have hlc : l.disk.cache.length ≤ 1000 ∧ l.recs.length = 0 := by rw [hl]; exact ⟨k2, rfl⟩
 obtain ⟨F, ef, hF⟩ : ∃ F ef, doL l a = (F, ef) := ⟨_, _, rfl⟩
 rw [hF] at k3
 have hop := fun W (hb : Below W8.heap.size W8 W) => pl_Open f _ frm til W (hVf.below hb)
 rw [k1] at hop
 have hdo := fun v W (hb : Below w.heap.size w W) (hv : LgV W v l) => rn_Do l v a ro po rc pc W hv (hok.below hb) (by omega) (by omega) (by omega) (hT.below hb) (by omega) (by omega)
 rw [hF] at hdo
 have Hop := Lib.hid hop
 have Hdo := Lib.hid hdo
 have K3 := Lib.hid k3
 clear k1 k2 k3 hl hlc hF hop hdo Hf f1 f2 f3 haf hk1
 have c0 := xf.cell
 have l0 := xf.lt
 go_wp2_with fail
 refine (Hop.out _ (Below.refl _ _)).mono ?_
 rintro e w9 ⟨v9, rfl, hv9, hb9⟩
 have hv := hv9
 obtain ⟨p1, m1, q1, n1, r1, t1, rfl, -, -, -⟩ := hv9
 have hBo := Below.one w9 (.cells (lgC l.disk p1 q1 m1 n1 l.frm l.til l.ver r1 l.recs.length t1) 32)
 have xl := Bx.new w9 (lgC l.disk p1 q1 m1 n1 l.frm l.til l.ver r1 l.recs.length t1) 32
 have z0 := (y0.belowAll hb9).belowAll hBo
 have z2 := (y2.belowAll hb9).belowAll hBo
 have hVl := hv.below hBo
 have hB9 := btr (btr hB hb9) hBo
 clear hv hBo hb9 y0 y2 hB c0 l0 xf hVf
 go_upto_region 8 with fail
 obtain ⟨bl, hbl⟩ : ∃ b, w9.heap.size = b := ⟨_, rfl⟩
 obtain ⟨W10, hW10⟩ : ∃ W, w9.alloc (.cells (lgC l.disk p1 q1 m1 n1 l.frm l.til l.ver r1 l.recs.length t1) 32) = W := ⟨_, rfl⟩
 simp only [hW10, hbl] at *
 clear hW10 hbl
 have c0 := xl.cell
 have l0 := xl.lt
 have c2 := z2.cell
 have l2 := z2.lt
 go_wp2_with fail
 refine (Hdo.out _ _ hB9 hVl).mono ?_
 rintro e w11 ⟨v11, rfl, hv11, hb11⟩
 have hv := hv11
 obtain ⟨p2, m2, q2, n2, r2, t2, rfl, hDF, -, -⟩ := hv11
 have hBo := Below.one w11 (.cells (lgC F.disk p2 q2 m2 n2 F.frm F.til F.ver r2 F.recs.length t2) 32)
 have xF := Bx.new w11 (lgC F.disk p2 q2 m2 n2 F.frm F.til F.ver r2 F.recs.length t2) 32
 have y0 := (z0.belowAll hb11).belowAll hBo
 have hDF' := hDF.below hBo
 have hB := btr (btr hB9 hb11) hBo
 clear hv hBo hb11 z0 z2 hB9 c0 l0 c2 l2 xl hVl hDF Hdo Hop
 go_upto_region 9 with fail
 obtain ⟨bF, hbF⟩ : ∃ b, w11.heap.size = b := ⟨_, rfl⟩
 obtain ⟨W12, hW12⟩ : ∃ W, w11.alloc (.cells (lgC F.disk p2 q2 m2 n2 F.frm F.til F.ver r2 F.recs.length t2) 32) = W := ⟨_, rfl⟩
 simp only [hW12, hbF] at *
 clear hW12 hbF
 have c0 := y0.cell
 have l0 := y0.lt
 go_wp2
 clear c0 l0
 go_loopw [72] (fun i wr => ∃ (k : Nat), k ≤ d.pages.length ∧ i = .int .i64 k ∧ Below w.heap.size w wr ∧ Bx wr N (dC d do_ eo dc ec) 30 ∧ Bx wr bF (lgC F.disk p2 q2 m2 n2 F.frm F.til F.ver r2 F.recs.length t2) 32 ∧ DskV wr (.agg (dC F.disk p2 q2 m2 n2)) F.disk) (fun i _ => d.pages.length - (intOf i).toNat)
 case atStart => exact ⟨0, Nat.zero_le _, rfl, hB, y0, xF, hDF'⟩
 case round =>
  clear hB y0 xF hDF'
  obtain ⟨k, hk, rfl, hB, y0, xF, hDF⟩ := hrel
  have hpl : d.pages.length ≤ 12 := hgf.1
  by_cases hlt : k < d.pages.length
  ·
   cases g5 : decide (frm ≤ (k : Int))
   ·
    have hout : (k : Int) < frm ∨ til ≤ k := .inl (by have := of_decide_eq_false g5; omega)
    obtain ⟨s, r1, r2⟩ := K3.out k hlt hout
    have hr1 := fun W (hb : Below w.heap.size w W) => v_read d _ k W (hD0.below hb) r1
    have hr2 := fun W (hb : Below wr.heap.size wr W) => v_read F.disk _ k W (hDF.below hb) r2
    have HR1 := Lib.hid hr1
    have HR2 := Lib.hid hr2
    clear hr1 hr2 r1 r2 hout
    have c0 := y0.cell
    have l0 := y0.lt
    go_wp2_with fail
    refine (HR1.out _ hB).mono ?_
    rintro e wA ⟨rfl, hbA⟩
    have xA := xF.belowAll hbA
    clear c0 l0
    have c0 := xA.cell
    have l0 := xA.lt
    go_wp2_with fail
    refine (HR2.out _ hbA).mono ?_
    rintro e wB ⟨rfl, hbB⟩
    have hbAB := btr hbA hbB
    have y0' := y0.belowAll hbAB
    have xF' := xF.belowAll hbAB
    have hDF2 := hDF.below hbAB
    have hB2 := btr hB hbAB
    clear c0 l0 xA HR1 HR2 hbA hbB hbAB y0 xF hDF hB
    go_wp2
    go_roundw
    case rel => exact ⟨k + 1, by omega, by go_num, hB2, y0', xF', hDF2⟩
    case measure => simp [intOf]; omega
   ·
    cases g6 : decide ((k : Int) < til)
    ·
     have hout : (k : Int) < frm ∨ til ≤ k := .inr (by have := of_decide_eq_false g6; omega)
     obtain ⟨s, r1, r2⟩ := K3.out k hlt hout
     have hr1 := fun W (hb : Below w.heap.size w W) => v_read d _ k W (hD0.below hb) r1
     have hr2 := fun W (hb : Below wr.heap.size wr W) => v_read F.disk _ k W (hDF.below hb) r2
     have HR1 := Lib.hid hr1
     have HR2 := Lib.hid hr2
     clear hr1 hr2 r1 r2 hout
     have c0 := y0.cell
     have l0 := y0.lt
     go_wp2_with fail
     refine (HR1.out _ hB).mono ?_
     rintro e wA ⟨rfl, hbA⟩
     have xA := xF.belowAll hbA
     clear c0 l0
     have c0 := xA.cell
     have l0 := xA.lt
     go_wp2_with fail
     refine (HR2.out _ hbA).mono ?_
     rintro e wB ⟨rfl, hbB⟩
     have hbAB := btr hbA hbB
     have y0' := y0.belowAll hbAB
     have xF' := xF.belowAll hbAB
     have hDF2 := hDF.below hbAB
     have hB2 := btr hB hbAB
     clear c0 l0 xA HR1 HR2 hbA hbB hbAB y0 xF hDF hB
     go_wp2
     go_roundw
     case rel => exact ⟨k + 1, by omega, by go_num, hB2, y0', xF', hDF2⟩
     case measure => simp [intOf]; omega
    ·
     go_wp2
     go_roundw
     case rel => exact ⟨k + 1, by omega, by go_num, hB, y0, xF, hDF⟩
     case measure => simp [intOf]; omega
  ·
   clear y0 xF hDF K3
   go_wp2_with fail
   refine (law41_awake _ (hT.below hB)).mono ?_
   rintro e w3 ⟨rfl, hb3⟩
   go_wp2
   go_ret
   exact ⟨rfl, btr hB hb3⟩
end Go.Proofs.YtghikgjknhjjgaaDoor
