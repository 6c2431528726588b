/- law BtreeCompares: the walk. -/
import Derived.Test.YtlefmmhlpgmbjaaGreatQ29
import Derived.Test.YtlefmmhlpgmbjaaGreatQ34
import Derived.Test.YtlefmmhlpgmbjaaGreatQ01
namespace Go.Proofs.YtlefmmhlpgmbjaaGreat
set_option maxRecDepth 100000
open Go.RowKit
theorem commit_one {d : Dsk} {frm til : Int} {V : Nat} {t : Option Nd} (h : IxS d frm til V t) (hV : V + 1 <= 200) (hl : d.left = -1) {c : Chg} (hc : chgsE none [c] = 0) :
  ∃ Z e, commitP (ixOf d frm til V t) [c] = (Z, e) /\ (e = 15 ↔ clashO t c = true) /\ (e ≠ 0 -> Z = zeroX) := by
 rcases commit_law h hV [c] with ⟨h1, _⟩ | ⟨_, h1, h2⟩ | ⟨_, _, h1, _⟩ | ⟨_, h1, _, _, h2⟩ | ⟨_, h1, _, t', p, _, _, _, h2⟩
 .
  exact absurd hc h1
 .
  refine ⟨_, _, h2, ⟨fun _ => by simpa using h1, fun _ => rfl⟩, fun _ => rfl⟩
 .
  cases h1
 .
  refine ⟨_, _, h2, ⟨fun e => absurd e (by decide), fun e => by simp [e] at h1⟩, fun _ => rfl⟩
 .
  have hf := (h2.full hl).1
  obtain ⟨R, hR⟩ : ∃ R, commitP (ixOf d frm til V t) [c] = R := ⟨_, rfl⟩
  rw [hR] at hf |-
  refine ⟨R.1, R.2, rfl, ?_, fun e => absurd hf e⟩
  rw [hf]
  exact ⟨fun e => absurd e (by decide), fun e => by simp [e] at h1⟩
theorem reach_cmp {p frm til : Int} {acts : List ActB} {y : Ix} {l : List Kv} (h : reachX p frm til acts = (y, l, true)) {key old new : ByteArray} (hk : key.size <= 48) (ho : old.size <= 80) (hn : new.size <= 80) :
  ∃ Z e U f, commitP y [⟨key, true, old, true, new⟩] = (Z, e) /\ commitP y [⟨key, false, ByteArray.empty, true, new⟩] = (U, f) /\ (e = 15 ↔ ((valK l key).2 = false \/ (valK l key).1 ≠ old)) /\ (f = 15 ↔ (valK l key).2 = true) /\ (e ≠ 0 -> Z = zeroX) /\ (f ≠ 0 -> U = zeroX) /\ y.disk.cache.length <= 1000 := by
 obtain ⟨V, t, hV, hy, hI, hl, hleft, hlen⟩ := reach_good h
 obtain ⟨d, hd⟩ : ∃ d, y.disk = d := ⟨_, rfl⟩
 rw [hd] at hy hI hleft |-
 have he : (ByteArray.empty).size = 0 := rfl
 obtain ⟨Z, e, g1, g2, g3⟩ := commit_one hI (by omega) hleft (c := ⟨key, true, old, true, new⟩) (by
  unfold chgsE chgE chgsE
  simp only [Bool.false_eq_true, if_false, Bool.true_eq_false, false_and, or_false]
  rw [if_neg (show ¬ (48 < key.size \/ 80 < old.size \/ 80 < new.size) by omega)]
  simp)
 obtain ⟨U, f, k1, k2, k3⟩ := commit_one hI (by omega) hleft (c := ⟨key, false, ByteArray.empty, true, new⟩) (by
  unfold chgsE chgE chgsE
  simp only [Bool.false_eq_true, if_false, Bool.true_eq_false, false_and, or_false]
  rw [if_neg (show ¬ (48 < key.size \/ 80 < ByteArray.empty.size \/ 80 < new.size) by omega)]
  simp)
 rw [<- hy] at g1 k1
 refine ⟨Z, e, U, f, g1, k1, ?_, ?_, g3, k3, by rw [hI.empty]; simp⟩
 .
  rw [g2]
  unfold clashO
  rw [getO_val hI.tm, <- hl]
  simp
 .
  rw [k2]
  unfold clashO
  rw [getO_val hI.tm, <- hl]
  cases hv : (valK l key).2 with
  | true => simp
  | false => simp [(valK_none hv).1]
set_option maxRecDepth 100000 in
set_option maxHeartbeats 4000000 in
theorem law42_compares (w : World) (p frm til : Int) (acts : List ActB) (o : Option Addr) (c : Nat) (hA : ActsB w o acts) (hsl : SlW o acts.length c) (key old new : ByteArray) :
  Calls Tryz.prog 9 #[.agg (runC p frm til o acts.length c), .string key, .string old, .string new] w fun e w' => e = .returned (.bool true) /\ Below w.heap.size w w' := by
 obtain ⟨n, hn⟩ : ∃ n, acts.length = n := ⟨_, rfl⟩
 obtain ⟨W1, hW1⟩ : ∃ W1, w.alloc (.cells (runC p frm til o n c) 49) = W1 := ⟨_, rfl⟩
 have hB1 : Below w.heap.size w W1 := by subst hW1; exact Below.one w _
 have x1 : Bx W1 w.heap.size (runC p frm til o n c) 49 := by subst hW1; exact Bx.new w _ _
 have c0 := x1.cell
 have l0 := x1.lt
 have hrc := rn_Reached42 p frm til acts o c W1 (hA.below hB1) hsl
 obtain ⟨y, l, ok, hR⟩ : ∃ y l ok, reachX p frm til acts = (y, l, ok) := ⟨_, _, _, rfl⟩
 obtain ⟨s, is, hu⟩ : ∃ u is, valK l key = (u, is) := ⟨_, _, rfl⟩
 have hso : ok = true -> key.size <= 48 -> old.size <= 80 -> new.size <= 80 -> ∃ Z e U f, commitP y [⟨key, true, old, true, new⟩] = (Z, e) /\ commitP y [⟨key, false, ByteArray.empty, true, new⟩] = (U, f) /\ (e = 15 ↔ (is = false \/ s ≠ old)) /\ (f = 15 ↔ is = true) /\ (e ≠ 0 -> Z = zeroX) /\ (f ≠ 0 -> U = zeroX) /\ y.disk.cache.length <= 1000 := by
  rintro rfl h1 h2 h3
  have := reach_cmp hR h1 h2 h3
  rwa [hu] at this
 rw [hR, hn] at hrc
 rw [hn]
 have HS := zhI hso
 have Hrc := zhI hrc
 have Hu := zhI hu
 clear hso hR hrc hA hsl hn hu
 go_enter Tryz.func9, Tryz.ntmps9
 go_wp2_with fail
 refine Hrc.out.mono ?_
 rintro e w2 ⟨v2, lo, lc, rfl, hv2, hkl, hls, hb2⟩
 simp only at hv2 hkl hls |-
 have hv := hv2
 obtain ⟨po, pc, co, cc, fo, fc, rfl, -, -, -⟩ := hv2
 have hB2 := btr hB1 hb2
 have hBo := Below.one w2 (.cells (ixC y.disk po co pc cc y.frm y.til y.ver y.root fo y.free.length fc) 33)
 have xl := Bx.new w2 (ixC y.disk po co pc cc y.frm y.til y.ver y.root fo y.free.length fc) 33
 have hV := hv.below hBo
 have hK := hkl.below hBo
 have hB := btr hB2 hBo
 clear Hrc hv hkl hBo c0 l0 x1
 go_upto_region 2 with fail
 obtain ⟨b, hbe⟩ : ∃ b, w2.heap.size = b := ⟨_, rfl⟩
 have hwb : w.heap.size <= b := by have := hB2.size; omega
 obtain ⟨W4, hW4⟩ : ∃ W4, w2.alloc (.cells (ixC y.disk po co pc cc y.frm y.til y.ver y.root fo y.free.length fc) 33) = W4 := ⟨_, rfl⟩
 simp only [hW4, hbe] at *
 clear hW4 hbe hB2 hb2
 have c0 := xl.cell
 have l0 := xl.lt
 unfold ixC at c0
 cases ok with
 | false =>
  go_wp2_with fail
  refine (law42_awake _).mono ?_
  rintro e w3 ⟨rfl, hb3⟩
  go_wp2
  go_ret
  exact ⟨rfl, btr hB hb3⟩
 | true =>
  cases g2 : decide ((48 : Int) < (key.size : Int))
  rotate_left
  .
   go_wp2_with fail
   refine (law42_awake _).mono ?_
   rintro e w3 ⟨rfl, hb3⟩
   go_wp2
   go_ret
   exact ⟨rfl, btr hB hb3⟩
  cases g3 : decide ((80 : Int) < (old.size : Int))
  rotate_left
  .
   go_wp2_with fail
   refine (law42_awake _).mono ?_
   rintro e w3 ⟨rfl, hb3⟩
   go_wp2
   go_ret
   exact ⟨rfl, btr hB hb3⟩
  cases g4 : decide ((80 : Int) < (new.size : Int))
  rotate_left
  .
   go_wp2_with fail
   refine (law42_awake _).mono ?_
   rintro e w3 ⟨rfl, hb3⟩
   go_wp2
   go_ret
   exact ⟨rfl, btr hB hb3⟩
  obtain ⟨Z, e, U, f, q1, q2, q3, q4, q5, q6, q7⟩ := HS.out rfl (by have := of_decide_eq_false g2; omega) (by have := of_decide_eq_false g3; omega) (by have := of_decide_eq_false g4; omega)
  have hva := rn_value l lo lc key W4 hK hls
  rw [Hu.out] at hva
  have Hva := zhI hva
  have Q1 := zhI q1
  have Q2 := zhI q2
  have Q := zhI (zaI q3 (zaI q4 (zaI q5 q6)))
  clear hva q1 q2 q3 q4 q5 q6 HS hK hls Hu
  go_wp2_with fail
  refine Hva.out.mono ?_
  rintro e w5 ⟨rfl, hb5⟩
  have hV5 := hV.below hb5
  have hB5 := btr hB hb5
  have xl5 := xl.belowAll hb5
  obtain ⟨C1, hC1⟩ : ∃ C1 : Array Value, C1 = (chgsC [⟨key, true, old, true, new⟩]).toArray := ⟨_, rfl⟩
  have hbr := Below.one w5 (.cells (chgsC [⟨key, true, old, true, new⟩]).toArray 71)
  have xr := Bx.new w5 (chgsC [⟨key, true, old, true, new⟩]).toArray 71
  have hcm := bt_Commit y _ [⟨key, true, old, true, new⟩] (some ⟨w5.heap.size, 0, none⟩) 1 _ (hV5.below hbr) (.inr ⟨_, rfl, by simp, by unfold maxLen; decide⟩) (by simp) ((RowAt.bx xr).mono fun b hb => by subst hb; exact xr.lt) (by omega)
  rw [Q1.out] at hcm
  have Hcm := zhI hcm
  have xl6 := xl5.belowAll hbr
  have hV6 := hV5.below hbr
  have hB6 := btr hB5 hbr
  clear hcm xr hbr Hva c0 l0 xl hV hB hb5 hV5 hB5 Q1
  have c0 := xl5.cell
  have l0 := xl5.lt
  unfold ixC at c0
  go_wp2_with fail
  refine Hcm.out.mono ?_
  rintro e w7 ⟨v7, rfl, hX7, hb7⟩
  have hX := hX7
  obtain ⟨zo, zc, yo, yc, xo, xc, rfl, -, -, -⟩ := hX7
  have hBo := Below.one w7 (.cells (ixC Z.disk zo yo zc yc Z.frm Z.til Z.ver Z.root xo Z.free.length xc) 33)
  have xz := Bx.new w7 (ixC Z.disk zo yo zc yc Z.frm Z.til Z.ver Z.root xo Z.free.length xc) 33
  have xl8 := (xl6.belowAll hb7).belowAll hBo
  have hV8 := (hV6.below hb7).below hBo
  have hZ8 := hX.below hBo
  have hB8 := btr (btr hB6 hb7) hBo
  clear hX hb7 hBo xl6 hV6 hB6 c0 l0 xl5 Hcm hC1
  go_upto_region 6 with fail
  obtain ⟨bz, hbz⟩ : ∃ b, w7.heap.size = b := ⟨_, rfl⟩
  obtain ⟨W8, hW8⟩ : ∃ W, w7.alloc (.cells (ixC Z.disk zo yo zc yc Z.frm Z.til Z.ver Z.root xo Z.free.length xc) 33) = W := ⟨_, rfl⟩
  simp only [hW8, hbz] at *
  clear hW8 hbz
  have hbr := Below.one W8 (.cells (chgsC [⟨key, false, ByteArray.empty, true, new⟩]).toArray 71)
  have xr := Bx.new W8 (chgsC [⟨key, false, ByteArray.empty, true, new⟩]).toArray 71
  have hcm := bt_Commit y _ [⟨key, false, ByteArray.empty, true, new⟩] (some ⟨W8.heap.size, 0, none⟩) 1 _ (hV8.below hbr) (.inr ⟨_, rfl, by simp, by unfold maxLen; decide⟩) (by simp) ((RowAt.bx xr).mono fun b hb => by subst hb; exact xr.lt) (by omega)
  rw [Q2.out] at hcm
  have Hcm := zhI hcm
  have xz9 := xz.belowAll hbr
  have hZ9 := hZ8.below hbr
  have hB9 := btr hB8 hbr
  clear hcm xr hbr hV8 hZ8 hB8 Q2 xz
  have c0 := xl8.cell
  have l0 := xl8.lt
  unfold ixC at c0
  go_wp2_with fail
  refine Hcm.out.mono ?_
  rintro e w10 ⟨v10, rfl, hX10, hb10⟩
  have hX := hX10
  obtain ⟨zo2, zc2, yo2, yc2, xo2, xc2, rfl, -, -, -⟩ := hX10
  have hBo := Below.one w10 (.cells (ixC U.disk zo2 yo2 zc2 yc2 U.frm U.til U.ver U.root xo2 U.free.length xc2) 33)
  have xu := Bx.new w10 (ixC U.disk zo2 yo2 zc2 yc2 U.frm U.til U.ver U.root xo2 U.free.length xc2) 33
  have xz := (xz9.belowAll hb10).belowAll hBo
  have hZ := (hZ9.below hb10).below hBo
  have hU := hX.below hBo
  have hB := btr (btr hB9 hb10) hBo
  clear hX hb10 hBo xz9 hZ9 hB9 c0 l0 xl8 Hcm
  go_upto_region 7 with fail
  obtain ⟨bu, hbu⟩ : ∃ b, w10.heap.size = b := ⟨_, rfl⟩
  obtain ⟨W11, hW11⟩ : ∃ W, w10.alloc (.cells (ixC U.disk zo2 yo2 zc2 yc2 U.frm U.til U.ver U.root xo2 U.free.length xc2) 33) = W := ⟨_, rfl⟩
  simp only [hW11, hbu] at *
  clear hW11 hbu
  have hzz := fun W (hb : Below W11.heap.size W11 W) (h : Z = zeroX) => rb_SameX Z _ (.agg ixZ) W (hZ.below hb).v (by rw [h]; exact IxV.zero W)
  have huu := fun W (hb : Below W11.heap.size W11 W) (h : U = zeroX) => rb_SameX U _ (.agg ixZ) W (hU.below hb).v (by rw [h]; exact IxV.zero W)
  have HZ := zhI hzz
  have HU := zhI huu
  clear hzz huu hZ hU
  cases is with
  | false =>
   have t1 : (e == 15) = true := by have := Q.out.1.2 (.inl rfl); simpa using this
   have t2 : (f == 15) = false := by
    cases g : (f == 15)
    .
     rfl
    .
     have := Q.out.2.1.1 (by simpa using g); cases this
   go_upto_region 9 with fail
   clear t1 t2
   cases ge0 : (e == 0)
   .
    have hz0 : Hid (Z = zeroX) := zhI (Q.out.2.2.1 (by simpa using ge0))
    have c0 := xz.cell
    have l0 := xz.lt
    unfold ixC at c0
    go_wp2_with fail
    refine (HZ.out _ (Below.refl _ _) hz0.out).mono ?_
    rintro e w12 ⟨rfl, hb12⟩
    have xu12 := xu.belowAll hb12
    have hB12 := btr hB hb12
    clear c0 l0
    have c0 := xu12.cell
    have l0 := xu12.lt
    unfold ixC at c0
    cases gf0 : (f == 0)
    .
     have hu0 : Hid (U = zeroX) := zhI (Q.out.2.2.2 (by simpa using gf0))
     go_wp2_with fail
     refine (HU.out _ hb12 hu0.out).mono ?_
     rintro e w13 ⟨rfl, hb13⟩
     have hB := btr hB12 hb13
     clear c0 l0
     go_wp2_with fail
     refine (law42_awake _).mono ?_
     rintro e w3 ⟨rfl, hb3⟩
     go_wp2
     go_ret
     exact ⟨rfl, btr hB hb3⟩
    .
     have hB := hB12
     clear c0 l0
     go_wp2_with fail
     refine (law42_awake _).mono ?_
     rintro e w3 ⟨rfl, hb3⟩
     go_wp2
     go_ret
     exact ⟨rfl, btr hB hb3⟩
   .
    have c0 := xu.cell
    have l0 := xu.lt
    unfold ixC at c0
    cases gf0 : (f == 0)
    .
     have hu0 : Hid (U = zeroX) := zhI (Q.out.2.2.2 (by simpa using gf0))
     go_wp2_with fail
     refine (HU.out _ (Below.refl _ _) hu0.out).mono ?_
     rintro e w13 ⟨rfl, hb13⟩
     have hB := btr hB hb13
     clear c0 l0
     go_wp2_with fail
     refine (law42_awake _).mono ?_
     rintro e w3 ⟨rfl, hb3⟩
     go_wp2
     go_ret
     exact ⟨rfl, btr hB hb3⟩
    .
     clear c0 l0
     go_wp2_with fail
     refine (law42_awake _).mono ?_
     rintro e w3 ⟨rfl, hb3⟩
     go_wp2
     go_ret
     exact ⟨rfl, btr hB hb3⟩
  | true =>
   have t2 : (f == 15) = true := by have := Q.out.2.1.2 rfl; simpa using this
   cases gs : (s.toList == old.toList)
   .
    have t1 : (e == 15) = true := by have := Q.out.1.2 (.inr (by intro h; rw [h] at gs; simp at gs)); simpa using this
    go_upto_region 9 with fail
    clear t1 t2
    cases ge0 : (e == 0)
    .
     have hz0 : Hid (Z = zeroX) := zhI (Q.out.2.2.1 (by simpa using ge0))
     have c0 := xz.cell
     have l0 := xz.lt
     unfold ixC at c0
     go_wp2_with fail
     refine (HZ.out _ (Below.refl _ _) hz0.out).mono ?_
     rintro e w12 ⟨rfl, hb12⟩
     have xu12 := xu.belowAll hb12
     have hB12 := btr hB hb12
     clear c0 l0
     have c0 := xu12.cell
     have l0 := xu12.lt
     unfold ixC at c0
     cases gf0 : (f == 0)
     .
      have hu0 : Hid (U = zeroX) := zhI (Q.out.2.2.2 (by simpa using gf0))
      go_wp2_with fail
      refine (HU.out _ hb12 hu0.out).mono ?_
      rintro e w13 ⟨rfl, hb13⟩
      have hB := btr hB12 hb13
      clear c0 l0
      go_wp2_with fail
      refine (law42_awake _).mono ?_
      rintro e w3 ⟨rfl, hb3⟩
      go_wp2
      go_ret
      exact ⟨rfl, btr hB hb3⟩
     .
      have hB := hB12
      clear c0 l0
      go_wp2_with fail
      refine (law42_awake _).mono ?_
      rintro e w3 ⟨rfl, hb3⟩
      go_wp2
      go_ret
      exact ⟨rfl, btr hB hb3⟩
    .
     have c0 := xu.cell
     have l0 := xu.lt
     unfold ixC at c0
     cases gf0 : (f == 0)
     .
      have hu0 : Hid (U = zeroX) := zhI (Q.out.2.2.2 (by simpa using gf0))
      go_wp2_with fail
      refine (HU.out _ (Below.refl _ _) hu0.out).mono ?_
      rintro e w13 ⟨rfl, hb13⟩
      have hB := btr hB hb13
      clear c0 l0
      go_wp2_with fail
      refine (law42_awake _).mono ?_
      rintro e w3 ⟨rfl, hb3⟩
      go_wp2
      go_ret
      exact ⟨rfl, btr hB hb3⟩
     .
      clear c0 l0
      go_wp2_with fail
      refine (law42_awake _).mono ?_
      rintro e w3 ⟨rfl, hb3⟩
      go_wp2
      go_ret
      exact ⟨rfl, btr hB hb3⟩
   .
    have t1 : (e == 15) = false := by
     cases g : (e == 15)
     .
      rfl
     .
      exfalso
      rcases Q.out.1.1 (by simpa using g) with h | h
      .
       cases h
      .
       exact h (toList_inj' (by simpa using gs))
    go_upto_region 9 with fail
    clear t1 t2
    cases ge0 : (e == 0)
    .
     have hz0 : Hid (Z = zeroX) := zhI (Q.out.2.2.1 (by simpa using ge0))
     have c0 := xz.cell
     have l0 := xz.lt
     unfold ixC at c0
     go_wp2_with fail
     refine (HZ.out _ (Below.refl _ _) hz0.out).mono ?_
     rintro e w12 ⟨rfl, hb12⟩
     have xu12 := xu.belowAll hb12
     have hB12 := btr hB hb12
     clear c0 l0
     have c0 := xu12.cell
     have l0 := xu12.lt
     unfold ixC at c0
     cases gf0 : (f == 0)
     .
      have hu0 : Hid (U = zeroX) := zhI (Q.out.2.2.2 (by simpa using gf0))
      go_wp2_with fail
      refine (HU.out _ hb12 hu0.out).mono ?_
      rintro e w13 ⟨rfl, hb13⟩
      have hB := btr hB12 hb13
      clear c0 l0
      go_wp2_with fail
      refine (law42_awake _).mono ?_
      rintro e w3 ⟨rfl, hb3⟩
      go_wp2
      go_ret
      exact ⟨rfl, btr hB hb3⟩
     .
      have hB := hB12
      clear c0 l0
      go_wp2_with fail
      refine (law42_awake _).mono ?_
      rintro e w3 ⟨rfl, hb3⟩
      go_wp2
      go_ret
      exact ⟨rfl, btr hB hb3⟩
    .
     have c0 := xu.cell
     have l0 := xu.lt
     unfold ixC at c0
     cases gf0 : (f == 0)
     .
      have hu0 : Hid (U = zeroX) := zhI (Q.out.2.2.2 (by simpa using gf0))
      go_wp2_with fail
      refine (HU.out _ (Below.refl _ _) hu0.out).mono ?_
      rintro e w13 ⟨rfl, hb13⟩
      have hB := btr hB hb13
      clear c0 l0
      go_wp2_with fail
      refine (law42_awake _).mono ?_
      rintro e w3 ⟨rfl, hb3⟩
      go_wp2
      go_ret
      exact ⟨rfl, btr hB hb3⟩
     .
      clear c0 l0
      go_wp2_with fail
      refine (law42_awake _).mono ?_
      rintro e w3 ⟨rfl, hb3⟩
      go_wp2
      go_ret
      exact ⟨rfl, btr hB hb3⟩
end Go.Proofs.YtlefmmhlpgmbjaaGreat
