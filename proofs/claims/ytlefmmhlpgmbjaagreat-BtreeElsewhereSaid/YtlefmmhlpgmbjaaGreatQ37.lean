/- law BtreeElsewhere: the walk. -/
import Derived.Test.YtlefmmhlpgmbjaaGreatQ29
import Derived.Test.YtlefmmhlpgmbjaaGreatQ01
namespace Go.Proofs.YtlefmmhlpgmbjaaGreat
set_option maxRecDepth 100000
open Go.RowKit
theorem reach_else {p frm til : Int} {acts : List ActB} {y Z : Ix} {l : List Kv} {b : Bool} (h0 : beginX p frm til acts = (y, true)) (h : reachX p frm til acts = (Z, l, b)) :
  Z.disk.pages.length = y.disk.pages.length /\ y.disk.pages.length <= 100000 /\ ∀ k : Nat, k < y.disk.pages.length -> ∃ s t, readD y.disk k = (s, 0) /\ readD Z.disk k = (t, 0) /\ (((k : Int) < y.frm \/ y.til <= k) -> s = t) := by
 have hb := beginX_ok (p := p) (frm := frm) (til := til) (acts := acts)
 rw [h0] at hb
 obtain ⟨hf, hS, -⟩ := hb rfl
 simp only at hS
 obtain ⟨hal, _, hfa⟩ := fine_acts hf
 have hR := hS.run (acts := acts) (by omega) hfa
 unfold reachX at h
 rw [h0] at h
 simp only [Bool.true_eq_false, if_false, Prod.mk.injEq] at h
 obtain ⟨h1, -, -⟩ := h
 rw [<- h1]
 generalize rsAt ⟨y, [], [], false⟩ acts = s at hR
 obtain ⟨hc, hp, hl⟩ := hR.shape
 have hfy : y.frm = frm /\ y.til = til /\ chk y.disk = 0 /\ y.disk.pages.length <= 2000 := by
  rcases hS.st with ⟨_, U, t, _, hy, hI, _⟩ | ⟨h0, _⟩
  .
   simp only at hy hI
   exact ⟨by rw [hy]; rfl, by rw [hy]; rfl, hI.bd.1, hI.bd.2.2.2.2.2.2⟩
  .
   cases h0
 obtain ⟨e1, e2, hd, hpl⟩ := hfy
 refine ⟨hl, by omega, fun k hk => ?_⟩
 have hk' : k < s.y.disk.pages.length := by rw [hl]; exact hk
 refine ⟨_, _, readD_ok hd hk, readD_ok hc hk', fun ho => ?_⟩
 rw [e1, e2] at ho
 have hfar := hR.far k hk ho
 rw [pageL_nat hd hk, pageL_nat hc hk'] at hfar
 rw [<- bs_of (contentD s.y.disk k hk'), <- bs_of (contentD y.disk k hk), hfar]
set_option maxRecDepth 100000 in
set_option maxHeartbeats 4000000 in
theorem law42_else (w : World) (p frm til : Int) (acts : List ActB) (o : Option Addr) (c : Nat) (hA : ActsB w o acts) (hsl : SlW o acts.length c) :
  Calls Tryz.prog 10 #[.agg (runC p frm til o acts.length c)] w fun e w' => e = .returned (.bool true) /\ Below w.heap.size w w' := by
 obtain ⟨n, hn⟩ : ∃ n, acts.length = n := ⟨_, rfl⟩
 obtain ⟨N, hN⟩ : ∃ N, w.heap.size = N := ⟨_, rfl⟩
 obtain ⟨W1, hW1⟩ : ∃ W1, w.alloc (.cells (runC p frm til o n c) 49) = W1 := ⟨_, rfl⟩
 have hB1 : Below w.heap.size w W1 := by subst hW1; exact Below.one w _
 have x1 : Bx W1 N (runC p frm til o n c) 49 := by subst hW1 hN; exact Bx.new w _ _
 have c0 := x1.cell
 have l0 := x1.lt
 have hbg := rn_begin42 p frm til acts o c W1 (hA.below hB1) hsl
 have hrc := fun W (hb : Below w.heap.size w W) => rn_Reached42 p frm til acts o c W (hA.below hb) hsl
 obtain ⟨y, ok, hY⟩ : ∃ y ok, beginX p frm til acts = (y, ok) := ⟨_, _, rfl⟩
 obtain ⟨Z, l, okz, hR⟩ : ∃ y l ok, reachX p frm til acts = (y, l, ok) := ⟨_, _, _, rfl⟩
 have hso : ok = true -> Z.disk.pages.length = y.disk.pages.length /\ y.disk.pages.length <= 100000 /\ ∀ k : Nat, k < y.disk.pages.length -> ∃ s t, readD y.disk k = (s, 0) /\ readD Z.disk k = (t, 0) /\ (((k : Int) < y.frm \/ y.til <= k) -> s = t) := by
  rintro rfl
  exact reach_else hY hR
 rw [hY, hn] at hbg
 rw [hR, hn] at hrc
 rw [hn]
 have HS := zhI hso
 have Hbg := zhI hbg
 have Hrc := zhI hrc
 clear hso hR hY hrc hbg hA hsl hn
 go_enter Tryz.func10, Tryz.ntmps10
 go_wp2_with fail
 refine Hbg.out.mono ?_
 rintro e w2 ⟨v2, rfl, hv2, hb2⟩
 simp only at hv2 |-
 have hv := hv2
 obtain ⟨po, pc, co, cc, fo, fc, rfl, -, -, -⟩ := hv2
 have hB2 := btr hB1 hb2
 have hBo := Below.one w2 (.cells (ixC y.disk po co pc cc y.frm y.til y.ver y.root fo y.free.length fc) 33)
 have xl := Bx.new w2 (ixC y.disk po co pc cc y.frm y.til y.ver y.root fo y.free.length fc) 33
 have y1 := (x1.belowAll hb2).belowAll hBo
 have hV := hv.below hBo
 have hB := btr hB2 hBo
 have hsz : N < w2.heap.size := (x1.belowAll hb2).lt
 clear Hbg hv hBo c0 l0 x1
 go_upto_region 2 with fail
 obtain ⟨b, hbe⟩ : ∃ b, w2.heap.size = b := ⟨_, rfl⟩
 obtain ⟨W4, hW4⟩ : ∃ W4, w2.alloc (.cells (ixC y.disk po co pc cc y.frm y.til y.ver y.root fo y.free.length fc) 33) = W4 := ⟨_, rfl⟩
 rw [hW4] at y1 hV hB |-
 rw [hW4, hbe] at xl
 rw [hbe] at hsz |-
 clear hW4 hbe hB2 hb2
 cases ok with
 | false =>
  go_wp2_with fail
  refine (law42_awake _).mono ?_
  rintro e w3 ⟨rfl, hb3⟩
  go_wp2
  go_ret
  exact ⟨rfl, btr hB hb3⟩
 | true =>
  obtain ⟨hl1, hl2, hrd⟩ := HS.out rfl
  have Hrd := zhI hrd
  have Hl := zhI (zaI hl1 hl2)
  clear HS hl1 hl2 hrd
  have c0 := xl.cell
  have l0 := xl.lt
  unfold ixC at c0
  have c1 := y1.cell
  have l1 := y1.lt
  have hBo := Below.one W4 (.cells (dC y.disk po co pc cc) 25)
  have xd := Bx.new W4 (dC y.disk po co pc cc) 25
  obtain ⟨b2, hb2⟩ : ∃ b, W4.heap.size = b := ⟨_, rfl⟩
  have hbb : b < b2 := by rw [<- hb2]; exact l0
  have z1 := y1.belowAll hBo
  have zl := xl.belowAll hBo
  have hV4 := hV.below hBo
  have hB4 := btr hB hBo
  go_upto_region 5 with fail
  obtain ⟨W5, hW5⟩ : ∃ W, W4.alloc (.cells (dC y.disk po co pc cc) 25) = W := ⟨_, rfl⟩
  have hW5' := hW5
  unfold dC at hW5'
  simp only [hW5']
  rw [hW5] at hBo xd z1 zl hV4 hB4
  rw [hb2] at xd
  clear hW5' hW5 hb2 c0 l0 c1 l1 hB hV y1 xl hBo
  have hDV : DskV W5 (.agg (dC y.disk po co pc cc)) y.disk := by
   obtain ⟨po', pc', co', cc', fo', fc', e, hD, -, -⟩ := hV4
   simp only [Value.agg.injEq, Array.mk.injEq, List.cons.injEq, Value.slice.injEq, and_true, true_and] at e
   obtain ⟨⟨rfl, rfl⟩, ⟨rfl, rfl⟩, rfl, rfl⟩ := e
   exact hD
  have c1 := z1.cell
  have l1 := z1.lt
  go_wp2_with fail
  refine (Hrc.out _ hB4).mono ?_
  rintro e w6 ⟨v6, lo, lc, rfl, hv6, -, -, hb6⟩
  simp only at hv6 |-
  have hv := hv6
  obtain ⟨qo, qc, ro, rc, so, sc, rfl, hDz, -, -⟩ := hv6
  have hBo := Below.one w6 (.cells (ixC Z.disk qo ro qc rc Z.frm Z.til Z.ver Z.root so Z.free.length sc) 33)
  have xz := Bx.new w6 (ixC Z.disk qo ro qc rc Z.frm Z.til Z.ver Z.root so Z.free.length sc) 33
  have u0 := (zl.belowAll hb6).belowAll hBo
  have u1 := (xd.belowAll hb6).belowAll hBo
  have hDy := (hDV.below hb6).below hBo
  have hDz := hDz.below hBo
  have hB7 := btr (btr hB4 hb6) hBo
  clear hv c1 l1 z1 zl xd hDV hB4 hb6 hBo hV4
  go_upto_region 6 with fail
  obtain ⟨bz, hbz⟩ : ∃ b, w6.heap.size = b := ⟨_, rfl⟩
  obtain ⟨W7, hW7⟩ : ∃ W, w6.alloc (.cells (ixC Z.disk qo ro qc rc Z.frm Z.til Z.ver Z.root so Z.free.length sc) 33) = W := ⟨_, rfl⟩
  simp only [hW7, hbz] at *
  clear hW7 hbz
  obtain ⟨hl1, hl2⟩ := Hl.out
  have g0 : ((Z.disk.pages.length : Int) != (y.disk.pages.length : Int)) = false := by rw [hl1]; simp
  have c0 := xz.cell
  have l0 := xz.lt
  have c1 := u1.cell
  have l1 := u1.lt
  have c2 := u0.cell
  have l2 := u0.lt
  unfold ixC at c0 c2
  unfold dC at c1
  clear Hrc Hl hl1
  go_wp2
  clear c0 l0 c1 l1 c2 l2
  obtain ⟨m, hm⟩ : ∃ m, y.disk.pages.length = m := ⟨_, rfl⟩
  have Hm := zhI hm
  go_loopw [41] (fun i wr => ∃ (k : Nat), k <= y.disk.pages.length /\ i = .int .i64 k /\ Below W7.heap.size W7 wr) (fun i _ => y.disk.pages.length - (intOf i).toNat)
  case atStart => exact ⟨0, Nat.zero_le _, rfl, Below.refl _ _⟩
  case round =>
   obtain ⟨k, hk, rfl, hBr⟩ := hrel
   by_cases hlt : k < y.disk.pages.length
   .
    obtain ⟨s, t, r1, r2, r3⟩ := Hrd.out k hlt
    have R1 := zhI (v_read y.disk _ k wr (hDy.below hBr) r1)
    have R2 := fun W (hb : Below wr.heap.size wr W) => v_read Z.disk _ k W (hDz.below (btr hBr hb)) r2
    have HR2 := zhI R2
    have R3 := zhI r3
    have u1 := u1.belowAll hBr
    have u0 := u0.belowAll hBr
    have xz := xz.belowAll hBr
    clear R2 r1 r2 r3 hm
    have c1 := u1.cell
    have l1 := u1.lt
    unfold dC at c1
    go_wp2_with fail
    refine R1.out.mono ?_
    rintro e wA ⟨rfl, hbA⟩
    have u0 := u0.belowAll hbA
    have xz := xz.belowAll hbA
    have H2 := zhI (HR2.out _ hbA)
    clear c1 l1 u1 R1 HR2
    have c0 := xz.cell
    have l0 := xz.lt
    unfold ixC at c0
    go_wp2_with fail
    refine H2.out.mono ?_
    rintro e wB ⟨rfl, hbB⟩
    have u0 := u0.belowAll hbB
    have hbAB := btr hBr (btr hbA hbB)
    clear c0 l0 xz H2
    have c0 := u0.cell
    have l0 := u0.lt
    unfold ixC at c0
    cases g5 : decide ((k : Int) < y.frm)
    rotate_left
    .
     obtain rfl := R3.out (.inl (of_decide_eq_true g5))
     go_wp2
     go_roundw
     case rel => exact ⟨k + 1, by omega, by go_num, hbAB⟩
     case measure => simp [intOf]; omega
    .
     cases g6 : decide (y.til <= (k : Int))
     rotate_left
     .
      obtain rfl := R3.out (.inr (of_decide_eq_true g6))
      go_wp2
      go_roundw
      case rel => exact ⟨k + 1, by omega, by go_num, hbAB⟩
      case measure => simp [intOf]; omega
     .
      go_wp2
      go_roundw
      case rel => exact ⟨k + 1, by omega, by go_num, hbAB⟩
      case measure => simp [intOf]; omega
   .
    have hB := btr hB7 hBr
    clear u0 u1 xz
    go_wp2_with fail
    refine (law42_awake _).mono ?_
    rintro e w3 ⟨rfl, hb3⟩
    go_wp2
    go_ret
    exact ⟨rfl, btr hB hb3⟩
end Go.Proofs.YtlefmmhlpgmbjaaGreat
