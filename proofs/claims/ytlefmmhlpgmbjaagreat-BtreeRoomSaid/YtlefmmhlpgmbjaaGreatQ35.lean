/- law BtreeRoom: the walk. -/
import Derived.Test.YtlefmmhlpgmbjaaGreatQ29
import Derived.Test.YtlefmmhlpgmbjaaGreatQ34
import Derived.Test.YtlefmmhlpgmbjaaGreatQ01
namespace Go.Proofs.YtlefmmhlpgmbjaaGreat
set_option maxRecDepth 100000
open Go.RowKit
theorem filter_room : ∀ (u : List Int) {P : List Int}, P.Nodup -> P.length <= (P.filter fun p => !u.contains p).length + u.length
 | [], P, _ => by
  rw [List.filter_eq_self.2 (fun a _ => by simp)]
  simp
 | x :: u, P, h => by
  have ih := filter_room u h
  have hn : (P.filter fun p => !u.contains p).Nodup := h.sublist List.filter_sublist
  have e : P.filter (fun p => !(x :: u).contains p) = (P.filter fun p => !u.contains p).erase x := by
   rw [hn.erase_eq_filter, List.filter_filter]
   refine List.filter_congr fun p _ => ?_
   simp only [List.contains_cons, Bool.not_or, bne]
  rw [e, zlC]
  have := List.length_erase (a := x) (l := P.filter fun p => !u.contains p)
  split at this <;> omega
theorem preO_prs {t : Option Nd} (h : OTm t) : (preO t).length <= (pairsO t).length := by
 cases t with
 | none => simp [preO]
 | some n =>
  obtain ⟨⟨k, h1⟩, _⟩ := h n rfl
  exact h1.cnt1
theorem IxS.room {d : Dsk} {frm til : Int} {V : Nat} {t : Option Nd} (h : IxS d frm til V t) : til - frm - 2 - ((ixOf d frm til V t).free.length : Int) <= (pairsO t).length /\ (ixOf d frm til V t).free.length <= 2000 := by
 have hb := h.bd
 have e : (ixOf d frm til V t).free = otherX frm til ((preO t).map Nd.page) := otherX_congr fun p => mem_usedN
 rw [e]
 unfold otherX
 have h1 := filter_room ((preO t).map Nd.page) (pgsX_nodup frm til)
 have h2 := List.length_filter_le (fun p => !((preO t).map Nd.page).contains p) (pgsX frm til)
 rw [pgsX_len] at h1 h2
 rw [List.length_map] at h1
 have := preO_prs h.tm
 omega
theorem reach_room {p frm til : Int} {acts : List ActB} {y : Ix} {l : List Kv} (h : reachX p frm til acts = (y, l, true)) {a : ActB} (ha : fitsA a = true) :
  ∃ Z e, commitP y (chgsOf a l) = (Z, e) /\ y.til - y.frm - 2 - (y.free.length : Int) <= l.length /\ (0 <= y.frm /\ y.frm <= y.til /\ y.til <= 2000 /\ y.free.length <= 2000) /\ (e = 17 -> Z = zeroX /\ y.free.length < (applyL l (chgsOf a l)).length /\ ((chgsOf a l).map Chg.key).Nodup) /\ (e ≠ 17 -> a.kind = 1 -> e = 0 \/ e = 4) /\ y.disk.cache.length <= 1000 /\ l.length <= 1000 /\ Asc l /\ (chgsOf a l).length <= 24 /\ (applyL l (chgsOf a l)).length <= 2000 := by
 obtain ⟨V, t, hV, hy, hI, hl, hleft, hlen⟩ := reach_good h
 obtain ⟨d, hd⟩ : ∃ d, y.disk = d := ⟨_, rfl⟩
 rw [hd] at hy hI hleft |-
 subst hl
 obtain ⟨r1, r2⟩ := hI.room
 have hb := hI.bd
 have hf := chgs_few ha (pairsO t)
 have hap := applyL_len (cs := chgsOf a (pairsO t)) hI.tm.asc
 obtain ⟨cs, hcs⟩ : ∃ cs, chgsOf a (pairsO t) = cs := ⟨_, rfl⟩
 have hone : a.kind = 1 -> (chgsE none cs = 0 \/ chgsE none cs = 4) /\ cs.any (clashO t) = false := fun k => by
  obtain ⟨g1, g2⟩ := chgsOf_one k (pairsO t)
  rw [hcs] at g1 g2
  exact ⟨chgsE_good g1 (fun q hq => by cases hq) g2, clash_good hI.tm g2⟩
 rw [hcs] at hf hap |-
 rw [<- hy] at r1 r2
 obtain ⟨R, hR⟩ : ∃ R, commitP y cs = R := ⟨_, rfl⟩
 have e1 : y.frm = frm := by rw [hy]; rfl
 have e2 : y.til = til := by rw [hy]; rfl
 rw [e1, e2]
 refine ⟨R.1, R.2, hR, r1, ⟨by omega, by omega, by omega, r2⟩, ?_, ?_, by rw [hI.empty]; simp, hlen, hI.tm.asc, hf, by omega⟩
 .
  intro h17
  rcases commit_law hI (by omega) cs with ⟨h1, h2⟩ | ⟨_, h1, h2⟩ | ⟨_, _, h1, h2⟩ | ⟨h0, h1, _, h3, h2⟩ | ⟨_, h1, _, t', p, _, _, _, h2⟩
  .
   rw [<- hy, hR] at h2
   rw [h2] at h17
   have hv := chgsE_val cs none
   simp only at h17
   omega
  .
   rw [<- hy, hR] at h2
   rw [h2] at h17; exact absurd h17 (by simp)
  .
   rw [<- hy, hR] at h2
   rw [h2] at h17; exact absurd h17 (by simp)
  .
   rw [<- hy, hR] at h2
   rw [<- hy] at h3
   exact ⟨by rw [h2], h3, (chgsE_asc h0).1.nodup⟩
  .
   have hf := (h2.full hleft).1
   rw [<- hy, hR] at hf
   rw [hf] at h17; exact absurd h17 (by decide)
 .
  intro h17 k
  obtain ⟨g1, g2⟩ := hone k
  rcases commit_law hI (by omega) cs with ⟨h1, h2⟩ | ⟨_, h1, h2⟩ | ⟨_, _, h1, h2⟩ | ⟨h0, h1, _, h3, h2⟩ | ⟨_, h1, _, t', p, _, _, _, h2⟩
  .
   rw [<- hy, hR] at h2
   rw [h2]
   exact g1
  .
   rw [g2] at h1; cases h1
  .
   rw [<- hy, hR] at h2
   rw [h2]; exact .inl rfl
  .
   rw [<- hy, hR] at h2
   rw [h2] at h17; exact absurd rfl h17
  .
   have hf := (h2.full hleft).1
   rw [<- hy, hR] at hf
   exact .inl hf
def annPr (L : List Kv) : Ann := ⟨fun r => .slice (slO (r.x 0)) L.length (slC (r.x 0)), fun _ _ => True⟩
theorem lz_pr {f : FuncId} {args : Array Value} {L : List Kv} {W : World} (h : Calls Tryz.prog f args W fun e w' => ∃ v, e = .returned v /\ PairsR w' W.heap.size v L /\ Below W.heap.size W w') : Calls Tryz.prog f args W fun e w' => ∃ u, e = .returned u /\ lzPost (annPr L) W u w' := by
 refine h.mono ?_
 rintro e w' ⟨v, rfl, hp, hb⟩
 obtain ⟨o, c, rfl, -, -⟩ := PairsR.at hp
 exact ⟨_, rfl, hb, fun _ => .slice o L.length c, rfl, fun _ _ => trivial⟩
set_option maxRecDepth 100000 in
set_option maxHeartbeats 4000000 in
theorem law42_room (w : World) (p frm til : Int) (acts : List ActB) (o : Option Addr) (c : Nat) (hA : ActsB w o acts) (hsl : SlW o acts.length c) (a : ActB) (ao bo do_ qo : Option Addr) (ac bc dc qc : Nat) (hok : ActBOk w a ao bo do_ qo ac bc dc qc) :
  Calls Tryz.prog 8 #[.agg (runC p frm til o acts.length c), .agg (actBC a ao bo do_ qo ac bc dc qc)] w fun e w' => e = .returned (.bool true) /\ Below w.heap.size w w' := by
 obtain ⟨n, hn⟩ : ∃ n, acts.length = n := ⟨_, rfl⟩
 obtain ⟨N, hN⟩ : ∃ N, w.heap.size = N := ⟨_, rfl⟩
 obtain ⟨AC, hAC⟩ : ∃ AC, AC = actBC a ao bo do_ qo ac bc dc qc := ⟨_, rfl⟩
 obtain ⟨W1, hW1⟩ : ∃ W1, (w.alloc (.cells (runC p frm til o n c) 49)).alloc (.cells (actBC a ao bo do_ qo ac bc dc qc) 54) = W1 := ⟨_, rfl⟩
 have hB1 : Below w.heap.size w W1 := by subst hW1; exact (Below.one w _).alloc (by simp) _
 have x1 : Bx W1 N (runC p frm til o n c) 49 := by subst hW1 hN; exact (Bx.new w _ _).alloc _
 have xa : Bx W1 (N + 1) (actBC a ao bo do_ qo ac bc dc qc) 54 := by subst hW1 hN; exact Bx.newAt _ _ _ _ (by simp)
 have c0 := x1.cell
 have l0 := x1.lt
 have hrc := rn_Reached42 p frm til acts o c W1 (hA.below hB1) hsl
 obtain ⟨y, l, ok, hR⟩ : ∃ y l ok, reachX p frm til acts = (y, l, ok) := ⟨_, _, _, rfl⟩
 have hso : ok = true -> fitsA a = true -> ∃ Z e, commitP y (chgsOf a l) = (Z, e) /\ y.til - y.frm - 2 - (y.free.length : Int) <= l.length /\ (0 <= y.frm /\ y.frm <= y.til /\ y.til <= 2000 /\ y.free.length <= 2000) /\ (e = 17 -> Z = zeroX /\ y.free.length < (applyL l (chgsOf a l)).length /\ ((chgsOf a l).map Chg.key).Nodup) /\ (e ≠ 17 -> a.kind = 1 -> e = 0 \/ e = 4) /\ y.disk.cache.length <= 1000 /\ l.length <= 1000 /\ Asc l /\ (chgsOf a l).length <= 24 /\ (applyL l (chgsOf a l)).length <= 2000 := by
  rintro rfl h
  exact reach_room hR h
 rw [hR, hn] at hrc
 rw [hn]
 have HS := zhI hso
 have Hrc := zhI hrc
 have Hok := zhI hok
 clear hso hR hrc hA hsl hn hok hAC
 go_enter Tryz.func8, Tryz.ntmps8
 go_wp2_with fail
 refine Hrc.out.mono ?_
 rintro e w2 ⟨v2, lo, lc, rfl, hv2, hkl, hls, hb2⟩
 simp only at hv2 hkl hls |-
 have hv := hv2
 obtain ⟨po, pc, co, cc, fo, fc, rfl, -, -, -⟩ := hv2
 have hB2 := btr hB1 hb2
 have hBo := Below.one w2 (.cells (ixC y.disk po co pc cc y.frm y.til y.ver y.root fo y.free.length fc) 33)
 have xl := Bx.new w2 (ixC y.disk po co pc cc y.frm y.til y.ver y.root fo y.free.length fc) 33
 have ya := (xa.belowAll hb2).belowAll hBo
 have hV := hv.below hBo
 have hK := hkl.below hBo
 have hB := btr hB2 hBo
 clear Hrc hv hkl hBo c0 l0 x1 xa
 go_upto_region 2 with fail
 obtain ⟨b, hbe⟩ : ∃ b, w2.heap.size = b := ⟨_, rfl⟩
 obtain ⟨W4, hW4⟩ : ∃ W4, w2.alloc (.cells (ixC y.disk po co pc cc y.frm y.til y.ver y.root fo y.free.length fc) 33) = W4 := ⟨_, rfl⟩
 simp only [hW4, hbe] at *
 clear hW4 hbe hB2 hb2
 cases ok with
 | false =>
  clear HS
  go_wp2_with fail
  refine (law42_awake _).mono ?_
  rintro e w3 ⟨rfl, hb3⟩
  go_wp2
  go_ret
  exact ⟨rfl, btr hB hb3⟩
 | true =>
  have hs1 := HS.out rfl
  clear HS
  have HS := zhI hs1
  clear hs1
  have hfi := rn_fits a ao bo do_ qo ac bc dc qc W4 (Hok.out.below hB)
  obtain ⟨fa, hfa⟩ : ∃ fa, fitsA a = fa := ⟨_, rfl⟩
  rw [hfa] at hfi
  have Hfi := zhI hfi
  clear hfi
  have ca := ya.cell
  have la := ya.lt
  go_wp2_with fail
  refine Hfi.out.mono ?_
  rintro e w5 ⟨rfl, hb5⟩
  have xl5 := xl.belowAll hb5
  have ya5 := ya.belowAll hb5
  have hV5 := hV.below hb5
  have hK5 := hK.below hb5
  have hB5 := btr hB hb5
  clear ca la ya xl hV hK hB hb5 Hfi
  cases fa with
  | false =>
   have hB := hB5
   clear HS
   go_wp2_with fail
   refine (law42_awake _).mono ?_
   rintro e w3 ⟨rfl, hb3⟩
   go_wp2
   go_ret
   exact ⟨rfl, btr hB hb3⟩
  | true =>
   obtain ⟨Z, e, q1, q2, q3, q4, q5, q6, q7, q8, q9, q10⟩ := HS.out hfa
   obtain ⟨cs, hcs⟩ : ∃ cs, chgsOf a l = cs := ⟨_, rfl⟩
   have hch := rn_Changes a ao bo do_ qo ac bc dc qc l lo lc w5 (Hok.out.below hB5) hfa hK5 hls
   rw [hcs] at q1 q4 q9 q10 hch
   have Q1 := zhI q1
   have Q := zhI (zaI q4 (zaI q5 (zaI q8 (zaI q9 q10))))
   have Hch := zhI hch
   have r1 : decide ((l.length : Int) < y.til - y.frm - 2 - (y.free.length : Int)) = false := by rw [decide_eq_false_iff_not]; omega
   have c0 := xl5.cell
   have l0 := xl5.lt
   unfold ixC at c0
   have ca := ya5.cell
   have la := ya5.lt
   clear HS hch q1 q4 q5 q8 q9 q10 hfa hcs q2
   go_wp2_with fail
   refine Hch.out.mono ?_
   rintro e w6 ⟨co2, cc2, rfl, hcs, hcr, hb6⟩
   have xl6 := xl5.belowAll hb6
   have ya6 := ya5.belowAll hb6
   have hV6 := hV5.below hb6
   have hK6 := hK5.below hb6
   have hB6 := btr hB5 hb6
   have hcm := bt_Commit y _ cs co2 cc2 w6 hV6 hcs (by have := Q.out.2.2.2.1; omega) hcr (by omega)
   rw [Q1.out] at hcm
   have Hcm := zhI hcm
   clear c0 l0 ca la xl5 ya5 hV5 hK5 hB5 hb6 hcm Hch Q1
   have c0 := xl6.cell
   have l0 := xl6.lt
   unfold ixC at c0
   go_wp2_with fail
   refine Hcm.out.mono ?_
   rintro e w7 ⟨v7, rfl, hX7, hb7⟩
   simp only at hX7 |-
   have hX := hX7
   obtain ⟨zo, zc, yo, yc, xo, xc, rfl, -, -, -⟩ := hX7
   have hBo := Below.one w7 (.cells (ixC Z.disk zo yo zc yc Z.frm Z.til Z.ver Z.root xo Z.free.length xc) 33)
   have xz := Bx.new w7 (ixC Z.disk zo yo zc yc Z.frm Z.til Z.ver Z.root xo Z.free.length xc) 33
   have xl8 := (xl6.belowAll hb7).belowAll hBo
   have ya8 := (ya6.belowAll hb7).belowAll hBo
   have hK8 := (hK6.below hb7).below hBo
   have hC8 := (hcr.below hb7).below hBo
   have hZ8 := hX.below hBo
   have hB8 := btr (btr hB6 hb7) hBo
   clear hX hb7 hBo xl6 hV6 hB6 c0 l0 ya6 hK6 hcr Hcm
   go_upto_region 8 with fail
   obtain ⟨bz, hbz⟩ : ∃ b, w7.heap.size = b := ⟨_, rfl⟩
   obtain ⟨W8, hW8⟩ : ∃ W, w7.alloc (.cells (ixC Z.disk zo yo zc yc Z.frm Z.til Z.ver Z.root xo Z.free.length xc) 33) = W := ⟨_, rfl⟩
   simp only [hW8, hbz] at *
   clear hW8 hbz
   cases g17 : (e == 17)
   .
    have hne : e ≠ 17 := by simpa using g17
    have ca := ya8.cell
    have la := ya8.lt
    have hB := hB8
    have q6' := Q.out.2.1 hne
    clear xl8 hK8 hC8 hZ8 hB8 xz Q hne
    cases gk : (a.kind != 1)
    .
     rcases q6' (by simpa using gk) with h0 | h0
     .
      have g0 : (e == 0) = true := by rw [h0]; rfl
      clear q6' h0
      go_wp2_with fail
      refine (law42_awake _).mono ?_
      rintro e w3 ⟨rfl, hb3⟩
      go_wp2
      go_ret
      exact ⟨rfl, btr hB hb3⟩
     .
      have g0 : (e == 0) = false := by rw [h0]; rfl
      have g4 : (e == 4) = true := by rw [h0]; rfl
      clear q6' h0
      go_wp2_with fail
      refine (law42_awake _).mono ?_
      rintro e w3 ⟨rfl, hb3⟩
      go_wp2
      go_ret
      exact ⟨rfl, btr hB hb3⟩
    .
     clear q6'
     go_wp2_with fail
     refine (law42_awake _).mono ?_
     rintro e w3 ⟨rfl, hb3⟩
     go_wp2
     go_ret
     exact ⟨rfl, btr hB hb3⟩
   .
    have he : e = 17 := by simpa using g17
    obtain ⟨hz0, hlt, hnd⟩ := Q.out.1 he
    have hsm := fun W (hb : Below W8.heap.size W8 W) => rb_SameX Z _ (.agg ixZ) W (hZ8.below hb).v (by rw [hz0]; exact IxV.zero W)
    have haf := fun W (hb : Below W8.heap.size W8 W) => rn_After l lo lc cs co2 cc2 W (hK8.below hb) hls (hC8.below hb) hcs (by omega) (by have := Q.out.2.2.2.1; omega) Q.out.2.2.1 hnd
    have hal := Q.out.2.2.2.2
    obtain ⟨M, hM⟩ : ∃ M, applyL l cs = M := ⟨_, rfl⟩
    rw [hM] at haf hlt hal
    have Hsm := zhI hsm
    have Haf := zhI haf
    have r2 : decide (y.free.length < M.length) = true := by rw [decide_eq_true_eq]; omega
    have c0 := xl8.cell
    have l0 := xl8.lt
    have c1 := xz.cell
    have l1 := xz.lt
    unfold ixC at c0 c1
    clear hsm haf hM hz0 hnd hZ8 hK8 hC8 ya8 Q he hlt
    go_upto_region 9 with fail
    have cQ := Lat.cells W8
    refine wp_region_lz 16 1 #[true, true, true, true, true, true, true, true, true, true, true, true, true, true, true, true, false] (fun i => if i = 1 then some (annK (.agg ixZ)) else if i = 2 then some (annK (.bool true)) else if i = 9 then some (annPr M) else if i = 14 then some (annK (.bool true)) else none) (by kernel_rfl) (by rfl) (by rfl) (by kernel_rfl) ?_
    simp only [List.take_succ_cons, List.take_zero]
    refine LW.block 1 1 (by rfl) (by kernel_rfl) (by kernel_rfl) ?_
    simp only [ztP]
    repeat (first | go_big_quiet_skip | (go_big_quiet_want; go_big_quiet_op; go_big_quiet_on))
    refine wpQuiet_nil ?_
    refine LW.lzy _ (by rfl) (by rfl) ?_ ?_
    .
     intro yL _
     exact lz_value ((by go_simp; first | done | rfl))
    intro _
    simp only [Act.put, zsP]
    (try simp only [annK])
    refine LW.lzy _ (by rfl) (by rfl) ?_ ?_
    .
     intro yL _
     unfold lzAt
     go_simp
     exact lz_constB (Hsm.out _ yL.h)
    intro _
    simp only [Act.put, zsP]
    (try simp only [annK])
    refine LW.block 6 9 (by rfl) (by kernel_rfl) (by kernel_rfl) ?_
    simp only [ztP]
    repeat (first | go_big_quiet_skip | (go_big_quiet_want; go_big_quiet_op; go_big_quiet_on))
    refine wpQuiet_nil ?_
    refine LW.lzy _ (by rfl) (by rfl) ?_ ?_
    .
     intro yL _
     unfold lzAt
     go_simp
     exact lz_pr (Haf.out _ yL.h)
    intro r9
    simp only [Act.put, zsP, annPr]
    refine LW.block 4 14 (by rfl) (by kernel_rfl) (by kernel_rfl) ?_
    simp only [ztP]
    repeat (first | go_big_quiet_skip | (go_big_quiet_want; go_big_quiet_op; go_big_quiet_on))
    refine wpQuiet_nil ?_
    (try simp only [r2])
    refine LW.lzy _ (by rfl) (by rfl) ?_ ?_
    .
     intro yL _
     unfold lzAt
     go_simp
     exact lz_constB (law42_awake _)
    intro _
    simp only [Act.put, zsP]
    (try simp only [annK])
    refine LW.block 1 16 (by rfl) (by kernel_rfl) (by kernel_rfl) ?_
    simp only [ztP]
    repeat (first | go_big_quiet_skip | (go_big_quiet_want; go_big_quiet_op; go_big_quiet_on))
    refine wpQuiet_nil ?_
    refine LW.done ?_
    intro w9 hG
    have hb9 := hG.below
    have hB9 := btr hB8 hb9
    clear hG c0 l0 c1 l1 cQ
    refine wpAny_ready (rs := [16]) (by kernel_rfl) (by simp) ?_
    refine AllReady.cons rfl (fun K hK => ?_) AllReady.nil
    go_simp
    refine hK _ _ ?_
    clear hK K
    refine wpAny_done (by kernel_rfl) ?_ _
    go_wp2
    go_ret
    exact ⟨rfl, hB9⟩
end Go.Proofs.YtlefmmhlpgmbjaaGreat
