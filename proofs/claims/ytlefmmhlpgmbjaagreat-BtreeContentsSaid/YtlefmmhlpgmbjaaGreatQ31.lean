/- law BtreeContents: the walk. -/
import Derived.Test.YtlefmmhlpgmbjaaGreatQ29
import Derived.Test.YtlefmmhlpgmbjaaGreatQ10
import Derived.BigQuiet
import Derived.Test.YtlefmmhlpgmbjaaGreatQ01
namespace Go.Proofs.YtlefmmhlpgmbjaaGreat
set_option maxRecDepth 100000
open Go.RowKit
theorem reach_cont {p frm til : Int} {acts : List ActB} {y : Ix} {l : List Kv} (h : reachX p frm til acts = (y, l, true)) (key : ByteArray) :
  scanPP y ByteArray.empty ByteArray.empty = (l, 0) /\ getPP y key = ((valK l key).1, if (valK l key).2 then 0 else 7) /\ (if validP y = none then (1 : Int) else 0) = 0 /\ Asc l /\ l.length <= 1000 /\ ∀ t, validP y = some t -> (pairsO t).length <= 1000000 := by
 obtain ⟨V, t, hV, hy, hI, hl, hleft, hlen⟩ := reach_good h
 obtain ⟨d, hd⟩ : ∃ d, y.disk = d := ⟨_, rfl⟩
 rw [hd] at hy hI
 have hv : validP y = some t := by rw [hy, validP_X, hI.valid]
 refine ⟨by rw [hy, hI.scan, hl], ?_, by rw [hv]; rfl, by rw [hl]; exact hI.tm.asc, hlen, fun t' ht' => ?_⟩
 .
  unfold getPP
  rw [hv]
  simp only
  rw [getO_val hI.tm, <- hl]
  cases hg : (valK l key).2 with
  | true => simp
  | false => simp [(valK_none hg).1]
 .
  rw [hv] at ht'
  cases ht'
  rw [<- hl]; omega
set_option maxRecDepth 100000 in
set_option maxHeartbeats 4000000 in
theorem law42_contents (w : World) (p frm til : Int) (acts : List ActB) (o : Option Addr) (c : Nat) (hA : ActsB w o acts) (hsl : SlW o acts.length c) (key : ByteArray) :
  Calls Tryz.prog 11 #[.agg (runC p frm til o acts.length c), .string key] w fun e w' => e = .returned (.bool true) /\ Below w.heap.size w w' := by
 obtain ⟨n, hn⟩ : ∃ n, acts.length = n := ⟨_, rfl⟩
 obtain ⟨W1, hW1⟩ : ∃ W1, w.alloc (.cells (runC p frm til o n c) 49) = W1 := ⟨_, rfl⟩
 have hB1 : Below w.heap.size w W1 := by subst hW1; exact Below.one w _
 have x1 : Bx W1 w.heap.size (runC p frm til o n c) 49 := by subst hW1; exact Bx.new w _ _
 have c0 := x1.cell
 have l0 := x1.lt
 have hrc := rn_Reached42 p frm til acts o c W1 (hA.below hB1) hsl
 obtain ⟨y, l, ok, hR⟩ : ∃ y l ok, reachX p frm til acts = (y, l, ok) := ⟨_, _, _, rfl⟩
 obtain ⟨u, is, hu⟩ : ∃ u is, valK l key = (u, is) := ⟨_, _, rfl⟩
 have hso : ok = true -> scanPP y ByteArray.empty ByteArray.empty = (l, 0) /\ getPP y key = (u, if is then 0 else 7) /\ (if validP y = none then (1 : Int) else 0) = 0 /\ Asc l /\ l.length <= 1000 /\ ∀ t, validP y = some t -> (pairsO t).length <= 1000000 := by
  rintro rfl
  have := reach_cont hR key
  rwa [hu] at this
 rw [hR, hn] at hrc
 rw [hn]
 have HS := zhI hso
 have Hrc := zhI hrc
 have Hu := zhI hu
 clear hso hR hrc hA hsl hn hu
 go_enter Tryz.func11, Tryz.ntmps11
 go_wp2_with fail
 refine Hrc.out.mono ?_
 rintro e w2 ⟨v2, lo, lc, rfl, hv2, hkl, hls, hb2⟩
 simp only at hv2 hkl hls |-
 have hv := hv2
 obtain ⟨po, pc, co, cc, fo, fc, rfl, -, -, -⟩ := hv2
 have hB2 := btr hB1 hb2
 have hBo := Below.one w2 (.cells (ixC y.disk po co pc cc y.frm y.til y.ver y.root fo y.free.length fc) 33)
 have xl := Bx.new w2 (ixC y.disk po co pc cc y.frm y.til y.ver y.root fo y.free.length fc) 33
 have hV := hv.below hBo
 have hK := hkl.below hBo
 have hB := btr hB2 hBo
 clear Hrc hv hkl hBo c0 l0 x1
 go_upto_region 2 with fail
 obtain ⟨b, hbe⟩ : ∃ b, w2.heap.size = b := ⟨_, rfl⟩
 have hwb : w.heap.size <= b := by have := hB2.size; omega
 obtain ⟨W4, hW4⟩ : ∃ W4, w2.alloc (.cells (ixC y.disk po co pc cc y.frm y.til y.ver y.root fo y.free.length fc) 33) = W4 := ⟨_, rfl⟩
 simp only [hW4, hbe] at *
 clear hW4 hbe hB2 hb2
 have c0 := xl.cell
 have l0 := xl.lt
 unfold ixC at c0
 cases ok with
 | false =>
  go_wp2_with fail
  refine (law42_awake _).mono ?_
  rintro e w3 ⟨rfl, hb3⟩
  go_wp2
  go_ret
  exact ⟨rfl, btr hB hb3⟩
 | true =>
  cases g2 : decide ((100 : Int) < (key.size : Int))
  .
   obtain ⟨hsc0, hge0, hck0, hasc, hll, hpl⟩ := HS.out rfl
   have hsc := bt_Scan y _ ByteArray.empty ByteArray.empty W4 hV.v hpl
   rw [hsc0] at hsc
   have Hsc := zhI hsc
   have Hge := zhI hge0
   have Hck := zhI hck0
   have Hasc := zhI hasc
   have hllm := slw_len hls
   clear hsc hsc0 hge0 hck0 hasc hpl HS
   go_wp2_with fail
   refine Hsc.out.mono ?_
   rintro e w5 ⟨hb5, v5, rfl, hP⟩
   obtain ⟨mo, mc, rfl, hms, hmr⟩ := PairsR.at hP
   obtain ⟨gf, hgf⟩ : ∃ gf : Int, (if is then 0 else 7) = gf := ⟨_, rfl⟩
   rw [hgf] at Hge
   have Hgf := zhI hgf
   clear hgf
   have hge := bt_Get y _ key w5 (hV.below hb5).v
   rw [Hge.out] at hge
   have Hg2 := zhI hge
   have xl5 := xl.belowAll hb5
   have hB5 := btr hB hb5
   have hV5 := hV.below hb5
   have hK5 := hK.below hb5
   clear c0 l0 Hsc hP hge hV hK hB xl
   have c0 := xl5.cell
   have l0 := xl5.lt
   unfold ixC at c0
   go_wp2_with fail
   refine Hg2.out.mono ?_
   rintro e w6 ⟨rfl, hb6⟩
   have hva := rn_value l lo lc key w6 (hK5.below hb6) hls
   rw [Hu.out] at hva
   have Hva := zhI hva
   have xl6 := xl5.belowAll hb6
   clear c0 l0 Hg2 hva
   go_wp2_with fail
   refine Hva.out.mono ?_
   rintro e w7 ⟨rfl, hb7⟩
   have hb57 := btr hb6 hb7
   have xl7 := xl6.belowAll hb7
   have hV7 := hV5.below hb57
   have hK7 := hK5.below hb57
   have hmr7 := hmr.below hb57
   have hB7 := btr hB5 hb57
   have hlm := slw_len hms
   clear Hva xl5 xl6 hb6 hb7 hb57 hV5 hK5 hmr hB5 Hge Hu
   go_wp2
   go_loopw [48] (fun i wr => ∃ (k : Nat), k <= l.length /\ i = .int .i64 k /\ Below w7.heap.size w7 wr) (fun i _ => l.length - (intOf i).toNat)
   case atStart => exact ⟨0, Nat.zero_le _, rfl, Below.refl _ _⟩
   case round =>
    obtain ⟨k, hk, rfl, hBr⟩ := hrel
    by_cases hlt : k < l.length
    .
     cases g4 : decide ((0 : Int) < (k : Int))
     .
      have hk0 : k = 0 := by have := of_decide_eq_false g4; omega
      go_upto_region 10 with fail
      go_quiet (fail)
      go_wp2
      go_roundw
      case rel => exact ⟨k + 1, by omega, by go_num, Below.drewN hBr _⟩
      case measure => simp [intOf]; omega
     .
      have hkp : 0 < k := by have := of_decide_eq_true g4; omega
      obtain ⟨j, rfl⟩ : ∃ j, k = j + 1 := ⟨k - 1, by omega⟩
      obtain ⟨gb, off, rfl, hgb, k0, -⟩ := hmr7.cell hlt
      obtain ⟨gb', off', e', -, k2, -⟩ := hmr7.cell (show j < l.length by omega)
      simp only [Option.some.injEq, Addr.mk.injEq, and_true] at e'
      obtain ⟨rfl, rfl⟩ := e'
      have c0 := (hBr.cell hgb).trans k0
      have c1 := (hBr.cell hgb).trans k2
      have hord : kLt l[j].1 l[j + 1].1 = true := List.pairwise_iff_getElem.1 Hasc.out j (j + 1) (by omega) hlt (by omega)
      unfold kLt at hord
      have lB : gb < wr.heap.size := znL hgb hBr.size
      clear k0 k2
      go_upto_region 10 with fail
      go_quiet (fail)
      go_wp2
      go_roundw
      case rel => exact ⟨j + 1 + 1, by omega, by go_num, Below.drewN hBr _⟩
      case measure => simp [intOf]; omega
    .
     have xr := xl7.belowAll hBr
     have hVr := hV7.below hBr
     have hKr := hK7.below hBr
     have hmr := hmr7.below hBr
     have hBe := btr hB7 hBr
     have hck := bt_Check y _ wr hVr.v Hck.out
     have Hck2 := zhI hck
     clear hck Hck hV7 hK7 hmr7 hB7 xl7 hBr Hasc
     have c0 := xr.cell
     have l0 := xr.lt
     unfold ixC at c0
     cases is with
     | true =>
      obtain rfl : gf = 0 := by have := Hgf.out; simpa using this.symm
      go_wp2_with fail
      refine Hck2.out.mono ?_
      rintro e w8 ⟨rfl, hb8⟩
      have hsp := rb_SamePairs l l lo mo lc mc w8 (hKr.below hb8) (hmr.below hb8) (slw_len hls) (slw_len hms)
      rw [show decide (l = l) = true by simp] at hsp
      have Hsp := zhI hsp
      have hB := btr hBe hb8
      clear c0 l0 Hck2 hsp hKr hmr xr
      go_wp2_with fail
      refine Hsp.out.mono ?_
      rintro e w9 ⟨rfl, hb9⟩
      have hB := btr hB hb9
      go_wp2_with fail
      refine (law42_awake _).mono ?_
      rintro e w3 ⟨rfl, hb3⟩
      go_wp2
      go_ret
      exact ⟨rfl, btr hB hb3⟩
     | false =>
      obtain rfl : gf = 7 := by have := Hgf.out; simpa using this.symm
      go_wp2_with fail
      refine Hck2.out.mono ?_
      rintro e w8 ⟨rfl, hb8⟩
      have hsp := rb_SamePairs l l lo mo lc mc w8 (hKr.below hb8) (hmr.below hb8) (slw_len hls) (slw_len hms)
      rw [show decide (l = l) = true by simp] at hsp
      have Hsp := zhI hsp
      have hB := btr hBe hb8
      clear c0 l0 Hck2 hsp hKr hmr xr
      go_wp2_with fail
      refine Hsp.out.mono ?_
      rintro e w9 ⟨rfl, hb9⟩
      have hB := btr hB hb9
      go_wp2_with fail
      refine (law42_awake _).mono ?_
      rintro e w3 ⟨rfl, hb3⟩
      go_wp2
      go_ret
      exact ⟨rfl, btr hB hb3⟩
  .
   go_wp2_with fail
   refine (law42_awake _).mono ?_
   rintro e w3 ⟨rfl, hb3⟩
   go_wp2
   go_ret
   exact ⟨rfl, btr hB hb3⟩
end Go.Proofs.YtlefmmhlpgmbjaaGreat
