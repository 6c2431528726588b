/- quiltref42.leaf. A map from ints to bools that holds only true: a set of pages. -/
import Derived.Test.YtlefmmhlpgmbjaaGreatS07
import Derived.Test.YtlefmmhlpgmbjaaGreatS04
import Derived.Maps.OwnSet
import Derived.Test.YtlefmmhlpgmbjaaGreatS01
namespace Go.Proofs.YtlefmmhlpgmbjaaGreat
set_option maxRecDepth 100000
open Go.RowKit
theorem zfu {L k r : List UInt8} {i : Nat} (h : textP (L.drop i) = some (k, r)) : r = L.drop (i + 1 + k.length) /\ i + 1 + k.length <= L.length /\ k.length <= 255 := by
 cases hd : L.drop i with
 | nil => rw [hd] at h; cases h
 | cons c t =>
  rw [hd] at h;have hl := congrArg List.length hd;rw [List.length_drop, zlC] at hl;simp only [textP] at h;split at h
  . cases h
  .
   rename_i hn
   simp only [Option.some.injEq, Prod.mk.injEq] at h;obtain ⟨rfl, rfl⟩ := h;have hk : (t.take c.toNat).length = c.toNat := by rw [List.length_take]; omega
   have ht : t = L.drop (i + 1) := by have := congrArg List.tail hd;rw [List.tail_drop] at this;exact this.symm
   rw [hk];refine ⟨?_, by omega, by have := c.toNat_lt; omega⟩;rw [ht, List.drop_drop]
theorem ziO (l : List UInt8) : (bs l).toList = l := by rw [ByteArray.toList_eq]
set_option maxHeartbeats 8000000 in
theorem zmP (L : List UInt8) (w : World) (hl : L.length = 512) :
  Calls Tryz.prog 95 #[.string (bs L)] w (zjs (leafX L) w) := by
 obtain ⟨ip, hip, hz0, hz1, hz2⟩ := info_parts zbo;have Hi := zhI (zaI hip (zaI hz0 (zaI hz1 hz2)));clear hip hz0 hz1 hz2;obtain ⟨R, hR⟩ : ∃ R, zjs (leafX L) w = R := ⟨_, rfl⟩;rw [hR];have HR := zhI hR;obtain ⟨s, hs⟩ : ∃ s, bs L = s := ⟨_, rfl⟩;have hz : s.size = 512 := by rw [<- hs, zaj]; exact hl
 obtain ⟨cb, hcb⟩ : ∃ c, L.getD 1 0 = c := ⟨_, rfl⟩;have h1 : (h : 1 < s.size) -> s[1] = cb := by subst hs; intro h; rw [zep _ _ (by omega), <- hcb, List.getD_eq_getElem?_getD, List.getElem?_eq_getElem (by omega)]; rfl
 obtain ⟨cnt, hcnt⟩ : ∃ n, cb.toNat = n := ⟨_, rfl⟩;have hc1 : (s[1]'(by omega)).toNat = cnt := by rw [h1 (by omega)]; exact hcnt
 have hcb2 : (L.getD 1 0).toNat = cnt := by rw [hcb]; exact hcnt
 have htx : ∀ (i : Nat) (W : World), i <= 1000000 -> Calls Tryz.prog 133 #[.string s, .int .i64 i] W fun e w' => e = .returned (txtAt L i) /\ w' = W := fun i W hi => hs ▸ znf L i W (by omega) hi;have Htx := zhI htx;have Hs := zhI hs;have Hc := zhI hcb2;have Hl := zhI hl;rw [hs];obtain ⟨N, hN⟩ : ∃ N, w.heap.size = N := ⟨_, rfl⟩;clear hR hs h1 hcnt hcb hcb2 htx hl;go_enter Tryz.func95, Tryz.ntmps95;go_upto_region 2 with fail
 obtain ⟨W0, hW0⟩ : ∃ W0, (w.alloc (.cells #[.slice none 0 0, .slice none 0 0, .int .i64 0] 95)).alloc (.cells #[.slice none 0 0, .slice none 0 0, .int .i64 0] 95) = W0 := ⟨_, rfl⟩;rw [hW0];have hB0 : Below w.heap.size w W0 := by subst hW0; exact (Below.one w _).alloc (by simp) _
 have xR : Bx W0 N #[.slice none 0 0, .slice none 0 0, .int .i64 0] 95 := by subst hW0 hN; exact (Bx.new w _ _).alloc _
 have xn : Bx W0 (N + 1) #[.slice none 0 0, .slice none 0 0, .int .i64 0] 95 := by subst hW0 hN; exact Bx.newAt _ _ _ _ (by simp)
 clear hW0;have cR := xR.cell;have lR := xR.lt;have fR := xR.free;have cX := xn.cell;have lX := xn.lt
 by_cases hc0 : cnt < 1
 .
  have HP : Hid (leafX L = none) := zhI (by (unfold leafX; rw [Hc.out, if_pos (.inl hc0)]));obtain ⟨Wf, hWf⟩ : ∃ Wf, ((W0.setCell ⟨N, 0, none⟩ (.slice none 0 0)).setCell ⟨N, 1, none⟩ (.slice none 0 0)).setCell ⟨N, 2, none⟩ (.int .i64 0) = Wf := ⟨_, rfl⟩;have zR : Bx Wf N #[.slice none 0 0, .slice none 0 0, .int .i64 0] 95 := by rw [<- hWf];have := ((xR.set 0 (.slice none 0 0)).set 1 (.slice none 0 0)).set 2 (.int .i64 0);simpa using this
  have zB : Below w.heap.size w Wf := by rw [<- hWf]; exact zaa (zaa (zaa hB0 (by omega)) (by omega)) (by omega)
  have HZ := zhI (zaI zR zB);have HWf := zhI hWf;clear zR zB hWf;go_wp2;rw [HWf.out];have cZ := HZ.out.1.cell;refine bodyPost_ret (v := .tuple #[.agg #[.slice none 0 0, .slice none 0 0, .int .i64 0], .bool false]) (by simp [results, Tryz.results95, go_sem, cZ]) rfl ?_;rw [<- HR.out, HP.out];exact ⟨HZ.out.2, _, _, _, rfl, fun ps h => by cases h⟩
 by_cases hc4 : 3 < cnt
 .
  have HP : Hid (leafX L = none) := zhI (by (unfold leafX; rw [Hc.out, if_pos (.inr hc4)]));obtain ⟨Wf, hWf⟩ : ∃ Wf, ((W0.setCell ⟨N, 0, none⟩ (.slice none 0 0)).setCell ⟨N, 1, none⟩ (.slice none 0 0)).setCell ⟨N, 2, none⟩ (.int .i64 0) = Wf := ⟨_, rfl⟩;have zR : Bx Wf N #[.slice none 0 0, .slice none 0 0, .int .i64 0] 95 := by rw [<- hWf];have := ((xR.set 0 (.slice none 0 0)).set 1 (.slice none 0 0)).set 2 (.int .i64 0);simpa using this
  have zB : Below w.heap.size w Wf := by rw [<- hWf]; exact zaa (zaa (zaa hB0 (by omega)) (by omega)) (by omega)
  have HZ := zhI (zaI zR zB);have HWf := zhI hWf;clear zR zB hWf;go_wp2;rw [HWf.out];have cZ := HZ.out.1.cell;refine bodyPost_ret (v := .tuple #[.agg #[.slice none 0 0, .slice none 0 0, .int .i64 0], .bool false]) (by simp [results, Tryz.results95, go_sem, cZ]) rfl ?_;rw [<- HR.out, HP.out];exact ⟨HZ.out.2, _, _, _, rfl, fun ps h => by cases h⟩
 have hcn : cnt <= 3 := by omega
 go_upto_region 6 with fail
 clear cR lR fR cX lX
 go_loopw [5, 6] (fun at_ i wr => ∃ (k p : Nat) (ps : List Kv) (o : Option Addr) (c : Nat), k <= cnt /\ i = .int .i64 k /\ at_ = .int .i64 p /\ p <= 512 /\ Hid (leafP cnt (L.drop 2) = (leafP (cnt - k) (L.drop p)).map (ps ++ ·) /\ ps.length = k) /\
  Bx wr N #[.slice none 0 0, .slice none 0 0, .int .i64 0] 95 /\ Bx wr (N + 1) #[.slice o k c, .slice none 0 0, .int .i64 0] 95 /\ wr.ownsRow w.heap.size 77 2 (.slice o k c) k (kvsC ps) /\ Below w.heap.size w wr) (fun _ i _ => cnt - (intOf i).toNat)
 case atStart => refine ⟨0, 2, [], none, 0, by omega, rfl, rfl, by omega, zhI ⟨by simp, rfl⟩, xR, xn, World.ownsRow_nil _ _ _ _, hB0⟩
 case round =>
  clear xR xn hB0;obtain ⟨k, p, ps, o, c, hk, rfl, rfl, hp, H, xR, xn, hown, hB0⟩ := hrel;have hz0 := hB0.size
  by_cases hlt : k < cnt
  .
   obtain ⟨Z, hZ⟩ : ∃ z, wr.heap.size = z := ⟨_, rfl⟩;have HZ0 := zhI hZ;have hB1 := Below.one wr (.cells #[.string ByteArray.empty, .string ByteArray.empty] 77);have HX := zhI (zaI xR (zaI xn (zaI hown hB0)));have hNZ : N + 1 < Z := by have := xn.lt; omega
   have hNZ2 : N < Z := by omega
   have hr1 := Htx.out p;clear hZ hB1 xR xn hown hB0;cases h1 : textP (L.drop p) with
   | none =>
    have ht1 : txtAt L p = .tuple #[.string (bs []), .int .i64 (-1)] := by unfold txtAt; rw [h1]
    rw [ht1] at hr1;have hneg := fun W => zhR s W (-1) (by omega);go_wp2_with fail;refine (hr1 _ (by omega)).mono ?_;rintro e W1 ⟨rfl, rfl⟩;go_wp2_with fail;refine (hneg _).mono ?_;rintro e W2 ⟨rfl, rfl⟩;go_upto_region 12 with fail
    have hbw := Below.one wr (.cells #[.string (bs []), .string (bs [])] 77);obtain ⟨W5, hW5⟩ : ∃ W5, wr.alloc (.cells #[.string (bs []), .string (bs [])] 77) = W5 := ⟨_, rfl⟩;rw [hW5] at hbw |-;have xR := HX.out.1.belowAll hbw;have xn := HX.out.2.1.belowAll hbw;have hB0 := Below.then HX.out.2.2.2 hbw hz0;clear hW5 hbw;have cR := xR.cell;have lR := xR.lt;have fR := xR.free;have cX := xn.cell;have lX := xn.lt;have HP : Hid (leafX L = none) := zhI (by (unfold leafX; rw [Hc.out, if_neg (by omega), H.out.1, za8 (by omega) (by unfold pairP; rw [h1])]; rfl));obtain ⟨Wf, hWf⟩ : ∃ Wf, ((W5.setCell ⟨N, 0, none⟩ (.slice o k c)).setCell ⟨N, 1, none⟩ (.slice none 0 0)).setCell ⟨N, 2, none⟩ (.int .i64 0) = Wf := ⟨_, rfl⟩;have zR : Bx Wf N #[.slice o k c, .slice none 0 0, .int .i64 0] 95 := by rw [<- hWf];have := ((xR.set 0 (.slice o k c)).set 1 (.slice none 0 0)).set 2 (.int .i64 0);simpa using this
    have zB : Below w.heap.size w Wf := by rw [<- hWf]; exact zaa (zaa (zaa hB0 (by omega)) (by omega)) (by omega)
    have HZ := zhI (zaI zR zB);have HWf := zhI hWf;clear zR zB hWf;go_wp2;rw [HWf.out];have cZ := HZ.out.1.cell;refine bodyPost_ret (v := .tuple #[.agg #[.slice o k c, .slice none 0 0, .int .i64 0], .bool false]) (by simp [results, Tryz.results95, go_sem, cZ]) rfl ?_;rw [<- HR.out, HP.out];exact ⟨HZ.out.2, _, _, _, rfl, fun ps h => by cases h⟩
   | some q1 =>
    obtain ⟨ky, r⟩ := q1;obtain ⟨hr, hp1, hkl⟩ := zfu h1;have ht1 : txtAt L p = .tuple #[.string (bs ky), .int .i64 ((p + 1 + ky.length : Nat) : Int)] := by unfold txtAt; rw [h1]
    obtain ⟨p1, hp1e⟩ : ∃ x, p + 1 + ky.length = x := ⟨_, rfl⟩;obtain ⟨K, hK⟩ : ∃ K, bs ky = K := ⟨_, rfl⟩;have hKz : K.size = ky.length := by rw [<- hK, zaj]
    rw [hp1e] at hr hp1 ht1;rw [hK] at ht1;rw [ht1] at hr1;have hLl := Hl.out;have hp1c : p1 <= 512 := by omega
    have hr2 := Htx.out p1;cases h2 : textP (L.drop p1) with
    | none =>
     have ht2 : txtAt L p1 = .tuple #[.string (bs []), .int .i64 (-1)] := by unfold txtAt; rw [h2]
     rw [ht2] at hr2;go_wp2_with fail;refine (hr1 _ (by omega)).mono ?_;rintro e W1 ⟨rfl, rfl⟩;go_wp2_with fail;refine (hr2 _ (by omega)).mono ?_;rintro e W2 ⟨rfl, rfl⟩;go_upto_region 12 with fail
     have hbw := Below.one wr (.cells #[.string (K), .string (bs [])] 77);obtain ⟨W5, hW5⟩ : ∃ W5, wr.alloc (.cells #[.string (K), .string (bs [])] 77) = W5 := ⟨_, rfl⟩;rw [hW5] at hbw |-;have xR := HX.out.1.belowAll hbw;have xn := HX.out.2.1.belowAll hbw;have hB0 := Below.then HX.out.2.2.2 hbw hz0;clear hW5 hbw;have cR := xR.cell;have lR := xR.lt;have fR := xR.free;have cX := xn.cell;have lX := xn.lt;have HP : Hid (leafX L = none) := zhI (by (unfold leafX; rw [Hc.out, if_neg (by omega), H.out.1, za8 (by omega) (by unfold pairP; rw [h1]; simp only; rw [hr, h2])]; rfl));obtain ⟨Wf, hWf⟩ : ∃ Wf, ((W5.setCell ⟨N, 0, none⟩ (.slice o k c)).setCell ⟨N, 1, none⟩ (.slice none 0 0)).setCell ⟨N, 2, none⟩ (.int .i64 0) = Wf := ⟨_, rfl⟩;have zR : Bx Wf N #[.slice o k c, .slice none 0 0, .int .i64 0] 95 := by rw [<- hWf];have := ((xR.set 0 (.slice o k c)).set 1 (.slice none 0 0)).set 2 (.int .i64 0);simpa using this
     have zB : Below w.heap.size w Wf := by rw [<- hWf]; exact zaa (zaa (zaa hB0 (by omega)) (by omega)) (by omega)
     have HZ := zhI (zaI zR zB);have HWf := zhI hWf;clear zR zB hWf;go_wp2;rw [HWf.out];have cZ := HZ.out.1.cell;refine bodyPost_ret (v := .tuple #[.agg #[.slice o k c, .slice none 0 0, .int .i64 0], .bool false]) (by simp [results, Tryz.results95, go_sem, cZ]) rfl ?_;rw [<- HR.out, HP.out];exact ⟨HZ.out.2, _, _, _, rfl, fun ps h => by cases h⟩
    | some q2 =>
     obtain ⟨vl, r2⟩ := q2;obtain ⟨hra, hp2, hvl⟩ := zfu h2;have ht2 : txtAt L p1 = .tuple #[.string (bs vl), .int .i64 ((p1 + 1 + vl.length : Nat) : Int)] := by unfold txtAt; rw [h2]
     obtain ⟨p2, hp2e⟩ : ∃ x, p1 + 1 + vl.length = x := ⟨_, rfl⟩;obtain ⟨V, hV⟩ : ∃ K, bs vl = K := ⟨_, rfl⟩;have hVz : V.size = vl.length := by rw [<- hV, zaj]
     rw [hp2e] at hra hp2 ht2;rw [hV] at ht2;rw [ht2] at hr2;have hp2c : p2 <= 512 := by omega
     have hp2n : ¬ (p2 : Int) < 0 := by omega
     by_cases g1 : 48 < K.size
     .
      have HW : Hid (pairP (L.drop p) = none) := zhI (by unfold pairP; rw [h1]; simp only; rw [hr, h2]; simp only; rw [if_pos (.inl (by omega))]);clear h1 h2 hr hra hK hV hp1e hp2e hKz hVz hkl hvl hLl hp1 hp2;go_wp2_with fail;refine (hr1 _ (by omega)).mono ?_;rintro e W1 ⟨rfl, rfl⟩;go_wp2_with fail;refine (hr2 _ (by omega)).mono ?_;rintro e W2 ⟨rfl, rfl⟩;go_upto_region 12 with fail
      have hbw := Below.one wr (.cells #[.string (K), .string (V)] 77);obtain ⟨W5, hW5⟩ : ∃ W5, wr.alloc (.cells #[.string (K), .string (V)] 77) = W5 := ⟨_, rfl⟩;rw [hW5] at hbw |-;have xR := HX.out.1.belowAll hbw;have xn := HX.out.2.1.belowAll hbw;have hB0 := Below.then HX.out.2.2.2 hbw hz0;clear hW5 hbw;have cR := xR.cell;have lR := xR.lt;have fR := xR.free;have cX := xn.cell;have lX := xn.lt;have HP : Hid (leafX L = none) := zhI (by (unfold leafX; rw [Hc.out, if_neg (by omega), H.out.1, za8 (by omega) HW.out]; rfl));obtain ⟨Wf, hWf⟩ : ∃ Wf, ((W5.setCell ⟨N, 0, none⟩ (.slice o k c)).setCell ⟨N, 1, none⟩ (.slice none 0 0)).setCell ⟨N, 2, none⟩ (.int .i64 0) = Wf := ⟨_, rfl⟩;have zR : Bx Wf N #[.slice o k c, .slice none 0 0, .int .i64 0] 95 := by rw [<- hWf];have := ((xR.set 0 (.slice o k c)).set 1 (.slice none 0 0)).set 2 (.int .i64 0);simpa using this
      have zB : Below w.heap.size w Wf := by rw [<- hWf]; exact zaa (zaa (zaa hB0 (by omega)) (by omega)) (by omega)
      have HZ := zhI (zaI zR zB);have HWf := zhI hWf;clear zR zB hWf;go_wp2;rw [HWf.out];have cZ := HZ.out.1.cell;refine bodyPost_ret (v := .tuple #[.agg #[.slice o k c, .slice none 0 0, .int .i64 0], .bool false]) (by simp [results, Tryz.results95, go_sem, cZ]) rfl ?_;rw [<- HR.out, HP.out];exact ⟨HZ.out.2, _, _, _, rfl, fun ps h => by cases h⟩
     by_cases g2 : 80 < V.size
     .
      have HW : Hid (pairP (L.drop p) = none) := zhI (by unfold pairP; rw [h1]; simp only; rw [hr, h2]; simp only; rw [if_pos (.inr (by omega))]);clear h1 h2 hr hra hK hV hp1e hp2e hKz hVz hkl hvl hLl hp1 hp2;go_wp2_with fail;refine (hr1 _ (by omega)).mono ?_;rintro e W1 ⟨rfl, rfl⟩;go_wp2_with fail;refine (hr2 _ (by omega)).mono ?_;rintro e W2 ⟨rfl, rfl⟩;go_upto_region 12 with fail
      have hbw := Below.one wr (.cells #[.string (K), .string (V)] 77);obtain ⟨W5, hW5⟩ : ∃ W5, wr.alloc (.cells #[.string (K), .string (V)] 77) = W5 := ⟨_, rfl⟩;rw [hW5] at hbw |-;have xR := HX.out.1.belowAll hbw;have xn := HX.out.2.1.belowAll hbw;have hB0 := Below.then HX.out.2.2.2 hbw hz0;clear hW5 hbw;have cR := xR.cell;have lR := xR.lt;have fR := xR.free;have cX := xn.cell;have lX := xn.lt;have HP : Hid (leafX L = none) := zhI (by (unfold leafX; rw [Hc.out, if_neg (by omega), H.out.1, za8 (by omega) HW.out]; rfl));obtain ⟨Wf, hWf⟩ : ∃ Wf, ((W5.setCell ⟨N, 0, none⟩ (.slice o k c)).setCell ⟨N, 1, none⟩ (.slice none 0 0)).setCell ⟨N, 2, none⟩ (.int .i64 0) = Wf := ⟨_, rfl⟩;have zR : Bx Wf N #[.slice o k c, .slice none 0 0, .int .i64 0] 95 := by rw [<- hWf];have := ((xR.set 0 (.slice o k c)).set 1 (.slice none 0 0)).set 2 (.int .i64 0);simpa using this
      have zB : Below w.heap.size w Wf := by rw [<- hWf]; exact zaa (zaa (zaa hB0 (by omega)) (by omega)) (by omega)
      have HZ := zhI (zaI zR zB);have HWf := zhI hWf;clear zR zB hWf;go_wp2;rw [HWf.out];have cZ := HZ.out.1.cell;refine bodyPost_ret (v := .tuple #[.agg #[.slice o k c, .slice none 0 0, .int .i64 0], .bool false]) (by simp [results, Tryz.results95, go_sem, cZ]) rfl ?_;rw [<- HR.out, HP.out];exact ⟨HZ.out.2, _, _, _, rfl, fun ps h => by cases h⟩
     have hpp : pairP (L.drop p) = some ((K, V), L.drop p2) := by unfold pairP; rw [h1]; simp only; rw [hr, h2]; simp only; rw [if_neg (by omega), hK, hV, hra]
     have HP : Hid (leafP cnt (L.drop 2) = (leafP (cnt - (k + 1)) (L.drop p2)).map ((ps ++ [(K, V)]) ++ ·) /\ (ps ++ [(K, V)]).length = k + 1) := zhI ⟨by
      rw [H.out.1, zfB (by omega) hpp, show cnt - k - 1 = cnt - (k + 1) by omega, Option.map_map];congr 1;funext y
      simp, by rw [zlA, H.out.2]; rfl⟩
     clear h1 h2 hr hra hK hV hp1e hp2e hKz hVz hkl hvl hLl hp1 hp2 hpp;go_wp2_with fail;refine (hr1 _ (by omega)).mono ?_;rintro e W1 ⟨rfl, rfl⟩;go_wp2_with fail;refine (hr2 _ (by omega)).mono ?_;rintro e W2 ⟨rfl, rfl⟩;go_upto_region 13 with fail
     have hbw := Below.one wr (.cells #[.string K, .string V] 77);have xx := Bx.new wr #[.string K, .string V] 77;obtain ⟨W5, hW5⟩ : ∃ W5, wr.alloc (.cells #[.string K, .string V] 77) = W5 := ⟨_, rfl⟩;rw [hW5] at hbw xx |-;rw [HZ0.out] at xx |-;have xR5 := HX.out.1.belowAll hbw;have xn5 := HX.out.2.1.belowAll hbw;have hown5 := zae HX.out.2.2.1 hbw;have hB5 := Below.then HX.out.2.2.2 hbw hz0;clear hW5 hbw hr1 hr2 HX;have hz5 := hB5.size;have cX := xn5.cell;have lX := xn5.lt;have fX := xn5.free;have cx := xx.cell;have lx := xx.lt;have H1c : Hid (∀ u ∈ [Value.string K, Value.string V], u.oneCell' = true) := zhI (by intro u hu; simp at hu; rcases hu with rfl | rfl <;> rfl)
     have HRW : Hid (RowAt (· = W5.heap.size) (W5.alloc (.cells #[.string K, .string V] 77)) (some ⟨W5.heap.size, 0, none⟩) [.string K, .string V]) := zhI (RowAt.bx (Bx.new W5 #[.string K, .string V] 77));have hown5a := hown5.alloc (.cells #[.string K, .string V] 77);have xn5a := xn5.alloc (.cells #[.string K, .string V] 77);have xR5a := xR5.alloc (.cells #[.string K, .string V] 77);have hB5a := hB5.alloc hz5 (.cells #[.string K, .string V] 77);go_wp2_with (at_builtin; refine zau rfl _ _ 41 rfl w.heap.size 77 ip _ 2 32 Tryz.underlying41 Hi.out.1 Hi.out.2.1 Hi.out.2.2.1 Hi.out.2.2.2 rfl (by decide) (.slice o k c) k (kvsC ps) rfl hown5a (some ⟨W5.heap.size, 0, none⟩) 1 1 [.string K, .string V] rfl (by intro e; cases e) rfl HRW.out H1c.out (by unfold maxLen; omega) (by omega) (by simp; omega) ?_; intro v3 w3 hown3 hg3; obtain ⟨o3, c3, rfl⟩ := zaR hown3; have xn3 := xn5a.grown hg3 (fun e => zab hown5a xn5a (by decide) e.symm); have xR3 := xR5a.grown hg3 (fun e => zab hown5a xR5a (by decide) e.symm); have cX3 := xn3.cell; have fX3 := xn3.free; have lX3 := xn3.lt);go_roundw
     case rel =>
      refine ⟨k + 1, p2, ps ++ [(K, V)], o3, c3, by omega, by go_num, rfl, hp2c, HP, ?_, ?_, ?_, ?_⟩
      . exact xR3.setO (a := ⟨N + 1, 0, none⟩) (by simp) _
      . have := xn3.set 0 (.slice o3 (k + 1) c3);simpa using this
      .
       have e : kvsC (ps ++ [(K, V)]) = kvsC ps ++ [.string K, .string V] := by rw [zbP]; rfl
       rw [e];exact zac hown3 (a := ⟨N + 1, 0, none⟩) (zab hown3 xn3 (by decide)) _
      . exact zaa (Below.grownOwn hB5a hown5a hg3 (by simp; omega)) (by omega)
     case measure => simp [intOf]; omega
  .
   obtain rfl : k = cnt := by omega
   have hP : leafP k (L.drop 2) = some ps := by rw [H.out.1, Nat.sub_self, leafP];simp
   obtain ⟨hlp, hko⟩ := zbn hP;have HPP := zhI (zaI hP hko);have HX := zhI (zaI xR (zaI xn (zaI hown hB0)));have HPl : Hid (ps.length = k) := zhI hlp;have hnd : NdS (fun b => w.heap.size <= b /\ b < wr.heap.size) wr (ndC o c none 0 (.mk ps [] 0)) (.mk ps [] 0) := by
    obtain ⟨o', c', e, hs, hrow, -⟩ := zai hown;obtain ⟨rfl, rfl⟩ : o = o' /\ c = c' := by simpa using e
    exact NdS.leaf (by show SlW o ps.length c; rw [hlp]; exact hs) hrow
   have hbyt := fun W (hb : Below wr.heap.size wr W) => zid (.mk ps [] 0) o none c 0 W ((hnd.same (T := fun b => w.heap.size <= b /\ b < wr.heap.size) (fun b hb' => hb.block b hb'.2) (fun b hb' => hb')).c fun b hb' => by have := hb.size; omega) (.inl ⟨rfl, by show ps.length <= 3; omega, hko⟩);obtain ⟨sB, hsB⟩ : ∃ y, bs (encD (.mk ps [] 0)) = y := ⟨_, rfl⟩;rw [hsB] at hbyt;simp only [ndC, Nd.ps, Nd.kids, Nd.page, hlp, List.length_nil] at hbyt;have Hbyt := zhI hbyt;have HsB := zhI hsB;have cR := xR.cell;have lR := xR.lt;have fR := xR.free;have cX := xn.cell;have lX := xn.lt;clear hbyt hnd hsB hP hlp hko xR xn hown hB0;obtain ⟨eq1, heq1⟩ : ∃ y, (sB.toList == s.toList) = y := ⟨_, rfl⟩;have Hlx : Hid (leafX L = if eq1 = true then some ps else none) := zhI (by
    have e : eq1 = decide (padZ (encLf ps) = L) := by
     rw [<- heq1, <- HsB.out, <- Hs.out, ziO, ziO];show (padZ (encLf ps) == L) = _
     by_cases h : padZ (encLf ps) = L
     . rw [decide_eq_true h]; exact beq_iff_eq.2 h
     . rw [decide_eq_false h]; exact beq_eq_false_iff_ne.2 h
    rw [e];unfold leafX;rw [Hc.out, if_neg (by omega), HPP.out.1]
    simp)
   have Heq := zhI heq1;go_upto_region 14 with fail
   refine zah #[false, false, false, false, false, false, false] 7 (by kernel_rfl) (by rfl) rfl ?_;refine wpAny_take (i := 3) (v := (.string s)) rfl (by kernel_rfl) (by kernel_rfl) (by kernel_rfl) (fun _ _ _ h => h) (Or.inl ⟨by rfl, fun w => by first | rfl | (go_simp; try with_reducible rfl)⟩) ?_;simp only [zgP, Act.put, zsP];refine wpAny_ready (rs := [0, 1]) (by kernel_rfl) (by simp) ?_;refine AllReady.cons rfl (fun K hK => ?_) (AllReady.cons rfl (fun K hK => ?_) AllReady.nil)
   .
    go_simp;refine hK _ _ ?_;clear hK K;simp only [List.setIfInBounds_toArray, List.set_cons_zero];refine wpAny_ready (rs := [1]) (by kernel_rfl) (by simp) ?_;refine AllReady.cons rfl (fun K hK => ?_) AllReady.nil;go_simp;refine hK _ _ ?_;clear hK K;simp only [zsP];refine wpAny_ready (rs := [2]) (by kernel_rfl) (by simp) ?_;refine AllReady.cons rfl (fun K hK => ?_) AllReady.nil;go_simp;have hdr : Below wr.heap.size wr wr.drew := ⟨rfl, rfl, rfl, Nat.le_refl _, fun _ _ => rfl⟩;refine (Hbyt.out _ hdr).mono ?_;rintro e W2 ⟨rfl, hb2'⟩;have hb2 : Below wr.heap.size wr W2 := hdr.trans hb2';clear hdr hb2';refine hK _ _ ?_;clear hK K;simp only [zsP];refine wpAny_take (i := 4) (v := ?_) rfl (by kernel_rfl) (by kernel_rfl) (by kernel_rfl) (fun _ _ _ h => h) (Or.inl ⟨by rfl, ?_⟩) ?_;rotate_left
    . intro w; go_simp; try with_reducible rfl
    simp only [Act.put, zsP]
    (try rw [heq1])
    clear heq1;have xR2 := HX.out.1.belowAll hb2;have xn2 := HX.out.2.1.belowAll hb2;have hown2 := zae HX.out.2.2.1 hb2;have hB2 := Below.then HX.out.2.2.2 hb2 hz0;have HY := zhI (zaI xR2 (zaI hown2 hB2));clear cR lR fR cX lX;have cX := xn2.cell;have lX := xn2.lt;have cR := xR2.cell;have lR := xR2.lt;have fR := xR2.free;clear hb2 xR2 xn2 hown2 hB2;refine wpAny_ready (rs := [5]) (by kernel_rfl) (by simp) ?_;refine AllReady.cons rfl (fun K hK => ?_) AllReady.nil;go_simp;refine hK _ _ ?_;clear hK K;refine wpAny_ready (rs := [6]) (by kernel_rfl) (by simp) ?_;refine AllReady.cons rfl (fun K hK => ?_) AllReady.nil;go_simp;refine hK _ _ ?_;clear hK K;refine wpAny_done (by kernel_rfl) ?_ _;obtain ⟨Wf, hWf⟩ : ∃ Wf, ((W2.setCell ⟨N, 0, none⟩ (.slice o k c)).setCell ⟨N, 1, none⟩ (.slice none 0 0)).setCell ⟨N, 2, none⟩ (.int .i64 0) = Wf := ⟨_, rfl⟩;have hne : (Value.slice o k c).ownBlock ≠ some N := zab HY.out.2.1 HY.out.1 (by decide);have zR : Bx Wf N #[.slice o k c, .slice none 0 0, .int .i64 0] 95 := by rw [<- hWf];have := ((HY.out.1.set 0 (.slice o k c)).set 1 (.slice none 0 0)).set 2 (.int .i64 0);simpa using this
    have zO : Wf.ownsRow w.heap.size 77 2 (.slice o k c) k (kvsC ps) := by rw [<- hWf];exact zac (a := ⟨N, 2, none⟩) (zac (a := ⟨N, 1, none⟩) (zac (a := ⟨N, 0, none⟩) HY.out.2.1 hne _) hne _) hne _
    have zB : Below w.heap.size w Wf := by rw [<- hWf]; exact zaa (zaa (zaa HY.out.2.2 (by omega)) (by omega)) (by omega)
    have HZ := zhI (zaI zR (zaI zO zB));clear cR lR fR cX lX hne zR zO zB;rw [hWf];have HWf := zhI hWf;clear hWf;go_wp2;have cZ := HZ.out.1.cell;refine bodyPost_ret (v := .tuple #[.agg #[.slice o k c, .slice none 0 0, .int .i64 0], .bool eq1]) (by simp [results, Tryz.results95, go_sem, cZ]) rfl ?_;rw [<- HR.out, Hlx.out];refine ⟨HZ.out.2.2, _, _, _, by cases eq1 <;> rfl, fun ps' h => ?_⟩
    cases eq1 with
    | false => cases h
    | true =>
     obtain rfl : ps = ps' := by simpa using h
     obtain ⟨o', c', e, hs, hrow, -⟩ := zai HZ.out.2.1;obtain ⟨rfl, rfl⟩ : o = o' /\ c = c' := by simpa using e
     have hn := NdS.leaf (page := 0) (by show SlW o ps.length c; rw [HPl.out]; exact hs) hrow;rw [HPl.out] at hn;exact hn
   .
    go_simp;refine hK _ _ ?_;clear hK K;simp only [zsP];refine wpAny_ready (rs := [0, 2]) (by kernel_rfl) (by simp) ?_;refine AllReady.cons rfl (fun K hK => ?_) (AllReady.cons rfl (fun K hK => ?_) AllReady.nil)
    .
     go_simp;refine hK _ _ ?_;clear hK K;simp only [List.setIfInBounds_toArray, List.set_cons_zero];refine wpAny_ready (rs := [2]) (by kernel_rfl) (by simp) ?_;refine AllReady.cons rfl (fun K hK => ?_) AllReady.nil;go_simp;have hdr : Below wr.heap.size wr wr.drew := ⟨rfl, rfl, rfl, Nat.le_refl _, fun _ _ => rfl⟩;refine (Hbyt.out _ hdr).mono ?_;rintro e W2 ⟨rfl, hb2'⟩;have hb2 : Below wr.heap.size wr W2 := hdr.trans hb2';clear hdr hb2';refine hK _ _ ?_;clear hK K;simp only [zsP];refine wpAny_take (i := 4) (v := ?_) rfl (by kernel_rfl) (by kernel_rfl) (by kernel_rfl) (fun _ _ _ h => h) (Or.inl ⟨by rfl, ?_⟩) ?_;rotate_left
     . intro w; go_simp; try with_reducible rfl
     simp only [Act.put, zsP]
     (try rw [heq1])
     clear heq1;have xR2 := HX.out.1.belowAll hb2;have xn2 := HX.out.2.1.belowAll hb2;have hown2 := zae HX.out.2.2.1 hb2;have hB2 := Below.then HX.out.2.2.2 hb2 hz0;have HY := zhI (zaI xR2 (zaI hown2 hB2));clear cR lR fR cX lX;have cX := xn2.cell;have lX := xn2.lt;have cR := xR2.cell;have lR := xR2.lt;have fR := xR2.free;clear hb2 xR2 xn2 hown2 hB2;refine wpAny_ready (rs := [5]) (by kernel_rfl) (by simp) ?_;refine AllReady.cons rfl (fun K hK => ?_) AllReady.nil;go_simp;refine hK _ _ ?_;clear hK K;refine wpAny_ready (rs := [6]) (by kernel_rfl) (by simp) ?_;refine AllReady.cons rfl (fun K hK => ?_) AllReady.nil;go_simp;refine hK _ _ ?_;clear hK K;refine wpAny_done (by kernel_rfl) ?_ _;obtain ⟨Wf, hWf⟩ : ∃ Wf, ((W2.setCell ⟨N, 0, none⟩ (.slice o k c)).setCell ⟨N, 1, none⟩ (.slice none 0 0)).setCell ⟨N, 2, none⟩ (.int .i64 0) = Wf := ⟨_, rfl⟩;have hne : (Value.slice o k c).ownBlock ≠ some N := zab HY.out.2.1 HY.out.1 (by decide);have zR : Bx Wf N #[.slice o k c, .slice none 0 0, .int .i64 0] 95 := by rw [<- hWf];have := ((HY.out.1.set 0 (.slice o k c)).set 1 (.slice none 0 0)).set 2 (.int .i64 0);simpa using this
     have zO : Wf.ownsRow w.heap.size 77 2 (.slice o k c) k (kvsC ps) := by rw [<- hWf];exact zac (a := ⟨N, 2, none⟩) (zac (a := ⟨N, 1, none⟩) (zac (a := ⟨N, 0, none⟩) HY.out.2.1 hne _) hne _) hne _
     have zB : Below w.heap.size w Wf := by rw [<- hWf]; exact zaa (zaa (zaa HY.out.2.2 (by omega)) (by omega)) (by omega)
     have HZ := zhI (zaI zR (zaI zO zB));clear cR lR fR cX lX hne zR zO zB;rw [hWf];have HWf := zhI hWf;clear hWf;go_wp2;have cZ := HZ.out.1.cell;refine bodyPost_ret (v := .tuple #[.agg #[.slice o k c, .slice none 0 0, .int .i64 0], .bool eq1]) (by simp [results, Tryz.results95, go_sem, cZ]) rfl ?_;rw [<- HR.out, Hlx.out];refine ⟨HZ.out.2.2, _, _, _, by cases eq1 <;> rfl, fun ps' h => ?_⟩
     cases eq1 with
     | false => cases h
     | true =>
      obtain rfl : ps = ps' := by simpa using h
      obtain ⟨o', c', e, hs, hrow, -⟩ := zai HZ.out.2.1;obtain ⟨rfl, rfl⟩ : o = o' /\ c = c' := by simpa using e
      have hn := NdS.leaf (page := 0) (by show SlW o ps.length c; rw [HPl.out]; exact hs) hrow;rw [HPl.out] at hn;exact hn
    .
     go_simp;have hdr : Below wr.heap.size wr wr.drew := ⟨rfl, rfl, rfl, Nat.le_refl _, fun _ _ => rfl⟩;refine (Hbyt.out _ hdr).mono ?_;rintro e W2 ⟨rfl, hb2'⟩;have hb2 : Below wr.heap.size wr W2 := hdr.trans hb2';clear hdr hb2';refine hK _ _ ?_;clear hK K;simp only [zsP];refine wpAny_take (i := 4) (v := ?_) rfl (by kernel_rfl) (by kernel_rfl) (by kernel_rfl) (fun _ _ _ h => h) (Or.inl ⟨by rfl, ?_⟩) ?_;rotate_left
     . intro w; go_simp; try with_reducible rfl
     simp only [Act.put, zsP]
     (try rw [heq1])
     clear heq1;have xR2 := HX.out.1.belowAll hb2;have xn2 := HX.out.2.1.belowAll hb2;have hown2 := zae HX.out.2.2.1 hb2;have hB2 := Below.then HX.out.2.2.2 hb2 hz0;have HY := zhI (zaI xR2 (zaI hown2 hB2));clear cR lR fR cX lX;have cX := xn2.cell;have lX := xn2.lt;have cR := xR2.cell;have lR := xR2.lt;have fR := xR2.free;clear hb2 xR2 xn2 hown2 hB2;refine wpAny_ready (rs := [0]) (by kernel_rfl) (by simp) ?_;refine AllReady.cons rfl (fun K hK => ?_) AllReady.nil;go_simp;refine hK _ _ ?_;clear hK K;simp only [List.setIfInBounds_toArray, List.set_cons_zero];refine wpAny_ready (rs := [5]) (by kernel_rfl) (by simp) ?_;refine AllReady.cons rfl (fun K hK => ?_) AllReady.nil;go_simp;refine hK _ _ ?_;clear hK K;refine wpAny_ready (rs := [6]) (by kernel_rfl) (by simp) ?_;refine AllReady.cons rfl (fun K hK => ?_) AllReady.nil;go_simp;refine hK _ _ ?_;clear hK K;refine wpAny_done (by kernel_rfl) ?_ _;obtain ⟨Wf, hWf⟩ : ∃ Wf, ((W2.setCell ⟨N, 0, none⟩ (.slice o k c)).setCell ⟨N, 1, none⟩ (.slice none 0 0)).setCell ⟨N, 2, none⟩ (.int .i64 0) = Wf := ⟨_, rfl⟩;have hne : (Value.slice o k c).ownBlock ≠ some N := zab HY.out.2.1 HY.out.1 (by decide);have zR : Bx Wf N #[.slice o k c, .slice none 0 0, .int .i64 0] 95 := by rw [<- hWf];have := ((HY.out.1.set 0 (.slice o k c)).set 1 (.slice none 0 0)).set 2 (.int .i64 0);simpa using this
     have zO : Wf.ownsRow w.heap.size 77 2 (.slice o k c) k (kvsC ps) := by rw [<- hWf];exact zac (a := ⟨N, 2, none⟩) (zac (a := ⟨N, 1, none⟩) (zac (a := ⟨N, 0, none⟩) HY.out.2.1 hne _) hne _) hne _
     have zB : Below w.heap.size w Wf := by rw [<- hWf]; exact zaa (zaa (zaa HY.out.2.2 (by omega)) (by omega)) (by omega)
     have HZ := zhI (zaI zR (zaI zO zB));clear cR lR fR cX lX hne zR zO zB;rw [hWf];have HWf := zhI hWf;clear hWf;go_wp2;have cZ := HZ.out.1.cell;refine bodyPost_ret (v := .tuple #[.agg #[.slice o k c, .slice none 0 0, .int .i64 0], .bool eq1]) (by simp [results, Tryz.results95, go_sem, cZ]) rfl ?_;rw [<- HR.out, Hlx.out];refine ⟨HZ.out.2.2, _, _, _, by cases eq1 <;> rfl, fun ps' h => ?_⟩
     cases eq1 with
     | false => cases h
     | true =>
      obtain rfl : ps = ps' := by simpa using h
      obtain ⟨o', c', e, hs, hrow, -⟩ := zai HZ.out.2.1;obtain ⟨rfl, rfl⟩ : o = o' /\ c = c' := by simpa using e
      have hn := NdS.leaf (page := 0) (by show SlW o ps.length c; rw [HPl.out]; exact hs) hrow;rw [HPl.out] at hn;exact hn
theorem zfI : Maps.Keyed Tryz.prog 3 := Maps.int_keyed Tryz.underlying3
def PgOk (p : Int) : Prop := -9223372036854775808 <= p /\ p <= 9223372036854775807
theorem wf_pg {p : Int} (h : PgOk p) : (Lit.int .i64 p).wf = true := WalkArith.wf_i64 h
theorem keyI {p : Int} (h : PgOk p) : keyOf Tryz.prog 3 (.int .i64 p) = some (.int .i64 p) := Maps.keyOf_int_mk Tryz.underlying3 (wf_pg h)
def MapI (w : World) (b n : Nat) (l : List Int) : Prop :=
 ∃ D : DataW Unit, w.ownsMap Tryz.prog 3 (plainElem Tryz.prog 4) b n D /\ ∀ p, PgOk p -> D.atKey (.int .i64 p) (.lit (.bool false)) = .lit (.bool (decide (p ∈ l)))
theorem MapI.made (w : World) : MapI (w.alloc (.map #[] 0)) w.heap.size 0 [] := ⟨.map [], World.ownsMap_made _ _ _ _, fun _d _ => rfl⟩
theorem MapI.kept {w w' : World} {b n : Nat} {l : List Int} {row : Option Nat} (h : MapI w b n l) (hg : w.grownBy w' row) (hne : some b ≠ row) : MapI w' b n l := by
 obtain ⟨D, h1, h2⟩ := h;exact ⟨D, h1.kept hg hne, h2⟩
theorem MapI.lt {w : World} {b n : Nat} {l : List Int} (h : MapI w b n l) : b < w.heap.size := by
 obtain ⟨D, h1, _⟩ := h;exact h1.lt
theorem grownBy_below {B : Nat} {w w' : World} (h : Below B w w') (hB : w.heap.size <= B) (row : Option Nat) : w.grownBy w' row := ⟨h.os, h.tape, h.output, h.size, fun k hk _ => h.block k (znL hk hB)⟩
theorem MapI.below {w w' : World} {b n : Nat} {l : List Int} (h : MapI w b n l) (hb : Below w.heap.size w w') : MapI w' b n l := h.kept (grownBy_below hb (Nat.le_refl _) none) (by simp)
section
variable {ops : Array Oper} {rest : List Oper} {o : Oper} {a : Act} {Q : Exit -> Act -> World -> Prop} {w : World}
theorem zeG (hg : o.guard = none) (m x v : Operand) (hop : o.op = Op.mapUpdate 119 m x v) {b n : Nat} {l : List Int} (hm : a.eval m = .map (some b)) (hown : MapI w b n l) (hn : n < maxLen)
  (p : Int) (hp : PgOk p) (hx : a.eval x = .int .i64 p) (hv : a.eval v = .bool true) (hK : ∀ w', MapI w' b (n + 1) (l ++ [p]) -> w.grownBy w' (some b) -> wpList Tryz.prog ops Q rest (a.put o.dst undef) w') : wpList Tryz.prog ops Q (o :: rest) a w := by
 obtain ⟨D, h1, h2⟩ := hown;refine wpList_mapUpdate_own w hg m x v 119 hop 3 4 zfI Tryz.underlying119 _ b n D hm h1 hn (.int .i64 p) (.bool true) (.int .i64 p) hx hv (keyI hp) (.lit (.bool true)) [] (plainElem_bool Tryz.underlying4 true) fun w' ho hgr => hK w' ⟨_, ho, fun e he => ?_⟩ hgr
 by_cases hed : e = p
 . subst hed;rw [Maps.atKey_put_same h1.isMap (zfI.key (keyI hp))];simp
 . rw [Maps.atKey_put_other (fun h => hed (by injection h)), h2 e he];simp [hed]
theorem zjK (w : World) : (zeroValue 4).run Tryz.prog w = .ok (.bool false) w := by kernel_rfl
theorem ziz {b n : Nat} {l : List Int} (h : MapI w b n l) (p : Int) (hp : PgOk p) : (Instr.lookup 119 (.map (some b)) (.int .i64 p) false).run Tryz.prog w = .ok (.bool (decide (p ∈ l))) w := by
 obtain ⟨D, h1, h2⟩ := h;obtain ⟨v, ps, hr, hv⟩ := h1.lookup zfI Tryz.underlying119 (zjK w) (plainElem_bool Tryz.underlying4 false) (keyI hp);rw [h2 p hp] at hv;rw [hr];unfold plainElem at hv;simp only [Tryz.underlying4] at hv;cases v <;> simp at hv
 rw [hv.1]
end
end Go.Proofs.YtlefmmhlpgmbjaaGreat
