/- quiltref42.Open = openX. quiltref42.SamePairs, sameInts, Same; lists of pairs in memory. -/
import Derived.Test.YtlefmmhlpgmbjaaGreatS23
import Derived.Test.YtlefmmhlpgmbjaaGreatS12
import Derived.Test.YtlefmmhlpgmbjaaGreatS24
import Derived.Test.YtlefmmhlpgmbjaaGreatS10
import Derived.Test.YtlefmmhlpgmbjaaGreatS03
import Derived.Test.YtlefmmhlpgmbjaaGreatS05
import Derived.Laws.StructEq
import Derived.Test.YtlefmmhlpgmbjaaGreatS01
namespace Go.Proofs.YtlefmmhlpgmbjaaGreat
set_option maxRecDepth 100000
open Go.RowKit
theorem zfv {d : Dsk} {frm til : Int} {V0 n0 V1 n1 : Nat} (h0 : (hdrX (pageL d frm) frm til 0).getD (0, 0) = (V0, n0)) (h1 : (hdrX (pageL d (frm + 1)) frm til 1).getD (0, 0) = (V1, n1)) :
  headX d frm til = if V0 < V1 then (V1, n1) else (V0, n0) := by
 unfold headX;cases e0 : hdrX (pageL d frm) frm til 0 with
 | none =>
  rw [e0] at h0;simp only [Option.getD_none, Prod.mk.injEq] at h0;obtain ⟨rfl, rfl⟩ := h0;cases e1 : hdrX (pageL d (frm + 1)) frm til 1 with
  | none => rw [e1] at h1;simp only [Option.getD_none, Prod.mk.injEq] at h1;obtain ⟨rfl, rfl⟩ := h1;rfl
  | some y => rw [e1] at h1;obtain rfl : y = (V1, n1) := h1;have := (zcp e1).1;rw [if_pos (by omega)];rfl
 | some x =>
  rw [e0] at h0;obtain rfl : x = (V0, n0) := h0;cases e1 : hdrX (pageL d (frm + 1)) frm til 1 with
  | none => rw [e1] at h1;simp only [Option.getD_none, Prod.mk.injEq] at h1;obtain ⟨rfl, rfl⟩ := h1;rw [if_neg (by omega)];rfl
  | some y => rw [e1] at h1;obtain rfl : y = (V1, n1) := h1;rfl
theorem zgG (d : Dsk) (v : Value) (frm til : Int) (k : Nat) (hc : chk d = 0) (hf : fits5 d frm til = true) (hk : k <= 1) {V n : Nat} (hh : (hdrX (pageL d (frm + k)) frm til k).getD (0, 0) = (V, n)) (w : World) (hD : DskV w v d) :
  Calls Tryz.prog 54 #[v, .int .i64 frm, .int .i64 til, .int .i64 k] w fun e w' => e = .returned (.tuple #[.int .i64 V, .int .i64 n]) /\ Below w.heap.size w w' := by
 cases e : hdrX (pageL d (frm + k)) frm til k with
 | none => rw [e] at hh;simp only [Option.getD_none, Prod.mk.injEq] at hh;obtain ⟨rfl, rfl⟩ := hh;exact ze2 d v frm til k w hc hf hk e hD
 | some y => rw [e] at hh;obtain rfl : y = (V, n) := hh;exact zeZ d v frm til k V n w hc hf hk e hD
theorem zdr {frm til : Int} {k V n : Nat} {s : List UInt8} (hh : (hdrX s frm til k).getD (0, 0) = (V, n)) : V <= 1099511627776 /\ n <= 1099511627776 /\ (n = 0 \/ (frm + 2 <= (n : Int) /\ (n : Int) < til)) := by
 cases e : hdrX s frm til k with
 | none => rw [e] at hh;simp only [Option.getD_none, Prod.mk.injEq] at hh;obtain ⟨rfl, rfl⟩ := hh;simp
 | some y => rw [e] at hh;obtain rfl : y = (V, n) := hh;obtain ⟨-, -, q3, q4, q5, q6, -, -⟩ := zbg e;exact ⟨q4, q5, q6⟩
theorem zhl {d : Dsk} {frm til : Int} (h : fitX d frm til ≠ 0) : openX d frm til = (zeroX, fitX d frm til) := by unfold openX; rw [if_pos h]
theorem zbZ {d : Dsk} {frm til : Int} (h : fitX d frm til = 0) (hr : readX d frm til = none) : openX d frm til = (zeroX, 25) := by unfold openX; rw [if_neg (by simpa using h), hr]
theorem zcD {d : Dsk} {frm til : Int} (h : fitX d frm til = 0) {x : Ix} {t : Option Nd} (hr : readX d frm til = some (x, t)) : openX d frm til = (x, 0) := by unfold openX; rw [if_neg (by simpa using h), hr]
theorem zdD {d : Dsk} {frm til : Int} {V n : Nat} (h : headX d frm til = (V, n)) : readX d frm til = if V = 0 then none else match treeX d frm til n with
  | none => none
  | some (t, u) => some (⟨d, frm, til, V, n, zap frm til u⟩, t) := by
 unfold readX;rw [h];rfl
theorem zbp {w w' : World} {o : Option Addr} {l : List Int} (h : zas (· < w.heap.size) w o l) (hb : Below w.heap.size w w') : zas (· < w'.heap.size) w' o l := fun i hi => by
 obtain ⟨b, off, e, c, hs⟩ := (zas.below h hb) i hi;exact ⟨b, off, e, c, znL hs hb.size⟩
def zdQ (d : Dsk) (po co : Option Addr) (pc cc : Nat) (frm til ver root : Int) (L : List Int) : Ann := ⟨fun r => .agg #[.int .i64 d.size, .slice po d.pages.length pc, .slice co d.cache.length cc, .int .i64 d.left, .int .i64 frm, .int .i64 til, .int .i64 ver, .int .i64 root, .slice (slO (r.x 0)) L.length (slC (r.x 0))], fun r W => SlW (slO (r.x 0)) L.length (slC (r.x 0)) /\ IntsT W (slO (r.x 0)) L⟩
set_option maxRecDepth 100000 in
set_option maxHeartbeats 8000000 in
theorem znd (d : Dsk) (v : Value) (frm til : Int) (w : World) (hD : DskV w v d) :
  Calls Tryz.prog 17 #[v, .int .i64 frm, .int .i64 til] w (RetXE w (openX d frm til).1 (openX d frm til).2) := by
 have hD0 := hD;obtain ⟨po, pc, co, cc, rfl⟩ := hD.agg;obtain ⟨N, hN⟩ : ∃ N, w.heap.size = N := ⟨_, rfl⟩;obtain ⟨W0, hW0⟩ : ∃ W0, (w.alloc (.cells (dC d po co pc cc) 25)).alloc (.cells ixZ 33) = W0 := ⟨_, rfl⟩;have s0 : OpC w N d po co pc cc W0 := by subst hW0 hN;have HB := (Below.one w (.cells (dC d po co pc cc) 25)).alloc (by simp) (.cells ixZ 33);exact ⟨(Bx.new w (dC d po co pc cc) 25).alloc _, Bx.newAt _ _ _ _ (by simp), HB, hD0.below HB, rfl, by simp⟩
 obtain ⟨R, hR⟩ : ∃ R, RetXE w (openX d frm til).1 (openX d frm til).2 = R := ⟨_, rfl⟩;rw [hR];have HR := zhI hR;clear hD hR;have cD := s0.dsk.cell;unfold dC at cD;have lD := s0.dsk.lt;have hch := zlk d _ W0 s0.val rfl;obtain ⟨ce, hce⟩ : ∃ c, chk d = c := ⟨_, rfl⟩;rw [hce] at hch;have Hch := zhI hch;have Hce := zhI hce;clear hch hce;go_enter Tryz.func17, Tryz.ntmps17;go_wp2_with fail;refine Hch.out.mono ?_;rintro e w1 ⟨rfl, hb1⟩;have s1 := s0.next hb1;clear s0 cD lD hb1 hW0;have cD := s1.dsk.cell;unfold dC at cD;have lD := s1.dsk.lt;cases hc : (ce != 0);rotate_left
 .
  have hne : chk d ≠ 0 := by rw [Hce.out]; simpa using hc
  have ho : openX d frm til = (zeroX, 1) := by
   have e : fitX d frm til = 1 := by unfold fitX; rw [if_pos hne]
   rw [zhl (by rw [e]; decide), e]
  clear hne;have Ho := zhI ho;have X0 := s1.res;have lX := X0.lt;have cX := X0.cell;have xf := X0.free;unfold ixZ at cX;have hBz := zhI (zad (b := N + 1) (v0 := .int .i64 0) (v1 := .slice none 0 0) (v2 := .slice none 0 0) (v3 := .int .i64 0) (v4 := .int .i64 0) (v5 := .int .i64 0) (v6 := .int .i64 0) (v7 := .int .i64 0) (v8 := .slice none 0 0) s1.below (by have := s1.base; omega));have Xz := zhI (X0.set9 (v0 := .int .i64 0) (v1 := .slice none 0 0) (v2 := .slice none 0 0) (v3 := .int .i64 0) (v4 := .int .i64 0) (v5 := .int .i64 0) (v6 := .int .i64 0) (v7 := .int .i64 0) (v8 := .slice none 0 0));clear ho X0;go_wp2;have cz := Xz.out.cell;simp only [st9, st8] at cz;refine bodyPost_ret (v := .tuple #[.agg ixZ, .int .i64 1]) (by simp [results, Tryz.results17, go_sem, cz]) rfl ?_;rw [<- HR.out, Ho.out];exact ⟨_, rfl, IxT.zero _, hBz.out⟩
 have hc0 : chk d = 0 := by rw [Hce.out]; simpa using hc
 have Hc0 := zhI hc0;cases hft : fits5 d frm til
 .
  have ho : openX d frm til = (zeroX, 2) := by
   have e : fitX d frm til = 2 := by unfold fitX; rw [if_neg (by simpa using hc0), if_pos hft]
   rw [zhl (by rw [e]; decide), e]
  have hfit := zjJ d _ frm til w1 hc0 hft s1.val;have Hfit := zhI hfit;clear hfit hc0 hft;go_wp2_with fail;refine Hfit.out.mono ?_;rintro e w2 ⟨rfl, hb2⟩;have s2 := s1.next hb2;clear s1 cD lD hb2 Hfit;have s1 := s2;have Ho := zhI ho;have X0 := s1.res;have lX := X0.lt;have cX := X0.cell;have xf := X0.free;unfold ixZ at cX;have hBz := zhI (zad (b := N + 1) (v0 := .int .i64 0) (v1 := .slice none 0 0) (v2 := .slice none 0 0) (v3 := .int .i64 0) (v4 := .int .i64 0) (v5 := .int .i64 0) (v6 := .int .i64 0) (v7 := .int .i64 0) (v8 := .slice none 0 0) s1.below (by have := s1.base; omega));have Xz := zhI (X0.set9 (v0 := .int .i64 0) (v1 := .slice none 0 0) (v2 := .slice none 0 0) (v3 := .int .i64 0) (v4 := .int .i64 0) (v5 := .int .i64 0) (v6 := .int .i64 0) (v7 := .int .i64 0) (v8 := .slice none 0 0));clear ho X0;go_wp2;have cz := Xz.out.cell;simp only [st9, st8] at cz;refine bodyPost_ret (v := .tuple #[.agg ixZ, .int .i64 2]) (by simp [results, Tryz.results17, go_sem, cz]) rfl ?_;rw [<- HR.out, Ho.out];exact ⟨_, rfl, IxT.zero _, hBz.out⟩
 .
  obtain ⟨f1, f2, f3, f4, f5⟩ := zax hft;have hrg := zag (zaq hc0).1;have hfit := zjJ d _ frm til w1 hc0 hft s1.val;have Hfit := zhI hfit;have hf0 : fitX d frm til = 0 := by unfold fitX; rw [if_neg (by simpa using hc0), if_neg (by simp [hft])]
  have Hf0 := zhI hf0;have Hft := zhI hft;obtain ⟨V0, n0, hx0⟩ : ∃ V n, (hdrX (pageL d frm) frm til 0).getD (0, 0) = (V, n) := ⟨_, _, rfl⟩;obtain ⟨V1, n1, hx1⟩ : ∃ V n, (hdrX (pageL d (frm + 1)) frm til 1).getD (0, 0) = (V, n) := ⟨_, _, rfl⟩;have HH := zhI (zfv hx0 hx1);have r0 := zdr hx0;have r1 := zdr hx1;have C0 := fun W => zgG d (.agg (dC d po co pc cc)) frm til 0 hc0 hft (by omega) (by simpa using hx0) W;have C1 := fun W => zgG d (.agg (dC d po co pc cc)) frm til 1 hc0 hft (by omega) (by simpa using hx1) W;have HC0 := zhI C0;have HC1 := zhI C1;have Hr0 := zhI r0;have Hr1 := zhI r1;have Hrg : Hid (0 <= frm /\ til <= 2000 /\ frm + 3 <= til) := zhI ⟨f2, by omega, by omega⟩;clear hfit hc0 hft hf0 hx0 hx1 r0 r1 C0 C1 f1 f2 f3 f4 f5 hrg;go_wp2_with fail;refine Hfit.out.mono ?_;rintro e w2 ⟨rfl, hb2⟩;have s2 := s1.next hb2;clear s1 cD lD hb2 Hfit;have cD := s2.dsk.cell;unfold dC at cD;have lD := s2.dsk.lt;go_wp2_with fail;refine (HC0.out _ s2.val).mono ?_;rintro e w3 ⟨rfl, hb3⟩;have s3 := s2.next hb3;clear s2 cD lD hb3 HC0;have cD := s3.dsk.cell;unfold dC at cD;have lD := s3.dsk.lt;go_wp2_with fail;refine (HC1.out _ s3.val).mono ?_;rintro e w4 ⟨rfl, hb4⟩;have s1 := s3.next hb4;clear s3 cD lD hb4 HC1
  by_cases hlt : V0 < V1
  .
   have HV : Hid (headX d frm til = (V1, n1)) := zhI (by rw [HH.out, if_pos hlt]);go_upto_region 9 with fail
   obtain ⟨V, rfl⟩ : ∃ V, V = V1 := ⟨_, rfl⟩;obtain ⟨n, rfl⟩ : ∃ n, n = n1 := ⟨_, rfl⟩;have Hrn := Hr1;have HR2 := zhI (zdD HV.out);have hV0 : ¬ V = 0 := by omega
   have hVb : ((V : Int) == 0) = false := by simp; omega
   go_upto_region 12 with fail
   obtain ⟨wu, hwu⟩ : ∃ wu, w4.alloc (.cells #[] 3) = wu := ⟨_, rfl⟩;have hbu := Below.one w4 (.cells #[] 3);rw [hwu] at hbu |-;have s2 := s1.next hbu;clear s1;obtain ⟨U, hU⟩ : ∃ U, w4.heap.size = U := ⟨_, rfl⟩;have hUl : U < wu.heap.size := by rw [<- hwu, <- hU]; simp
   simp only [hU];clear hwu hbu hU
   by_cases hn0 : n = 0
   .
    have s1 := s2;have Hx : Hid (readX d frm til = some (⟨d, frm, til, V, 0, zap frm til []⟩, none)) := zhI (by rw [HR2.out, if_neg hV0]; unfold treeX; rw [if_pos hn0, hn0]; rfl);simp only [hn0, Int.natCast_zero];clear hn0;have HU : Hid (SlW (some ⟨U, 0, none⟩) ([] : List Int).length 0 /\ zas (· < wu.heap.size) wu (some ⟨U, 0, none⟩) [] /\ ([] : List Int).length <= 1000000) := zhI ⟨.inr ⟨_, rfl, Nat.le_refl _, Nat.zero_le _⟩, fun i hi => absurd hi (by simp), by simp⟩;obtain ⟨FR, hFR⟩ : ∃ L, zap frm til ([] : List Int) = L := ⟨_, rfl⟩;have hoth : ∀ W, Below wu.heap.size wu W -> Calls Tryz.prog 57 #[.int .i64 frm, .int .i64 til, .slice (some ⟨U, 0, none⟩) 0 0] W fun e w' => ∃ o c, e = .returned (.slice o FR.length c) /\ w'.ownsRow W.heap.size 3 1 (.slice o FR.length c) FR.length (intsV FR) /\ Below W.heap.size W w' := fun W hb => by have := zdq frm til ([] : List Int) (some ⟨U, 0, none⟩) 0 W (S := fun b => b < wu.heap.size) HU.out.1 HU.out.2.2 (HU.out.2.1.same (fun b h => hb.block b h)) (fun b h => znL h hb.size) Hrg.out.1 (by have := Hrg.out.2.1; omega) (by have := Hrg.out.2.2; omega);rw [hFR] at this;simp only [List.length_nil] at this;exact this
    have Hoth := zhI hoth;have HFR := zhI hFR;have HBw : Hid (∀ y : Lat wu, Below wu.heap.size wu y.w) := zhI (fun y => y.h);clear hoth hFR;have cD := s1.dsk.cell;unfold dC at cD;have lD := s1.dsk.lt;have cQ := Lat.cells wu;go_upto_region 17 with fail
    refine zal 10 2 #[true, true, true, true, true, true, true, true, true, true, false, false] (fun i => if i = 8 then some (annFr FR) else if i = 9 then some (zdQ d po co pc cc frm til V (0 : Int) FR) else none) (by kernel_rfl) (by rfl) (by rfl) (by kernel_rfl) ?_;simp only [List.take_succ_cons, List.take_zero];refine LW.block 8 8 (by rfl) (by kernel_rfl) (by kernel_rfl) ?_;simp only [ztP]
    repeat (first | go_big_quiet_skip | (go_big_quiet_want; go_big_quiet_op; go_big_quiet_on))
    refine wpQuiet_nil ?_;refine LW.lzy _ (by rfl) (by rfl) ?_ ?_
    . intro yL _;unfold lzAt;go_simp;exact lz_fr (Hoth.out _ (HBw.out _))
    intro r8;simp only [Act.put, zsP, annFr];refine LW.lzy _ (by rfl) (by rfl) ?_ ?_
    . intro yL hf;have h8 : SlW (slO (r8.x 0)) FR.length (slC (r8.x 0)) /\ IntsT yL.w (slO (r8.x 0)) FR := (hf 8 (by decide +kernel)).get (by rfl) (by rfl);unfold lzAt;go_simp;exact ⟨Below.refl _ _, fun _ => .slice (slO (r8.x 0)) FR.length (slC (r8.x 0)), rfl, fun w'' hb => ⟨h8.1, h8.2.below hb⟩⟩
    intro r9;simp only [Act.put, zsP, zdQ];refine LW.done ?_;intro W8 hG;have hb8 := hG.below;have h9 := hG.get 9 rfl rfl;simp only at h9;obtain ⟨go, hgo⟩ : ∃ o, slO (r9.x 0) = o := ⟨_, rfl⟩;obtain ⟨gc, hgc⟩ : ∃ c, slC (r9.x 0) = c := ⟨_, rfl⟩;rw [hgo, hgc] at h9 |-;have s8 := s1.next hb8;have X0 := s8.res;have lX := X0.lt;have cX := X0.cell;have xf := X0.free;unfold ixZ at cX;have hV8 : IxT W8 (.agg (ixC d po co pc cc frm til V (0 : Int) go FR.length gc)) ⟨d, frm, til, V, (0 : Int), FR⟩ := ⟨po, pc, co, cc, go, gc, rfl, s8.val, h9.1, h9.2⟩;have hBz := zhI (zad (b := N + 1) (v0 := .int .i64 d.size) (v1 := .slice po d.pages.length pc) (v2 := .slice co d.cache.length cc) (v3 := .int .i64 d.left) (v4 := .int .i64 frm) (v5 := .int .i64 til) (v6 := .int .i64 V) (v7 := .int .i64 (0 : Int)) (v8 := .slice go FR.length gc) s8.below (by have := s8.base; omega));have Xz := zhI (X0.set9 (v0 := .int .i64 d.size) (v1 := .slice po d.pages.length pc) (v2 := .slice co d.cache.length cc) (v3 := .int .i64 d.left) (v4 := .int .i64 frm) (v5 := .int .i64 til) (v6 := .int .i64 V) (v7 := .int .i64 (0 : Int)) (v8 := .slice go FR.length gc));have Hx9 := zhI (hV8.only X0 (noS9 _ _ _ _ _ _ _ _ _ _ _ _ _ _ _) (by decide) (Only.nine (v0 := .int .i64 d.size) (v1 := .slice po d.pages.length pc) (v2 := .slice co d.cache.length cc) (v3 := .int .i64 d.left) (v4 := .int .i64 frm) (v5 := .int .i64 til) (v6 := .int .i64 V) (v7 := .int .i64 (0 : Int)) (v8 := .slice go FR.length gc)));clear hG h9 hgo hgc cD lD cQ HBw Hoth hb8 s1 s8 X0 hV8;refine wpAny_ready (rs := [10]) (by kernel_rfl) (by simp) ?_;refine AllReady.cons rfl (fun K hK => ?_) AllReady.nil;go_simp;refine hK _ _ ?_;clear hK K;refine wpAny_ready (rs := [11]) (by kernel_rfl) (by simp) ?_;refine AllReady.cons rfl (fun K hK => ?_) AllReady.nil;go_simp;refine hK _ _ ?_;clear hK K;refine wpAny_done (by kernel_rfl) ?_ _;go_wp2;have cz := Xz.out.cell;simp only [st9, st8] at cz;refine bodyPost_ret (v := .tuple #[.agg (ixC d po co pc cc frm til V (0 : Int) go FR.length gc), .int .i64 0]) (by simp [results, Tryz.results17, go_sem, cz]) rfl ?_;rw [<- HR.out, zcD Hf0.out Hx.out, HFR.out];exact ⟨_, rfl, Hx9.out, hBz.out⟩
   .
    have hn1 : 0 < n := by omega
    have hld := zcW d _ frm til n wu s2.val Hc0.out Hft.out ⟨by omega, by have := Hrn.out.2.1; omega⟩;obtain ⟨ol, hol⟩ : ∃ o, loadR d frm til (fuelX frm til) n [] = o := ⟨_, rfl⟩;rw [hol] at hld;have Hld := zhI hld;have Hol := zhI hol;have cD := s2.dsk.cell;unfold dC at cD;have lD := s2.dsk.lt;clear hld hol;go_wp2_with fail;refine Hld.out.mono ?_;rintro e w5 ⟨hb5, lo, ln, lc, ko, kn, kc, pg, uo, un, uc, rfl, hres⟩;have s3 := s2.next hb5;clear s2 cD lD Hld hb5;go_upto_region 14 with fail
    obtain ⟨Z, hZ⟩ : ∃ Z, w5.heap.size = Z := ⟨_, rfl⟩;obtain ⟨wu, hwu⟩ : ∃ wu, w5.alloc (.cells #[.slice lo ln lc, .slice ko kn kc, .int .i64 pg] 95) = wu := ⟨_, rfl⟩;have xZ := Bx.new w5 #[.slice lo ln lc, .slice ko kn kc, .int .i64 pg] 95;have hbu := Below.one w5 (.cells #[.slice lo ln lc, .slice ko kn kc, .int .i64 pg] 95);rw [hwu] at hbu;simp only [hwu, hZ] at xZ |-;have s4 := s3.next hbu;clear s3 hwu;cases ol with
    | none =>
     have hr : readX d frm til = none := by rw [HR2.out, if_neg hV0]; unfold treeX; rw [if_neg hn0, Hol.out]
     have ho := zbZ Hf0.out hr;have s1 := s4;clear hr hres s4;simp only [Option.isSome_none];have Ho := zhI ho;have X0 := s1.res;have lX := X0.lt;have cX := X0.cell;have xf := X0.free;unfold ixZ at cX;have hBz := zhI (zad (b := N + 1) (v0 := .int .i64 0) (v1 := .slice none 0 0) (v2 := .slice none 0 0) (v3 := .int .i64 0) (v4 := .int .i64 0) (v5 := .int .i64 0) (v6 := .int .i64 0) (v7 := .int .i64 0) (v8 := .slice none 0 0) s1.below (by have := s1.base; omega));have Xz := zhI (X0.set9 (v0 := .int .i64 0) (v1 := .slice none 0 0) (v2 := .slice none 0 0) (v3 := .int .i64 0) (v4 := .int .i64 0) (v5 := .int .i64 0) (v6 := .int .i64 0) (v7 := .int .i64 0) (v8 := .slice none 0 0));clear ho X0;go_wp2;have cz := Xz.out.cell;simp only [st9, st8] at cz;refine bodyPost_ret (v := .tuple #[.agg ixZ, .int .i64 25]) (by simp [results, Tryz.results17, go_sem, cz]) rfl ?_;rw [<- HR.out, Ho.out];exact ⟨_, rfl, IxT.zero _, hBz.out⟩
    | some r =>
     obtain ⟨nd, u⟩ := r;obtain ⟨rfl, rfl, rfl, rfl, q5, q6, q7, -⟩ := hres nd u rfl;have hu2 := zb0 _ Hol.out ⟨List.nodup_nil, fun p hp => by cases hp⟩;have hul := hu2.1.len (by have := Hrg.out; omega);have hpl := zds _ Hol.out;have hfo := zg6 nd (fuelX frm til) lo ko lc kc wu (q7.stays hbu) (zf6 _ Hol.out) (by unfold fuelX; have := Hrg.out; omega) (by have := Hrg.out; simp at hpl; omega);obtain ⟨fb, hfb⟩ : ∃ b, zcl nd = b := ⟨_, rfl⟩;rw [hfb] at hfo;unfold ndC at hfo;have Hfo := zhI hfo;have Hfb := zhI hfb;have HU0 := zhI (zaI q5 (zaI q6 (by have := Hrg.out; omega : u.length <= 1000000)));have cZ := xZ.cell;have lZ := xZ.lt;clear hfo hfb hu2 hul hpl q5 q6 q7 hres;simp only [Option.isSome_some];go_wp2_with fail;refine Hfo.out.mono ?_;rintro e w6 ⟨rfl, hb6⟩;have s5 := s4.next hb6;clear s4 cZ lZ xZ Hfo;cases fb with
     | false =>
      have hr : readX d frm til = none := by rw [HR2.out, if_neg hV0]; unfold treeX; rw [if_neg hn0, Hol.out]; simp only; rw [Hfb.out]; rfl
      have ho := zbZ Hf0.out hr;have s1 := s5;clear hr s5 hb6;have Ho := zhI ho;have X0 := s1.res;have lX := X0.lt;have cX := X0.cell;have xf := X0.free;unfold ixZ at cX;have hBz := zhI (zad (b := N + 1) (v0 := .int .i64 0) (v1 := .slice none 0 0) (v2 := .slice none 0 0) (v3 := .int .i64 0) (v4 := .int .i64 0) (v5 := .int .i64 0) (v6 := .int .i64 0) (v7 := .int .i64 0) (v8 := .slice none 0 0) s1.below (by have := s1.base; omega));have Xz := zhI (X0.set9 (v0 := .int .i64 0) (v1 := .slice none 0 0) (v2 := .slice none 0 0) (v3 := .int .i64 0) (v4 := .int .i64 0) (v5 := .int .i64 0) (v6 := .int .i64 0) (v7 := .int .i64 0) (v8 := .slice none 0 0));clear ho X0;go_wp2;have cz := Xz.out.cell;simp only [st9, st8] at cz;refine bodyPost_ret (v := .tuple #[.agg ixZ, .int .i64 25]) (by simp [results, Tryz.results17, go_sem, cz]) rfl ?_;rw [<- HR.out, Ho.out];exact ⟨_, rfl, IxT.zero _, hBz.out⟩
     | true =>
      have Hx : Hid (readX d frm til = some (⟨d, frm, til, V, n, zap frm til u⟩, some nd)) := zhI (by
       rw [HR2.out, if_neg hV0]; unfold treeX; rw [if_neg hn0, Hol.out]; simp only; rw [Hfb.out]; rfl)
      have HU : Hid (SlW uo u.length uc /\ zas (· < w6.heap.size) w6 uo u /\ u.length <= 1000000) := zhI ⟨HU0.out.1, zbp (zbp HU0.out.2.1 hbu) hb6, HU0.out.2.2⟩;obtain ⟨wu, rfl⟩ : ∃ w, w = w6 := ⟨_, rfl⟩;have s1 := s5;clear s5 hb6 hbu;obtain ⟨FR, hFR⟩ : ∃ L, zap frm til u = L := ⟨_, rfl⟩;have hoth : ∀ W, Below wu.heap.size wu W -> Calls Tryz.prog 57 #[.int .i64 frm, .int .i64 til, .slice uo u.length uc] W fun e w' => ∃ o c, e = .returned (.slice o FR.length c) /\ w'.ownsRow W.heap.size 3 1 (.slice o FR.length c) FR.length (intsV FR) /\ Below W.heap.size W w' := fun W hb => by
       have := zdq frm til u uo uc W (S := fun b => b < wu.heap.size) HU.out.1 HU.out.2.2 (HU.out.2.1.same (fun b h => hb.block b h)) (fun b h => znL h hb.size) Hrg.out.1 (by have := Hrg.out.2.1; omega) (by have := Hrg.out.2.2; omega);rw [hFR] at this
       skip
       exact this
      have Hoth := zhI hoth;have HFR := zhI hFR;have HBw : Hid (∀ y : Lat wu, Below wu.heap.size wu y.w) := zhI (fun y => y.h);clear hoth hFR;have cD := s1.dsk.cell;unfold dC at cD;have lD := s1.dsk.lt;have cQ := Lat.cells wu;go_upto_region 17 with fail
      refine zal 10 2 #[true, true, true, true, true, true, true, true, true, true, false, false] (fun i => if i = 8 then some (annFr FR) else if i = 9 then some (zdQ d po co pc cc frm til V n FR) else none) (by kernel_rfl) (by rfl) (by rfl) (by kernel_rfl) ?_;simp only [List.take_succ_cons, List.take_zero];refine LW.block 8 8 (by rfl) (by kernel_rfl) (by kernel_rfl) ?_;simp only [ztP]
      repeat (first | go_big_quiet_skip | (go_big_quiet_want; go_big_quiet_op; go_big_quiet_on))
      refine wpQuiet_nil ?_;refine LW.lzy _ (by rfl) (by rfl) ?_ ?_
      . intro yL _;unfold lzAt;go_simp;exact lz_fr (Hoth.out _ (HBw.out _))
      intro r8;simp only [Act.put, zsP, annFr];refine LW.lzy _ (by rfl) (by rfl) ?_ ?_
      . intro yL hf;have h8 : SlW (slO (r8.x 0)) FR.length (slC (r8.x 0)) /\ IntsT yL.w (slO (r8.x 0)) FR := (hf 8 (by decide +kernel)).get (by rfl) (by rfl);unfold lzAt;go_simp;exact ⟨Below.refl _ _, fun _ => .slice (slO (r8.x 0)) FR.length (slC (r8.x 0)), rfl, fun w'' hb => ⟨h8.1, h8.2.below hb⟩⟩
      intro r9;simp only [Act.put, zsP, zdQ];refine LW.done ?_;intro W8 hG;have hb8 := hG.below;have h9 := hG.get 9 rfl rfl;simp only at h9;obtain ⟨go, hgo⟩ : ∃ o, slO (r9.x 0) = o := ⟨_, rfl⟩;obtain ⟨gc, hgc⟩ : ∃ c, slC (r9.x 0) = c := ⟨_, rfl⟩;rw [hgo, hgc] at h9 |-;have s8 := s1.next hb8;have X0 := s8.res;have lX := X0.lt;have cX := X0.cell;have xf := X0.free;unfold ixZ at cX;have hV8 : IxT W8 (.agg (ixC d po co pc cc frm til V n go FR.length gc)) ⟨d, frm, til, V, n, FR⟩ := ⟨po, pc, co, cc, go, gc, rfl, s8.val, h9.1, h9.2⟩;have hBz := zhI (zad (b := N + 1) (v0 := .int .i64 d.size) (v1 := .slice po d.pages.length pc) (v2 := .slice co d.cache.length cc) (v3 := .int .i64 d.left) (v4 := .int .i64 frm) (v5 := .int .i64 til) (v6 := .int .i64 V) (v7 := .int .i64 n) (v8 := .slice go FR.length gc) s8.below (by have := s8.base; omega));have Xz := zhI (X0.set9 (v0 := .int .i64 d.size) (v1 := .slice po d.pages.length pc) (v2 := .slice co d.cache.length cc) (v3 := .int .i64 d.left) (v4 := .int .i64 frm) (v5 := .int .i64 til) (v6 := .int .i64 V) (v7 := .int .i64 n) (v8 := .slice go FR.length gc));have Hx9 := zhI (hV8.only X0 (noS9 _ _ _ _ _ _ _ _ _ _ _ _ _ _ _) (by decide) (Only.nine (v0 := .int .i64 d.size) (v1 := .slice po d.pages.length pc) (v2 := .slice co d.cache.length cc) (v3 := .int .i64 d.left) (v4 := .int .i64 frm) (v5 := .int .i64 til) (v6 := .int .i64 V) (v7 := .int .i64 n) (v8 := .slice go FR.length gc)));clear hG h9 hgo hgc cD lD cQ HBw Hoth hb8 s1 s8 X0 hV8;refine wpAny_ready (rs := [10]) (by kernel_rfl) (by simp) ?_;refine AllReady.cons rfl (fun K hK => ?_) AllReady.nil;go_simp;refine hK _ _ ?_;clear hK K;refine wpAny_ready (rs := [11]) (by kernel_rfl) (by simp) ?_;refine AllReady.cons rfl (fun K hK => ?_) AllReady.nil;go_simp;refine hK _ _ ?_;clear hK K;refine wpAny_done (by kernel_rfl) ?_ _;go_wp2;have cz := Xz.out.cell;simp only [st9, st8] at cz;refine bodyPost_ret (v := .tuple #[.agg (ixC d po co pc cc frm til V n go FR.length gc), .int .i64 0]) (by simp [results, Tryz.results17, go_sem, cz]) rfl ?_;rw [<- HR.out, zcD Hf0.out Hx.out, HFR.out];exact ⟨_, rfl, Hx9.out, hBz.out⟩
  .
   have HV : Hid (headX d frm til = (V0, n0)) := zhI (by rw [HH.out, if_neg hlt]);go_upto_region 9 with fail
   obtain ⟨V, rfl⟩ : ∃ V, V = V0 := ⟨_, rfl⟩;obtain ⟨n, rfl⟩ : ∃ n, n = n0 := ⟨_, rfl⟩;have Hrn := Hr0;have HR2 := zhI (zdD HV.out)
   by_cases hV0 : V = 0
   .
    have hr : readX d frm til = none := by rw [HR2.out, if_pos hV0]
    have ho := zbZ Hf0.out hr;have hVb : ((V : Int) == 0) = true := by simp; omega
    clear hr;have Ho := zhI ho;have X0 := s1.res;have lX := X0.lt;have cX := X0.cell;have xf := X0.free;unfold ixZ at cX;have hBz := zhI (zad (b := N + 1) (v0 := .int .i64 0) (v1 := .slice none 0 0) (v2 := .slice none 0 0) (v3 := .int .i64 0) (v4 := .int .i64 0) (v5 := .int .i64 0) (v6 := .int .i64 0) (v7 := .int .i64 0) (v8 := .slice none 0 0) s1.below (by have := s1.base; omega));have Xz := zhI (X0.set9 (v0 := .int .i64 0) (v1 := .slice none 0 0) (v2 := .slice none 0 0) (v3 := .int .i64 0) (v4 := .int .i64 0) (v5 := .int .i64 0) (v6 := .int .i64 0) (v7 := .int .i64 0) (v8 := .slice none 0 0));clear ho X0;go_wp2;have cz := Xz.out.cell;simp only [st9, st8] at cz;refine bodyPost_ret (v := .tuple #[.agg ixZ, .int .i64 25]) (by simp [results, Tryz.results17, go_sem, cz]) rfl ?_;rw [<- HR.out, Ho.out];exact ⟨_, rfl, IxT.zero _, hBz.out⟩
   .
    have hVb : ((V : Int) == 0) = false := by simp; omega
    go_upto_region 12 with fail
    obtain ⟨wu, hwu⟩ : ∃ wu, w4.alloc (.cells #[] 3) = wu := ⟨_, rfl⟩;have hbu := Below.one w4 (.cells #[] 3);rw [hwu] at hbu |-;have s2 := s1.next hbu;clear s1;obtain ⟨U, hU⟩ : ∃ U, w4.heap.size = U := ⟨_, rfl⟩;have hUl : U < wu.heap.size := by rw [<- hwu, <- hU]; simp
    simp only [hU];clear hwu hbu hU
    by_cases hn0 : n = 0
    .
     have s1 := s2;have Hx : Hid (readX d frm til = some (⟨d, frm, til, V, 0, zap frm til []⟩, none)) := zhI (by rw [HR2.out, if_neg hV0]; unfold treeX; rw [if_pos hn0, hn0]; rfl);simp only [hn0, Int.natCast_zero];clear hn0;have HU : Hid (SlW (some ⟨U, 0, none⟩) ([] : List Int).length 0 /\ zas (· < wu.heap.size) wu (some ⟨U, 0, none⟩) [] /\ ([] : List Int).length <= 1000000) := zhI ⟨.inr ⟨_, rfl, Nat.le_refl _, Nat.zero_le _⟩, fun i hi => absurd hi (by simp), by simp⟩;obtain ⟨FR, hFR⟩ : ∃ L, zap frm til ([] : List Int) = L := ⟨_, rfl⟩;have hoth : ∀ W, Below wu.heap.size wu W -> Calls Tryz.prog 57 #[.int .i64 frm, .int .i64 til, .slice (some ⟨U, 0, none⟩) 0 0] W fun e w' => ∃ o c, e = .returned (.slice o FR.length c) /\ w'.ownsRow W.heap.size 3 1 (.slice o FR.length c) FR.length (intsV FR) /\ Below W.heap.size W w' := fun W hb => by have := zdq frm til ([] : List Int) (some ⟨U, 0, none⟩) 0 W (S := fun b => b < wu.heap.size) HU.out.1 HU.out.2.2 (HU.out.2.1.same (fun b h => hb.block b h)) (fun b h => znL h hb.size) Hrg.out.1 (by have := Hrg.out.2.1; omega) (by have := Hrg.out.2.2; omega);rw [hFR] at this;simp only [List.length_nil] at this;exact this
     have Hoth := zhI hoth;have HFR := zhI hFR;have HBw : Hid (∀ y : Lat wu, Below wu.heap.size wu y.w) := zhI (fun y => y.h);clear hoth hFR;have cD := s1.dsk.cell;unfold dC at cD;have lD := s1.dsk.lt;have cQ := Lat.cells wu;go_upto_region 17 with fail
     refine zal 10 2 #[true, true, true, true, true, true, true, true, true, true, false, false] (fun i => if i = 8 then some (annFr FR) else if i = 9 then some (zdQ d po co pc cc frm til V (0 : Int) FR) else none) (by kernel_rfl) (by rfl) (by rfl) (by kernel_rfl) ?_;simp only [List.take_succ_cons, List.take_zero];refine LW.block 8 8 (by rfl) (by kernel_rfl) (by kernel_rfl) ?_;simp only [ztP]
     repeat (first | go_big_quiet_skip | (go_big_quiet_want; go_big_quiet_op; go_big_quiet_on))
     refine wpQuiet_nil ?_;refine LW.lzy _ (by rfl) (by rfl) ?_ ?_
     . intro yL _;unfold lzAt;go_simp;exact lz_fr (Hoth.out _ (HBw.out _))
     intro r8;simp only [Act.put, zsP, annFr];refine LW.lzy _ (by rfl) (by rfl) ?_ ?_
     . intro yL hf;have h8 : SlW (slO (r8.x 0)) FR.length (slC (r8.x 0)) /\ IntsT yL.w (slO (r8.x 0)) FR := (hf 8 (by decide +kernel)).get (by rfl) (by rfl);unfold lzAt;go_simp;exact ⟨Below.refl _ _, fun _ => .slice (slO (r8.x 0)) FR.length (slC (r8.x 0)), rfl, fun w'' hb => ⟨h8.1, h8.2.below hb⟩⟩
     intro r9;simp only [Act.put, zsP, zdQ];refine LW.done ?_;intro W8 hG;have hb8 := hG.below;have h9 := hG.get 9 rfl rfl;simp only at h9;obtain ⟨go, hgo⟩ : ∃ o, slO (r9.x 0) = o := ⟨_, rfl⟩;obtain ⟨gc, hgc⟩ : ∃ c, slC (r9.x 0) = c := ⟨_, rfl⟩;rw [hgo, hgc] at h9 |-;have s8 := s1.next hb8;have X0 := s8.res;have lX := X0.lt;have cX := X0.cell;have xf := X0.free;unfold ixZ at cX;have hV8 : IxT W8 (.agg (ixC d po co pc cc frm til V (0 : Int) go FR.length gc)) ⟨d, frm, til, V, (0 : Int), FR⟩ := ⟨po, pc, co, cc, go, gc, rfl, s8.val, h9.1, h9.2⟩;have hBz := zhI (zad (b := N + 1) (v0 := .int .i64 d.size) (v1 := .slice po d.pages.length pc) (v2 := .slice co d.cache.length cc) (v3 := .int .i64 d.left) (v4 := .int .i64 frm) (v5 := .int .i64 til) (v6 := .int .i64 V) (v7 := .int .i64 (0 : Int)) (v8 := .slice go FR.length gc) s8.below (by have := s8.base; omega));have Xz := zhI (X0.set9 (v0 := .int .i64 d.size) (v1 := .slice po d.pages.length pc) (v2 := .slice co d.cache.length cc) (v3 := .int .i64 d.left) (v4 := .int .i64 frm) (v5 := .int .i64 til) (v6 := .int .i64 V) (v7 := .int .i64 (0 : Int)) (v8 := .slice go FR.length gc));have Hx9 := zhI (hV8.only X0 (noS9 _ _ _ _ _ _ _ _ _ _ _ _ _ _ _) (by decide) (Only.nine (v0 := .int .i64 d.size) (v1 := .slice po d.pages.length pc) (v2 := .slice co d.cache.length cc) (v3 := .int .i64 d.left) (v4 := .int .i64 frm) (v5 := .int .i64 til) (v6 := .int .i64 V) (v7 := .int .i64 (0 : Int)) (v8 := .slice go FR.length gc)));clear hG h9 hgo hgc cD lD cQ HBw Hoth hb8 s1 s8 X0 hV8;refine wpAny_ready (rs := [10]) (by kernel_rfl) (by simp) ?_;refine AllReady.cons rfl (fun K hK => ?_) AllReady.nil;go_simp;refine hK _ _ ?_;clear hK K;refine wpAny_ready (rs := [11]) (by kernel_rfl) (by simp) ?_;refine AllReady.cons rfl (fun K hK => ?_) AllReady.nil;go_simp;refine hK _ _ ?_;clear hK K;refine wpAny_done (by kernel_rfl) ?_ _;go_wp2;have cz := Xz.out.cell;simp only [st9, st8] at cz;refine bodyPost_ret (v := .tuple #[.agg (ixC d po co pc cc frm til V (0 : Int) go FR.length gc), .int .i64 0]) (by simp [results, Tryz.results17, go_sem, cz]) rfl ?_;rw [<- HR.out, zcD Hf0.out Hx.out, HFR.out];exact ⟨_, rfl, Hx9.out, hBz.out⟩
    .
     have hn1 : 0 < n := by omega
     have hld := zcW d _ frm til n wu s2.val Hc0.out Hft.out ⟨by omega, by have := Hrn.out.2.1; omega⟩;obtain ⟨ol, hol⟩ : ∃ o, loadR d frm til (fuelX frm til) n [] = o := ⟨_, rfl⟩;rw [hol] at hld;have Hld := zhI hld;have Hol := zhI hol;have cD := s2.dsk.cell;unfold dC at cD;have lD := s2.dsk.lt;clear hld hol;go_wp2_with fail;refine Hld.out.mono ?_;rintro e w5 ⟨hb5, lo, ln, lc, ko, kn, kc, pg, uo, un, uc, rfl, hres⟩;have s3 := s2.next hb5;clear s2 cD lD Hld hb5;go_upto_region 14 with fail
     obtain ⟨Z, hZ⟩ : ∃ Z, w5.heap.size = Z := ⟨_, rfl⟩;obtain ⟨wu, hwu⟩ : ∃ wu, w5.alloc (.cells #[.slice lo ln lc, .slice ko kn kc, .int .i64 pg] 95) = wu := ⟨_, rfl⟩;have xZ := Bx.new w5 #[.slice lo ln lc, .slice ko kn kc, .int .i64 pg] 95;have hbu := Below.one w5 (.cells #[.slice lo ln lc, .slice ko kn kc, .int .i64 pg] 95);rw [hwu] at hbu;simp only [hwu, hZ] at xZ |-;have s4 := s3.next hbu;clear s3 hwu;cases ol with
     | none =>
      have hr : readX d frm til = none := by rw [HR2.out, if_neg hV0]; unfold treeX; rw [if_neg hn0, Hol.out]
      have ho := zbZ Hf0.out hr;have s1 := s4;clear hr hres s4;simp only [Option.isSome_none];have Ho := zhI ho;have X0 := s1.res;have lX := X0.lt;have cX := X0.cell;have xf := X0.free;unfold ixZ at cX;have hBz := zhI (zad (b := N + 1) (v0 := .int .i64 0) (v1 := .slice none 0 0) (v2 := .slice none 0 0) (v3 := .int .i64 0) (v4 := .int .i64 0) (v5 := .int .i64 0) (v6 := .int .i64 0) (v7 := .int .i64 0) (v8 := .slice none 0 0) s1.below (by have := s1.base; omega));have Xz := zhI (X0.set9 (v0 := .int .i64 0) (v1 := .slice none 0 0) (v2 := .slice none 0 0) (v3 := .int .i64 0) (v4 := .int .i64 0) (v5 := .int .i64 0) (v6 := .int .i64 0) (v7 := .int .i64 0) (v8 := .slice none 0 0));clear ho X0;go_wp2;have cz := Xz.out.cell;simp only [st9, st8] at cz;refine bodyPost_ret (v := .tuple #[.agg ixZ, .int .i64 25]) (by simp [results, Tryz.results17, go_sem, cz]) rfl ?_;rw [<- HR.out, Ho.out];exact ⟨_, rfl, IxT.zero _, hBz.out⟩
     | some r =>
      obtain ⟨nd, u⟩ := r;obtain ⟨rfl, rfl, rfl, rfl, q5, q6, q7, -⟩ := hres nd u rfl;have hu2 := zb0 _ Hol.out ⟨List.nodup_nil, fun p hp => by cases hp⟩;have hul := hu2.1.len (by have := Hrg.out; omega);have hpl := zds _ Hol.out;have hfo := zg6 nd (fuelX frm til) lo ko lc kc wu (q7.stays hbu) (zf6 _ Hol.out) (by unfold fuelX; have := Hrg.out; omega) (by have := Hrg.out; simp at hpl; omega);obtain ⟨fb, hfb⟩ : ∃ b, zcl nd = b := ⟨_, rfl⟩;rw [hfb] at hfo;unfold ndC at hfo;have Hfo := zhI hfo;have Hfb := zhI hfb;have HU0 := zhI (zaI q5 (zaI q6 (by have := Hrg.out; omega : u.length <= 1000000)));have cZ := xZ.cell;have lZ := xZ.lt;clear hfo hfb hu2 hul hpl q5 q6 q7 hres;simp only [Option.isSome_some];go_wp2_with fail;refine Hfo.out.mono ?_;rintro e w6 ⟨rfl, hb6⟩;have s5 := s4.next hb6;clear s4 cZ lZ xZ Hfo;cases fb with
      | false =>
       have hr : readX d frm til = none := by rw [HR2.out, if_neg hV0]; unfold treeX; rw [if_neg hn0, Hol.out]; simp only; rw [Hfb.out]; rfl
       have ho := zbZ Hf0.out hr;have s1 := s5;clear hr s5 hb6;have Ho := zhI ho;have X0 := s1.res;have lX := X0.lt;have cX := X0.cell;have xf := X0.free;unfold ixZ at cX;have hBz := zhI (zad (b := N + 1) (v0 := .int .i64 0) (v1 := .slice none 0 0) (v2 := .slice none 0 0) (v3 := .int .i64 0) (v4 := .int .i64 0) (v5 := .int .i64 0) (v6 := .int .i64 0) (v7 := .int .i64 0) (v8 := .slice none 0 0) s1.below (by have := s1.base; omega));have Xz := zhI (X0.set9 (v0 := .int .i64 0) (v1 := .slice none 0 0) (v2 := .slice none 0 0) (v3 := .int .i64 0) (v4 := .int .i64 0) (v5 := .int .i64 0) (v6 := .int .i64 0) (v7 := .int .i64 0) (v8 := .slice none 0 0));clear ho X0;go_wp2;have cz := Xz.out.cell;simp only [st9, st8] at cz;refine bodyPost_ret (v := .tuple #[.agg ixZ, .int .i64 25]) (by simp [results, Tryz.results17, go_sem, cz]) rfl ?_;rw [<- HR.out, Ho.out];exact ⟨_, rfl, IxT.zero _, hBz.out⟩
      | true =>
       have Hx : Hid (readX d frm til = some (⟨d, frm, til, V, n, zap frm til u⟩, some nd)) := zhI (by
        rw [HR2.out, if_neg hV0]; unfold treeX; rw [if_neg hn0, Hol.out]; simp only; rw [Hfb.out]; rfl)
       have HU : Hid (SlW uo u.length uc /\ zas (· < w6.heap.size) w6 uo u /\ u.length <= 1000000) := zhI ⟨HU0.out.1, zbp (zbp HU0.out.2.1 hbu) hb6, HU0.out.2.2⟩;obtain ⟨wu, rfl⟩ : ∃ w, w = w6 := ⟨_, rfl⟩;have s1 := s5;clear s5 hb6 hbu;obtain ⟨FR, hFR⟩ : ∃ L, zap frm til u = L := ⟨_, rfl⟩;have hoth : ∀ W, Below wu.heap.size wu W -> Calls Tryz.prog 57 #[.int .i64 frm, .int .i64 til, .slice uo u.length uc] W fun e w' => ∃ o c, e = .returned (.slice o FR.length c) /\ w'.ownsRow W.heap.size 3 1 (.slice o FR.length c) FR.length (intsV FR) /\ Below W.heap.size W w' := fun W hb => by
        have := zdq frm til u uo uc W (S := fun b => b < wu.heap.size) HU.out.1 HU.out.2.2 (HU.out.2.1.same (fun b h => hb.block b h)) (fun b h => znL h hb.size) Hrg.out.1 (by have := Hrg.out.2.1; omega) (by have := Hrg.out.2.2; omega);rw [hFR] at this
        skip
        exact this
       have Hoth := zhI hoth;have HFR := zhI hFR;have HBw : Hid (∀ y : Lat wu, Below wu.heap.size wu y.w) := zhI (fun y => y.h);clear hoth hFR;have cD := s1.dsk.cell;unfold dC at cD;have lD := s1.dsk.lt;have cQ := Lat.cells wu;go_upto_region 17 with fail
       refine zal 10 2 #[true, true, true, true, true, true, true, true, true, true, false, false] (fun i => if i = 8 then some (annFr FR) else if i = 9 then some (zdQ d po co pc cc frm til V n FR) else none) (by kernel_rfl) (by rfl) (by rfl) (by kernel_rfl) ?_;simp only [List.take_succ_cons, List.take_zero];refine LW.block 8 8 (by rfl) (by kernel_rfl) (by kernel_rfl) ?_;simp only [ztP]
       repeat (first | go_big_quiet_skip | (go_big_quiet_want; go_big_quiet_op; go_big_quiet_on))
       refine wpQuiet_nil ?_;refine LW.lzy _ (by rfl) (by rfl) ?_ ?_
       . intro yL _;unfold lzAt;go_simp;exact lz_fr (Hoth.out _ (HBw.out _))
       intro r8;simp only [Act.put, zsP, annFr];refine LW.lzy _ (by rfl) (by rfl) ?_ ?_
       . intro yL hf;have h8 : SlW (slO (r8.x 0)) FR.length (slC (r8.x 0)) /\ IntsT yL.w (slO (r8.x 0)) FR := (hf 8 (by decide +kernel)).get (by rfl) (by rfl);unfold lzAt;go_simp;exact ⟨Below.refl _ _, fun _ => .slice (slO (r8.x 0)) FR.length (slC (r8.x 0)), rfl, fun w'' hb => ⟨h8.1, h8.2.below hb⟩⟩
       intro r9;simp only [Act.put, zsP, zdQ];refine LW.done ?_;intro W8 hG;have hb8 := hG.below;have h9 := hG.get 9 rfl rfl;simp only at h9;obtain ⟨go, hgo⟩ : ∃ o, slO (r9.x 0) = o := ⟨_, rfl⟩;obtain ⟨gc, hgc⟩ : ∃ c, slC (r9.x 0) = c := ⟨_, rfl⟩;rw [hgo, hgc] at h9 |-;have s8 := s1.next hb8;have X0 := s8.res;have lX := X0.lt;have cX := X0.cell;have xf := X0.free;unfold ixZ at cX;have hV8 : IxT W8 (.agg (ixC d po co pc cc frm til V n go FR.length gc)) ⟨d, frm, til, V, n, FR⟩ := ⟨po, pc, co, cc, go, gc, rfl, s8.val, h9.1, h9.2⟩;have hBz := zhI (zad (b := N + 1) (v0 := .int .i64 d.size) (v1 := .slice po d.pages.length pc) (v2 := .slice co d.cache.length cc) (v3 := .int .i64 d.left) (v4 := .int .i64 frm) (v5 := .int .i64 til) (v6 := .int .i64 V) (v7 := .int .i64 n) (v8 := .slice go FR.length gc) s8.below (by have := s8.base; omega));have Xz := zhI (X0.set9 (v0 := .int .i64 d.size) (v1 := .slice po d.pages.length pc) (v2 := .slice co d.cache.length cc) (v3 := .int .i64 d.left) (v4 := .int .i64 frm) (v5 := .int .i64 til) (v6 := .int .i64 V) (v7 := .int .i64 n) (v8 := .slice go FR.length gc));have Hx9 := zhI (hV8.only X0 (noS9 _ _ _ _ _ _ _ _ _ _ _ _ _ _ _) (by decide) (Only.nine (v0 := .int .i64 d.size) (v1 := .slice po d.pages.length pc) (v2 := .slice co d.cache.length cc) (v3 := .int .i64 d.left) (v4 := .int .i64 frm) (v5 := .int .i64 til) (v6 := .int .i64 V) (v7 := .int .i64 n) (v8 := .slice go FR.length gc)));clear hG h9 hgo hgc cD lD cQ HBw Hoth hb8 s1 s8 X0 hV8;refine wpAny_ready (rs := [10]) (by kernel_rfl) (by simp) ?_;refine AllReady.cons rfl (fun K hK => ?_) AllReady.nil;go_simp;refine hK _ _ ?_;clear hK K;refine wpAny_ready (rs := [11]) (by kernel_rfl) (by simp) ?_;refine AllReady.cons rfl (fun K hK => ?_) AllReady.nil;go_simp;refine hK _ _ ?_;clear hK K;refine wpAny_done (by kernel_rfl) ?_ _;go_wp2;have cz := Xz.out.cell;simp only [st9, st8] at cz;refine bodyPost_ret (v := .tuple #[.agg (ixC d po co pc cc frm til V n go FR.length gc), .int .i64 0]) (by simp [results, Tryz.results17, go_sem, cz]) rfl ?_;rw [<- HR.out, zcD Hf0.out Hx.out, HFR.out];exact ⟨_, rfl, Hx9.out, hBz.out⟩
theorem zhB {o : Option Addr} {n c : Nat} (h : SlW o n c) : n <= 9223372036854775807 := by
 rcases h with ⟨_, rfl, _⟩ | ⟨_, _, h1, h2⟩
 . omega
 . unfold maxLen at h2; omega
def KvsAt (w : World) (o : Option Addr) (l : List Kv) : Prop := RowAt (· < w.heap.size) w o (kvsC l)
theorem KvsAt.below {w w' : World} {o : Option Addr} {l : List Kv} (h : KvsAt w o l) (hb : Below w.heap.size w w') : KvsAt w' o l := (RowAt.below h hb).mono fun _ h => znL h hb.size
theorem KvsAt.nil (w : World) (o : Option Addr) : KvsAt w o [] := RowAt.nil _ _ _
theorem KvsAt.cell {w : World} {o : Option Addr} {l : List Kv} (h : KvsAt w o l) {i : Nat} (hi : i < l.length) : ∃ g off, o = some ⟨g, off, none⟩ /\ g < w.heap.size /\ w.cell? ⟨g, off + i * 2, none⟩ = some (.string l[i].1) /\ w.cell? ⟨g, off + i * 2 + 1, none⟩ = some (.string l[i].2) := by
 have hl := zcu l;obtain ⟨c0, c1⟩ := zec hi;have h0 : i * 2 < (kvsC l).length := by omega
 have h1 : i * 2 + 1 < (kvsC l).length := by omega
 obtain ⟨g, off, rfl, hc, hg⟩ := h (i * 2) h0;obtain ⟨g', off', e', hc', -⟩ := h (i * 2 + 1) h1;obtain ⟨rfl, rfl⟩ : g = g' /\ off = off' := by simpa using e'
 refine ⟨g, off, rfl, hg, ?_, ?_⟩
 . rw [hc, <- List.getElem?_eq_getElem h0, c0]
 . rw [Nat.add_assoc, hc', <- List.getElem?_eq_getElem h1, c1]
theorem ziv.at {w : World} {base : Nat} {v : Value} {l : List Kv} (h : w.ownsRow base 77 2 v l.length (kvsC l)) : ∃ o c, v = .slice o l.length c /\ SlW o l.length c /\ KvsAt w o l := by
 obtain ⟨o, c, e, hs, hr, -⟩ := zai h;exact ⟨o, c, e, hs, hr.mono fun _ hb => hb.2⟩
theorem zfp {α : Type} {l m : List α} {k : Nat} (h : k < l.length) (h' : k < m.length) (e : l.take k = m.take k) (x : l[k] = m[k]) : l.take (k + 1) = m.take (k + 1) := by
 rw [List.take_succ_eq_append_getElem h, List.take_succ_eq_append_getElem h', e, x]
set_option maxHeartbeats 800000 in
theorem zhD (l m : List Int) (a b : Option Addr) (c d : Nat) (w : World) {S T : Nat -> Prop} (ha : zas S w a l) (hb : zas T w b m) (hl : l.length <= 9223372036854775807) (hm : m.length <= 9223372036854775807) :
  Calls Tryz.prog 58 #[.slice a l.length c, .slice b m.length d] w fun e w' => e = .returned (.bool (decide (l = m))) /\ Below w.heap.size w w' := by
 obtain ⟨r, hr⟩ : ∃ r, decide (l = m) = r := ⟨_, rfl⟩;rw [hr];cases g : ((l.length : Int) != (m.length : Int))
 .
  have hlm : l.length = m.length := by have := g; simp at this; omega
  go_enter Tryz.func58, Tryz.ntmps58;go_wp2
  go_loopw [5] (fun i wr => ∃ (k : Nat), k <= l.length /\ i = .int .i64 k /\ l.take k = m.take k /\ Below w.heap.size w wr) (fun i _ => l.length - (intOf i).toNat)
  case atStart => exact ⟨0, Nat.zero_le _, rfl, by simp, Below.refl _ _⟩
  case round =>
   obtain ⟨k, hk, rfl, hq0, hB⟩ := hrel
   by_cases hlt : k < l.length
   .
    have hlt' : k < m.length := by omega
    obtain ⟨ba, offa, rfl, hcell0, _⟩ := ha k hlt;obtain ⟨bb, offb, rfl, hcell0', _⟩ := hb k hlt';have hcell : wr.cell? ⟨ba, offa + k, none⟩ = some (.int .i64 l[k]) := by rw [hB.cell (World.block_lt_of_cell? w _ hcell0)]; exact hcell0
    have hcell' : wr.cell? ⟨bb, offb + k, none⟩ = some (.int .i64 m[k]) := by rw [hB.cell (World.block_lt_of_cell? w _ hcell0')]; exact hcell0'
    clear hcell0 hcell0';cases hs : (l[k] == m[k])
    .
     have hres : Hid (r = false) := by unfold Hid;rw [<- hr, decide_eq_false];intro e;subst e;simp at hs
     clear hlm hq0;go_wp2;go_quiet (fail);go_wp2;go_ret;exact ⟨by rw [hres.out]; rfl, Below.drewN hB _⟩
    .
     have hst := zhI (zfp hlt hlt' hq0 (by simpa using hs));clear hlm hq0;go_wp2;go_quiet (fail);go_wp2;go_roundw
     case rel => exact ⟨k + 1, by omega, by go_num, hst.out, Below.drewN hB _⟩
     case measure => simp [intOf]; omega
   .
    have hres : Hid (r = true) := by unfold Hid;rw [<- hr, decide_eq_true];rw [List.take_of_length_le (by omega), List.take_of_length_le (by omega)] at hq0;exact hq0
    clear hlm hq0;go_wp2;go_ret;exact ⟨by rw [hres.out]; rfl, hB⟩
 .
  have hres : Hid (r = false) := by unfold Hid;rw [<- hr, decide_eq_false];intro e;subst e;simp at g
  go_enter Tryz.func58, Tryz.ntmps58;go_wp2;go_ret;exact ⟨by rw [hres.out]; rfl, Below.refl _ _⟩
theorem neqPr (a b c d : ByteArray) (w : World) : (binOp .neq 77 (.agg #[.string a, .string b]) (.agg #[.string c, .string d])).run Tryz.prog w = .ok (.bool (!(a.toList == c.toList && b.toList == d.toList))) w := by
 have u9 := Tryz.underlying9;have a9 := Tryz.isAgg9;have z9 := Tryz.sizeOf9;have hS : Tryz.prog.underlying 77 = some (.struct (Tryz.prog.fieldsOf 77)) := by kernel_rfl
 have hp : Tryz.prog.stoodInHeld 77 = false := by kernel_rfl
 rw [run_neq_struct, show (10000 : Nat) = 9999 + 1 from rfl, run_equalIn_agg w 9999 77 _ _ hS hp];simp only [Program.fieldsOf, Tryz.underlying77];go_simp
 by_cases h1 : a.toList = c.toList <;> by_cases h2 : b.toList = d.toList <;> simp [h1, h2]
theorem zmJ (op : BinOp) (x y : Operand) (xs ys : Array Value) (w : World) : (eqGuard op 77 x y (.agg xs) (.agg ys)).run Tryz.prog w = .ok () w := run_eqGuard_agg w op _ x y xs ys (by kernel_rfl)
set_option maxHeartbeats 800000 in
theorem zdT (l m : List Kv) (a b : Option Addr) (c d : Nat) (w : World) (ha : KvsAt w a l) (hb : KvsAt w b m) (hl : l.length <= 9223372036854775807) (hm : m.length <= 9223372036854775807) :
  Calls Tryz.prog 24 #[.slice a l.length c, .slice b m.length d] w fun e w' => e = .returned (.bool (decide (l = m))) /\ Below w.heap.size w w' := by
 obtain ⟨r, hr⟩ : ∃ r, decide (l = m) = r := ⟨_, rfl⟩;rw [hr];cases g : ((l.length : Int) != (m.length : Int))
 .
  have hlm : l.length = m.length := by have := g; simp at this; omega
  go_enter Tryz.func24, Tryz.ntmps24;go_wp2
  go_loopw [5] (fun i wr => ∃ (k : Nat), k <= l.length /\ i = .int .i64 k /\ l.take k = m.take k /\ Below w.heap.size w wr) (fun i _ => l.length - (intOf i).toNat)
  case atStart => exact ⟨0, Nat.zero_le _, rfl, by simp, Below.refl _ _⟩
  case round =>
   obtain ⟨k, hk, rfl, hq0, hB⟩ := hrel
   by_cases hlt : k < l.length
   .
    have hlt' : k < m.length := by omega
    obtain ⟨ba, offa, rfl, hga, hc0, hc1⟩ := ha.cell hlt;obtain ⟨bb, offb, rfl, hgb, hd0, hd1⟩ := hb.cell hlt';have c0 := (hB.cell hga).trans hc0;have c1 := (hB.cell hga).trans hc1;have d0 := (hB.cell hgb).trans hd0;have d1 := (hB.cell hgb).trans hd1;clear hc0 hc1 hd0 hd1;have hne := neqPr l[k].1 l[k].2 m[k].1 m[k].2;have hgu := zmJ;cases hs : (l[k].1.toList == m[k].1.toList && l[k].2.toList == m[k].2.toList)
    .
     have hres : Hid (r = false) := by unfold Hid;rw [<- hr, decide_eq_false];intro e;subst e;simp at hs
     rw [hs] at hne;clear hlm hq0 hs;go_wp2;go_quiet (fail);go_wp2;go_ret;exact ⟨by rw [hres.out]; rfl, Below.drewN hB _⟩
    .
     have hst := zhI (zfp hlt hlt' hq0 (by
      simp only [Bool.and_eq_true, beq_iff_eq] at hs;exact Prod.ext (zaw hs.1) (zaw hs.2)))
     rw [hs] at hne;clear hlm hq0 hs;go_wp2;go_quiet (fail);go_wp2;go_roundw
     case rel => exact ⟨k + 1, by omega, by go_num, hst.out, Below.drewN hB _⟩
     case measure => simp [intOf]; omega
   .
    have hres : Hid (r = true) := by unfold Hid;rw [<- hr, decide_eq_true];rw [List.take_of_length_le (by omega), List.take_of_length_le (by omega)] at hq0;exact hq0
    clear hlm hq0;go_wp2;go_ret;exact ⟨by rw [hres.out]; rfl, hB⟩
 .
  have hres : Hid (r = false) := by unfold Hid;rw [<- hr, decide_eq_false];intro e;subst e;simp at g
  go_enter Tryz.func24, Tryz.ntmps24;go_wp2;go_ret;exact ⟨by rw [hres.out]; rfl, Below.refl _ _⟩
end Go.Proofs.YtlefmmhlpgmbjaaGreat
