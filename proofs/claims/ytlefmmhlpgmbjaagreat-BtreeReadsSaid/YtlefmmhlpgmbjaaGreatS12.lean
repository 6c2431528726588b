/- btree.write: writes in turn, then a flush. btree.Open, tree, Check: program's side. The child to which a key leads; a key among pairs: (*node).child, find, slices.BinarySearchFunc. -/
import Derived.Test.YtlefmmhlpgmbjaaGreatS11
import Derived.Test.YtlefmmhlpgmbjaaGreatS02
import Derived.Laws.Cover1
import Derived.Test.YtlefmmhlpgmbjaaGreatS01
namespace Go.Proofs.YtlefmmhlpgmbjaaGreat
set_option maxRecDepth 100000
open Go.RowKit
def RetVE (w : World) (d : Dsk) (er : Int) (e : Ending) (w' : World) : Prop := ∃ v, e = .returned (.tuple #[v, .int .i64 er]) /\ DskV w' v d /\ Below w.heap.size w w'
def wrOps (ws : List PW) : List DOp := ws.map (fun x => DOp.wr x.page x.data) ++ [.fl]
theorem zgv {d : Dsk} {o : DOp} : (opP d o).1.cache.length <= d.cache.length + 1 := by
 cases o with
 | wr i data =>
  unfold opP;rcases zh6 d i data with ⟨_, _, h⟩ | ⟨_, _, _, _, ⟨_, _, h⟩ | ⟨_, _, h⟩⟩
  . simp only [h]; simp [zeroD]
  . simp only [h]; omega
  . simp only [h]; simp
 | fl =>
  unfold opP;rcases zh1 d with ⟨_, _, h⟩ | ⟨_, _, _, h⟩ | ⟨_, _, _, h⟩
  . simp only [h]; simp [zeroD]
  . simp only [h]; omega
  . simp only [h]; simp
theorem ziY {d : Dsk} {ws : List PW} {k : Nat} (h : k < ws.length) : perfP d (wrOps (ws.drop k)) = if (zbc d ws[k].page ws[k].data).2 ≠ 0 then zbc d ws[k].page ws[k].data else perfP (zbc d ws[k].page ws[k].data).1 (wrOps (ws.drop (k + 1))) := by
 rw [List.drop_eq_getElem_cons h]; rfl
theorem zj6 (d : Dsk) : perfP d (wrOps []) = zbi d := by
 show (if (opP d .fl).2 ≠ 0 then opP d .fl else perfP (opP d .fl).1 []) = zbi d;have e : opP d .fl = zbi d := rfl;rw [e];split
 . rfl
 .
  rename_i h
  have : (zbi d).2 = 0 := by simpa using h
  rw [perfP];exact Prod.ext rfl this.symm
set_option maxRecDepth 100000 in
set_option maxHeartbeats 1600000 in
theorem zgk (d : Dsk) (v : Value) (ws : List PW) (o : Option Addr) (c : Nat) (w : World) (hD : DskV w v d) (ho : PWsAt (· < w.heap.size) w o ws) (hs : SlW o ws.length c) (hz : ∀ x ∈ ws, x.data.size <= 140737488351232) (hn : d.cache.length + ws.length <= 1000000) :
  Calls Tryz.prog 45 #[v, .slice o ws.length c] w (RetVE w (perfP d (wrOps ws)).1 (perfP d (wrOps ws)).2) := by
 have hD0 := hD;obtain ⟨po, pc, co, cc, rfl⟩ := hD.agg;obtain ⟨N, hN⟩ : ∃ N, w.heap.size = N := ⟨_, rfl⟩;obtain ⟨p, hp⟩ : ∃ p, perfP d (wrOps ws) = p := ⟨_, rfl⟩;rw [hp];obtain ⟨m, hm⟩ : ∃ m, ws.length = m := ⟨_, rfl⟩;have hcap : m <= c := by rcases hs with ⟨_, h, _⟩ | ⟨_, _, h, _⟩ <;> omega
 rw [hm] at hn |-;have Hm := zhI hm;clear hm;go_enter Tryz.func45, Tryz.ntmps45;go_wp2;have x0 : Bx ((w.alloc (.cells (dC d po co pc cc) 25)).alloc (.cells dZ 25)) N (dC d po co pc cc) 25 := by subst hN; exact (Bx.new w _ _).alloc _
 have x1 : Bx ((w.alloc (.cells (dC d po co pc cc) 25)).alloc (.cells dZ 25)) (N + 1) dZ 25 := by subst hN; exact Bx.newAt _ _ _ _ (by simp)
 have hB0 : Below w.heap.size w ((w.alloc (.cells (dC d po co pc cc) 25)).alloc (.cells dZ 25)) := (Below.one w _).alloc (by simp) _;have hV0 := hD0.below hB0;generalize ((w.alloc (.cells (dC d po co pc cc) 25)).alloc (.cells dZ 25)) = W0 at *
 go_loopw [12] (fun t wr => ∃ (k : Nat) (dk : Dsk) (po pc co cc : _), k <= m /\ t = .int .i64 k /\ Below w.heap.size w wr /\
  Bx wr N (dC dk po co pc cc) 25 /\ Bx wr (N + 1) dZ 25 /\ DskV wr (.agg (dC dk po co pc cc)) dk /\ dk.cache.length <= d.cache.length + k /\ Hid (perfP dk (wrOps (ws.drop k)) = p)) (fun t _ => m - (intOf t).toNat)
 case atStart => exact ⟨0, d, po, pc, co, cc, Nat.zero_le _, rfl, hB0, x0, x1, hV0, by omega, zhI hp⟩
 case round =>
  clear x0 x1 hV0 hB0 hD0;obtain ⟨k, dk, po, pc, co, cc, hk, rfl, hb, xX, xR, hV, hc, hpk⟩ := hrel;have hzb := hb.size
  by_cases hlt : k < m
  .
   have hlk : k < ws.length := by rw [Hm.out]; exact hlt
   obtain ⟨b, off, rfl, c0, c1, hbs⟩ := (ho.below hb) k hlk;have hdz := hz _ (List.getElem_mem hlk);have hpk2 := hpk.out;rw [ziY hlk] at hpk2;obtain ⟨⟨pg, dt⟩, hx⟩ : ∃ x : PW, ws[k] = x := ⟨_, rfl⟩;rw [hx] at c0 c1 hdz hpk2;simp only at c0 c1 hdz hpk2;obtain ⟨A, er, he⟩ : ∃ A er, zbc dk pg dt = (A, er) := ⟨_, _, rfl⟩;have hAc := zgv (d := dk) (o := .wr pg dt);rw [show opP dk (.wr pg dt) = (A, er) from he] at hAc;rw [he] at hpk2;have lb : b < wr.heap.size := znL hbs hzb;have hhd : (er ≠ 0 /\ (A, er) = p) \/ (er = 0 /\ perfP A (wrOps (ws.drop (k + 1))) = p) := by
    by_cases h : er = 0
    . right; refine ⟨h, ?_⟩; rw [if_neg (by simp [h])] at hpk2; exact hpk2
    . left; refine ⟨h, ?_⟩; rw [if_pos h] at hpk2; exact hpk2
   have Hhd := zhI hhd;have z1 := Below.one wr (.cells #[.int .i64 pg, .string dt] 80);have y0 := xX.belowAll z1;have y1 := xR.belowAll z1;have hV1 := hV.below z1;have hB1 := btr hb z1;have cX := y0.cell;unfold dC at cX;have lX := y0.lt;have hcall := zmE dk _ pg dt _ hV1 hdz (by omega) he;have Hcall := zhI hcall;clear hhd hpk hpk2 hx hcall hV xX xR hb z1 hV1;go_wp2_with fail;refine Hcall.out.mono ?_;rintro e w1 ⟨v1, rfl, hM1, hb1⟩;have hM2 := hM1;obtain ⟨po1, pc1, co1, cc1, rfl⟩ := hM1.agg;have y0 := y0.belowAll hb1;have y1 := y1.belowAll hb1;have hB1 := btr hB1 hb1;have hz1 := hB1.size;clear cX lX c0 c1 Hcall;obtain ⟨W2, hW2⟩ : ∃ W2, w1.alloc (.cells (dC A po1 co1 pc1 cc1) 25) = W2 := ⟨_, rfl⟩;have z2 : Below w1.heap.size w1 W2 := by subst hW2; exact Below.one w1 _
   have y0 := y0.belowAll z2;have y1 := y1.belowAll z2;have hB1 := btr hB1 z2;have hM2 := hM2.below z2;have hz1 := hB1.size;have x2 : Bx W2 w1.heap.size (dC A po1 co1 pc1 cc1) 25 := by subst hW2; exact Bx.new w1 _ _
   have cN := x2.cell;have lN := x2.lt;unfold dC at hW2 cN;clear z2 x2;cases g : (er != 0)
   .
    have ge : er = 0 := by simpa using g
    have hnext : perfP A (wrOps (ws.drop (k + 1))) = p := by rcases Hhd.out with h | h; exact absurd ge h.1; exact h.2
    have Hn := zhI hnext;have hAc : A.cache.length <= dk.cache.length + 1 := hAc;clear hnext Hhd ge;have cX := y0.cell;unfold dC at cX;have lX := y0.lt;have fX := y0.free;have hSB := zhI (zaB (b := N) (v0 := .int .i64 A.size) (v1 := .slice po1 A.pages.length pc1) (v2 := .slice co1 A.cache.length cc1) (v3 := .int .i64 A.left) hB1 (by omega));have hSX := zhI (y0.set4 (v0 := .int .i64 A.size) (v1 := .slice po1 A.pages.length pc1) (v2 := .slice co1 A.cache.length cc1) (v3 := .int .i64 A.left));have hSR := zhI (y1.setO4 (b' := N) (v0 := .int .i64 A.size) (v1 := .slice po1 A.pages.length pc1) (v2 := .slice co1 A.cache.length cc1) (v3 := .int .i64 A.left) (by omega));have hSM := zhI (hM2.only y0 (zfl _ _ _ _ _) (Only.four (v0 := .int .i64 A.size) (v1 := .slice po1 A.pages.length pc1) (v2 := .slice co1 A.cache.length cc1) (v3 := .int .i64 A.left)));clear y0 y1 hM1 hM2 hB1;go_wp2;go_roundw
    case rel => exact ⟨k + 1, A, po1, pc1, co1, cc1, by omega, by go_num, hSB.out, hSX.out, hSR.out, hSM.out, by omega, Hn⟩
    case measure => simp [intOf]; omega
   .
    have gp : (A, er) = p := by rcases Hhd.out with h | h; exact h.2; rw [h.1] at g; cases g
    subst gp;clear Hhd;have cR := y1.cell;have lR := y1.lt;have fR := y1.free;have HB := zhI (zaB (b := N + 1) (v0 := .int .i64 A.size) (v1 := .slice po1 A.pages.length pc1) (v2 := .slice co1 A.cache.length cc1) (v3 := .int .i64 A.left) hB1 (by omega));have HX := zhI (y1.set4 (v0 := .int .i64 A.size) (v1 := .slice po1 A.pages.length pc1) (v2 := .slice co1 A.cache.length cc1) (v3 := .int .i64 A.left));have HM := zhI (hM2.only y1 zjO (Only.four (v0 := .int .i64 A.size) (v1 := .slice po1 A.pages.length pc1) (v2 := .slice co1 A.cache.length cc1) (v3 := .int .i64 A.left)));clear y0 y1 hM1 hM2 hB1;go_wp2;have cZ := HX.out.cell;refine bodyPost_ret (v := .tuple #[.agg (dC A po1 co1 pc1 cc1), .int .i64 er]) (by simp [results, Tryz.results45, go_sem, cZ]) rfl ?_;exact ⟨_, rfl, HM.out, HB.out⟩
  .
   obtain rfl : k = m := by omega
   have hd0 : ws.drop k = [] := List.drop_of_length_le (by rw [Hm.out]; exact Nat.le_refl _);have hpk2 := hpk.out;rw [hd0, zj6] at hpk2;have cX := xX.cell;unfold dC at cX;have lX := xX.lt;obtain ⟨A, er⟩ := p;have hcall := zmW dk _ wr hV hpk2;have Hcall := zhI hcall;clear hcall hpk hpk2 hd0 hV xX;go_wp2_with fail;refine Hcall.out.mono ?_;rintro e w1 ⟨v1, rfl, hM1, hb1⟩;have hM2 := hM1;obtain ⟨po1, pc1, co1, cc1, rfl⟩ := hM1.agg;have y1 := xR.belowAll hb1;have hB1 := btr hb hb1;have cR := y1.cell;have lR := y1.lt;have fR := y1.free;have hz1 := hB1.size;have HB := zhI (zaB (b := N + 1) (v0 := .int .i64 A.size) (v1 := .slice po1 A.pages.length pc1) (v2 := .slice co1 A.cache.length cc1) (v3 := .int .i64 A.left) hB1 (by omega));have HX := zhI (y1.set4 (v0 := .int .i64 A.size) (v1 := .slice po1 A.pages.length pc1) (v2 := .slice co1 A.cache.length cc1) (v3 := .int .i64 A.left));have HM := zhI (hM2.only y1 zjO (Only.four (v0 := .int .i64 A.size) (v1 := .slice po1 A.pages.length pc1) (v2 := .slice co1 A.cache.length cc1) (v3 := .int .i64 A.left)));clear y1 hM1 hM2 hB1 xR hb hb1 Hcall cX lX;go_wp2;have cZ := HX.out.cell;refine bodyPost_ret (v := .tuple #[.agg (dC A po1 co1 pc1 cc1), .int .i64 er]) (by simp [results, Tryz.results45, go_sem, cZ]) rfl ?_;exact ⟨_, rfl, HM.out, HB.out⟩
def openP (d : Dsk) (frm til : Int) : Ix × Int :=
 if fitX d frm til ≠ 0 then (zeroX, fitX d frm til)
 else match readP d frm til with
  | none => (zeroX, 25)
  | some (x, _) => (x, 0)
def zat (x : Ix) : Option (Option Nd) :=
 if fitX x.disk x.frm x.til ≠ 0 then none
 else match readP x.disk x.frm x.til with
  | none => none
  | some (y, t) => if y.ver = x.ver /\ y.root = x.root /\ y.free = x.free then some t else none
def RetXE (w : World) (x : Ix) (er : Int) (e : Ending) (w' : World) : Prop := ∃ v, e = .returned (.tuple #[v, .int .i64 er]) /\ IxT w' v x /\ Below w.heap.size w w'
structure OpC (w : World) (N : Nat) (d : Dsk) (po co : Option Addr) (pc cc : Nat) (W : World) : Prop where
 dsk : Bx W N (dC d po co pc cc) 25
 res : Bx W (N + 1) ixZ 33
 below : Below w.heap.size w W
 val : DskV W (.agg (dC d po co pc cc)) d
 base : w.heap.size = N
 size : N + 1 < W.heap.size
theorem OpC.next {w : World} {N : Nat} {d : Dsk} {po co : Option Addr} {pc cc : Nat} {W W' : World} (h : OpC w N d po co pc cc W) (hb : Below W.heap.size W W') : OpC w N d po co pc cc W' :=
 ⟨h.dsk.belowAll hb, h.res.belowAll hb, btr h.below hb, h.val.below hb, h.base, znL h.size hb.size⟩
theorem zgB {d : Dsk} {frm til : Int} (h : fitX d frm til ≠ 0) : openP d frm til = (zeroX, fitX d frm til) := by unfold openP; rw [if_pos h]
theorem zjn {d : Dsk} {frm til : Int} (h : fitX d frm til = 0) (hr : readP d frm til = none) : openP d frm til = (zeroX, 25) := by unfold openP; rw [if_neg (by simpa using h), hr]
theorem zjj {d : Dsk} {frm til : Int} (h : fitX d frm til = 0) {x : Ix} {t : Option Nd} (hr : readP d frm til = some (x, t)) : openP d frm til = (x, 0) := by unfold openP; rw [if_neg (by simpa using h), hr]
set_option maxHeartbeats 1600000 in
theorem zmM (d : Dsk) (v : Value) (frm til : Int) (w : World) (hD : DskV w v d) :
  Calls Tryz.prog 16 #[v, .int .i64 frm, .int .i64 til] w (RetXE w (openP d frm til).1 (openP d frm til).2) := by
 have hD0 := hD;obtain ⟨po, pc, co, cc, rfl⟩ := hD.agg;obtain ⟨N, hN⟩ : ∃ N, w.heap.size = N := ⟨_, rfl⟩;obtain ⟨W0, hW0⟩ : ∃ W0, (w.alloc (.cells (dC d po co pc cc) 25)).alloc (.cells ixZ 33) = W0 := ⟨_, rfl⟩;have s0 : OpC w N d po co pc cc W0 := by subst hW0 hN;have HB := (Below.one w (.cells (dC d po co pc cc) 25)).alloc (by simp) (.cells ixZ 33);exact ⟨(Bx.new w (dC d po co pc cc) 25).alloc _, Bx.newAt _ _ _ _ (by simp), HB, hD0.below HB, rfl, by simp⟩
 clear hD;have cD := s0.dsk.cell;unfold dC at cD;have lD := s0.dsk.lt;have hch := zhM d _ W0 s0.val rfl;obtain ⟨ce, hce⟩ : ∃ c, chk d = c := ⟨_, rfl⟩;rw [hce] at hch;have Hch := zhI hch;have Hce := zhI hce;clear hch hce;go_enter Tryz.func16, Tryz.ntmps16;go_wp2_with fail;refine Hch.out.mono ?_;rintro e w1 ⟨rfl, hb1⟩;have s1 := s0.next hb1;clear s0 cD lD hb1 hW0;have cD := s1.dsk.cell;unfold dC at cD;have lD := s1.dsk.lt;cases hc : (ce != 0);rotate_left
 .
  have hne : chk d ≠ 0 := by rw [Hce.out]; simpa using hc
  have ho : openP d frm til = (zeroX, 1) := by
   have e : fitX d frm til = 1 := by unfold fitX; rw [if_pos hne]
   rw [zgB (by rw [e]; decide), e]
  clear hne;have Ho := zhI ho;have X0 := s1.res;have lX := X0.lt;have cX := X0.cell;have xf := X0.free;unfold ixZ at cX;have hBz := zhI (zad (b := N + 1) (v0 := .int .i64 0) (v1 := .slice none 0 0) (v2 := .slice none 0 0) (v3 := .int .i64 0) (v4 := .int .i64 0) (v5 := .int .i64 0) (v6 := .int .i64 0) (v7 := .int .i64 0) (v8 := .slice none 0 0) s1.below (by have := s1.base; omega));have Xz := zhI (X0.set9 (v0 := .int .i64 0) (v1 := .slice none 0 0) (v2 := .slice none 0 0) (v3 := .int .i64 0) (v4 := .int .i64 0) (v5 := .int .i64 0) (v6 := .int .i64 0) (v7 := .int .i64 0) (v8 := .slice none 0 0));clear ho X0;go_wp2;have cz := Xz.out.cell;simp only [st9, st8] at cz;refine bodyPost_ret (v := .tuple #[.agg ixZ, .int .i64 1]) (by simp [results, Tryz.results16, go_sem, cz]) rfl ?_;rw [Ho.out];exact ⟨_, rfl, IxT.zero _, hBz.out⟩
 have hc0 : chk d = 0 := by rw [Hce.out]; simpa using hc
 have Hc0 := zhI hc0;cases hft : fits5 d frm til
 .
  have ho : openP d frm til = (zeroX, 2) := by
   have e : fitX d frm til = 2 := by unfold fitX; rw [if_neg (by simpa using hc0), if_pos hft]
   rw [zgB (by rw [e]; decide), e]
  have hfit := zdA d _ frm til w1 hc0 hft s1.val;have Hfit := zhI hfit;clear hfit hc0 hft;go_wp2_with fail;refine Hfit.out.mono ?_;rintro e w2 ⟨rfl, hb2⟩;have s2 := s1.next hb2;clear s1 cD lD hb2 Hfit;have s1 := s2;have Ho := zhI ho;have X0 := s1.res;have lX := X0.lt;have cX := X0.cell;have xf := X0.free;unfold ixZ at cX;have hBz := zhI (zad (b := N + 1) (v0 := .int .i64 0) (v1 := .slice none 0 0) (v2 := .slice none 0 0) (v3 := .int .i64 0) (v4 := .int .i64 0) (v5 := .int .i64 0) (v6 := .int .i64 0) (v7 := .int .i64 0) (v8 := .slice none 0 0) s1.below (by have := s1.base; omega));have Xz := zhI (X0.set9 (v0 := .int .i64 0) (v1 := .slice none 0 0) (v2 := .slice none 0 0) (v3 := .int .i64 0) (v4 := .int .i64 0) (v5 := .int .i64 0) (v6 := .int .i64 0) (v7 := .int .i64 0) (v8 := .slice none 0 0));clear ho X0;go_wp2;have cz := Xz.out.cell;simp only [st9, st8] at cz;refine bodyPost_ret (v := .tuple #[.agg ixZ, .int .i64 2]) (by simp [results, Tryz.results16, go_sem, cz]) rfl ?_;rw [Ho.out];exact ⟨_, rfl, IxT.zero _, hBz.out⟩
 .
  have hfit := zdA d _ frm til w1 hc0 hft s1.val;have Hfit := zhI hfit;have hf0 : fitX d frm til = 0 := by unfold fitX; rw [if_neg (by simpa using hc0), if_neg (by simp [hft])]
  have Hf0 := zhI hf0;have Hft := zhI hft;clear hfit hc0 hft hf0;go_wp2_with fail;refine Hfit.out.mono ?_;rintro e w2 ⟨rfl, hb2⟩;have s2 := s1.next hb2;clear s1 cD lD hb2 Hfit;have cD := s2.dsk.cell;unfold dC at cD;have lD := s2.dsk.lt;have hop := zku d _ frm til w2 Hc0.out Hft.out s2.val;have Hop := zhI hop;clear hop;go_wp2_with fail;refine Hop.out.mono ?_;rintro e w3 ⟨hb3, hres⟩;have s3 := s2.next hb3;clear s2 cD lD Hop;cases hrd : readP d frm til with
  | none => rw [hrd] at hres;simp only at hres;subst hres;have ho := zjn Hf0.out hrd;have s1 := s3.next ((Below.refl _ w3).alloc (Nat.le_refl _) (.cells ixZ 33));clear hrd s3 hb3;have Ho := zhI ho;have X0 := s1.res;have lX := X0.lt;have cX := X0.cell;have xf := X0.free;unfold ixZ at cX;have hBz := zhI (zad (b := N + 1) (v0 := .int .i64 0) (v1 := .slice none 0 0) (v2 := .slice none 0 0) (v3 := .int .i64 0) (v4 := .int .i64 0) (v5 := .int .i64 0) (v6 := .int .i64 0) (v7 := .int .i64 0) (v8 := .slice none 0 0) s1.below (by have := s1.base; omega));have Xz := zhI (X0.set9 (v0 := .int .i64 0) (v1 := .slice none 0 0) (v2 := .slice none 0 0) (v3 := .int .i64 0) (v4 := .int .i64 0) (v5 := .int .i64 0) (v6 := .int .i64 0) (v7 := .int .i64 0) (v8 := .slice none 0 0));clear ho X0;go_wp2;have cz := Xz.out.cell;simp only [st9, st8] at cz;refine bodyPost_ret (v := .tuple #[.agg ixZ, .int .i64 25]) (by simp [results, Tryz.results16, go_sem, cz]) rfl ?_;rw [Ho.out];exact ⟨_, rfl, IxT.zero _, hBz.out⟩
  | some r => obtain ⟨x, t⟩ := r;rw [hrd] at hres;simp only at hres;obtain ⟨v, a, rfl, hv, -, -⟩ := hres;have ho := zjj Hf0.out hrd;have Ho := zhI ho;have hv0 := hv;obtain ⟨po', pc', co', cc', fo, fc, rfl, h1, h2, h3⟩ := hv;have hv1 := hv0.below ((Below.refl _ w3).alloc (Nat.le_refl _) (.cells (ixC x.disk po' co' pc' cc' x.frm x.til x.ver x.root fo x.free.length fc) 33));have s1 := s3.next ((Below.refl _ w3).alloc (Nat.le_refl _) (.cells (ixC x.disk po' co' pc' cc' x.frm x.til x.ver x.root fo x.free.length fc) 33));have X0 := s1.res;have lX := X0.lt;have cX := X0.cell;have xf := X0.free;unfold ixZ at cX;have hBz := zhI (zad (b := N + 1) (v0 := .int .i64 x.disk.size) (v1 := .slice po' x.disk.pages.length pc') (v2 := .slice co' x.disk.cache.length cc') (v3 := .int .i64 x.disk.left) (v4 := .int .i64 x.frm) (v5 := .int .i64 x.til) (v6 := .int .i64 x.ver) (v7 := .int .i64 x.root) (v8 := .slice fo x.free.length fc) s1.below (by have := s1.base; omega));have Xz := zhI (X0.set9 (v0 := .int .i64 x.disk.size) (v1 := .slice po' x.disk.pages.length pc') (v2 := .slice co' x.disk.cache.length cc') (v3 := .int .i64 x.disk.left) (v4 := .int .i64 x.frm) (v5 := .int .i64 x.til) (v6 := .int .i64 x.ver) (v7 := .int .i64 x.root) (v8 := .slice fo x.free.length fc));have Hx := zhI (hv1.only X0 (noS9 _ _ _ _ _ _ _ _ _ _ _ _ _ _ _) (by decide) (Only.nine (v0 := .int .i64 x.disk.size) (v1 := .slice po' x.disk.pages.length pc') (v2 := .slice co' x.disk.cache.length cc') (v3 := .int .i64 x.disk.left) (v4 := .int .i64 x.frm) (v5 := .int .i64 x.til) (v6 := .int .i64 x.ver) (v7 := .int .i64 x.root) (v8 := .slice fo x.free.length fc)));clear ho hrd s3 hb3 X0 s1 h1 h2 h3 hv0 hv1;go_wp2;have cz := Xz.out.cell;simp only [st9, st8] at cz;refine bodyPost_ret (v := .tuple #[.agg (ixC x.disk po' co' pc' cc' x.frm x.til x.ver x.root fo x.free.length fc), .int .i64 0]) (by simp [results, Tryz.results16, go_sem, cz]) rfl ?_;rw [Ho.out];exact ⟨_, rfl, Hx.out, hBz.out⟩
theorem zkY (fo go : Option Addr) (fc gc : Nat) (xs ys : List Int) (w : World) {S T : Nat -> Prop} (hs : SlW fo xs.length fc) (ht : SlW go ys.length gc) (hx : zas S w fo xs) (hy : zas T w go ys) :
  Calls Tryz.prog 99 #[.slice fo xs.length fc, .slice go ys.length gc] w fun e w' => e = .returned (.bool (decide (xs = ys))) /\ Below w.heap.size w w' := by
 by_cases hl : xs.length = ys.length
 .
  by_cases h0 : xs.length = 0
  . obtain rfl : xs = [] := List.eq_nil_of_length_eq_zero h0;obtain rfl : ys = [] := List.eq_nil_of_length_eq_zero (by rw [<- hl]; rfl);refine (Tryz.slices_Equal_int_empty fo go fc 0 gc w (by omega)).mono ?_;rintro e w' ⟨rfl, rfl⟩;exact ⟨by simp, Below.refl _ _⟩
  .
   obtain ⟨b1, o1, rfl, -, -⟩ := hx 0 (by omega);obtain ⟨b2, o2, rfl, -, -⟩ := hy 0 (by omega);have m1 : xs.length <= maxLen := by rcases hs with ⟨h, _⟩ | ⟨_, _, h1, h2⟩; cases h; omega
   unfold maxLen at m1;refine (Tryz.slices_Equal_int b1 o1 xs.length fc b2 o2 ys.length gc xs ys w (Nat.le_refl _) (Nat.le_refl _) (by omega) (by omega) (fun j hj => ?_) (fun j hj => ?_)).mono ?_
   .
    obtain ⟨b, off, e, hc, _⟩ := hx j hj;obtain ⟨rfl, rfl⟩ : b1 = b /\ o1 = off := by simpa using e
    rw [hc, List.getD_eq_getElem?_getD, List.getElem?_eq_getElem hj]; rfl
   .
    obtain ⟨b, off, e, hc, _⟩ := hy j hj;obtain ⟨rfl, rfl⟩ : b2 = b /\ o2 = off := by simpa using e
    rw [hc, List.getD_eq_getElem?_getD, List.getElem?_eq_getElem hj]; rfl
   .
    rintro e w' ⟨rfl, q, rfl⟩;rw [List.take_length, List.take_length];refine ⟨?_, Below.drewN (Below.refl _ _) q⟩;congr 2
    by_cases h : xs = ys <;> simp [h]
 .
  refine (Tryz.slices_Equal_int_lens fo go xs.length fc ys.length gc w hl).mono ?_;rintro e w' ⟨rfl, rfl⟩;have : decide (xs = ys) = false := by simp; rintro rfl; exact hl rfl
  rw [this];exact ⟨rfl, Below.refl _ _⟩
def zb6 (o : Option (Option Nd)) (w : World) (e : Ending) (w' : World) : Prop :=
 Below w.heap.size w w' /\ match o with
 | none => ∃ v, e = .returned (.tuple #[v, .bool false])
 | some t => ∃ a, e = .returned (.tuple #[rootV a, .bool true]) /\ LiesO w.heap.size w' a /\ ndO a = t
theorem zfw {x : Ix} (h : fitX x.disk x.frm x.til ≠ 0) : zat x = none := by unfold zat; rw [if_pos h]
theorem zhz {x : Ix} (h : readP x.disk x.frm x.til = none) : zat x = none := by unfold zat; rw [h]; split <;> rfl
theorem zh7 {x y : Ix} {t : Option Nd} (h : fitX x.disk x.frm x.til = 0) (hr : readP x.disk x.frm x.til = some (y, t)) : zat x = if y.ver = x.ver /\ y.root = x.root /\ y.free = x.free then some t else none := by
 unfold zat; rw [if_neg (by simpa using h), hr]
set_option maxHeartbeats 1600000 in
theorem zfN (x : Ix) (v : Value) (w : World) (hx : IxV w v x) : Calls Tryz.prog 59 #[v] w (zb6 (zat x) w) := by
 obtain ⟨po, pc, co, cc, fo, fc, rfl, h1, h2, h3⟩ := hx;obtain ⟨d, frm, til, ver, root, free⟩ := x;simp only at h1 h2 h3 |-;obtain ⟨N, hN⟩ : ∃ N, w.heap.size = N := ⟨_, rfl⟩;obtain ⟨R, hR⟩ : ∃ R, zb6 (zat ⟨d, frm, til, ver, root, free⟩) w = R := ⟨_, rfl⟩;rw [hR];have HR := zhI hR;obtain ⟨fn, hfn⟩ : ∃ n, free.length = n := ⟨_, rfl⟩;rw [hfn];obtain ⟨W0, hW0⟩ : ∃ W0, w.alloc (.cells (ixC d po co pc cc frm til ver root fo fn fc) 33) = W0 := ⟨_, rfl⟩;have xX : Bx W0 N (ixC d po co pc cc frm til ver root fo fn fc) 33 := by subst hW0 hN; exact Bx.new w _ _
 have hB0 : Below w.heap.size w W0 := by subst hW0; exact Below.one w _
 have hV0 := h1.below hB0;have Hfn := zhI hfn;have H2 := zhI h2;have H3 : Hid (zas (· < w.heap.size) w fo free) := zhI h3;have hch := zhM d _ W0 hV0 rfl;obtain ⟨ce, hce⟩ : ∃ c, chk d = c := ⟨_, rfl⟩;rw [hce] at hch;have Hch := zhI hch;have Hce := zhI hce;have cX := xX.cell;have lX := xX.lt;unfold ixC at cX hW0;clear hch hce hR hfn h1 h2 h3;go_enter Tryz.func59, Tryz.ntmps59;go_wp2_with fail;refine Hch.out.mono ?_;rintro e w1 ⟨rfl, hb1⟩;have xX1 := xX.belowAll hb1;have hB1 := btr hB0 hb1;have hV1 := hV0.below hb1;clear cX lX hW0 xX hB0 hV0 Hch hb1;have cX := xX1.cell;have lX := xX1.lt;unfold ixC at cX;cases hc : (ce != 0);rotate_left
 .
  have HP : Hid (zat ⟨d, frm, til, ver, root, free⟩ = none) := zhI (zfw (by
   have : chk d ≠ 0 := by rw [Hce.out]; simpa using hc
   unfold fitX; rw [if_pos this]; decide))
  go_wp2;rw [<- HR.out];unfold zb6;rw [HP.out];exact ⟨hB1, _, rfl⟩
 have hc0 : chk d = 0 := by rw [Hce.out]; simpa using hc
 have Hc0 := zhI hc0;cases hft : fits5 d frm til
 .
  have HP : Hid (zat ⟨d, frm, til, ver, root, free⟩ = none) := zhI (zfw (by
   unfold fitX; rw [if_neg (by simpa using hc0), if_pos hft]; decide))
  have hfit := zdA d _ frm til w1 hc0 hft hV1;have Hfit := zhI hfit;clear hfit hc0 hft;go_wp2_with fail;refine Hfit.out.mono ?_;rintro e w2 ⟨rfl, hb2⟩;have hB2 := btr hB1 hb2;clear Hfit cX lX;go_wp2;rw [<- HR.out];unfold zb6;rw [HP.out];exact ⟨hB2, _, rfl⟩
 .
  have hfit := zdA d _ frm til w1 hc0 hft hV1;have Hfit := zhI hfit;have hf0 : fitX d frm til = 0 := by unfold fitX; rw [if_neg (by simpa using hc0), if_neg (by simp [hft])]
  have Hf0 := zhI hf0;have Hft := zhI hft;clear hfit hc0 hft hf0;go_wp2_with fail;refine Hfit.out.mono ?_;rintro e w2 ⟨rfl, hb2⟩;have hB2 := btr hB1 hb2;have xX2 := xX1.belowAll hb2;have hV2 := hV1.below hb2;clear cX lX xX1 hB1 hV1 Hfit hb2;have cX := xX2.cell;have lX := xX2.lt;unfold ixC at cX;have hop := zku d _ frm til w2 Hc0.out Hft.out hV2;have Hop := zhI hop;clear hop;go_wp2_with fail;refine Hop.out.mono ?_;rintro e w3 ⟨hb3, hres⟩;have hB3 := btr hB2 hb3;have xX3 := xX2.belowAll hb3;clear cX lX xX2 Hop hb3;have cX := xX3.cell;have lX := xX3.lt;unfold ixC at cX;cases hrd : readP d frm til with
  | none => rw [hrd] at hres;simp only at hres;subst hres;have HP : Hid (zat ⟨d, frm, til, ver, root, free⟩ = none) := zhI (zhz hrd);have hB4 := hB3.alloc hB3.size (.cells ixZ 33);clear hrd;go_wp2;rw [<- HR.out];unfold zb6;rw [HP.out];exact ⟨hB4, _, rfl⟩
  | some r =>
   obtain ⟨y, t⟩ := r;rw [hrd] at hres;simp only at hres;obtain ⟨v, a, rfl, hv, hLO, hnd⟩ := hres;obtain ⟨po', pc', co', cc', go, gc, rfl, h1, h2, h3⟩ := hv;have hvs := zh7 (x := ⟨d, frm, til, ver, root, free⟩) Hf0.out hrd;obtain ⟨yd, yf, yt, yv, yr, yfr⟩ := y;simp only at h1 h2 h3 hvs |-;have Hvs := zhI hvs;obtain ⟨p, hp⟩ : ∃ p, rootV a = .pointer p := by cases a with
    | none => exact ⟨none, rfl⟩
    | some t => exact ⟨_, rfl⟩
   rw [hp];have hb4 : Below w3.heap.size w3 (w3.alloc (.cells (ixC yd po' co' pc' cc' yf yt yv yr go yfr.length gc) 33)) := Below.one w3 _;have hB4 := btr hB3 hb4;have HL4 : Hid (LiesO w.heap.size (w3.alloc (.cells (ixC yd po' co' pc' cc' yf yt yv yr go yfr.length gc) 33)) a) := zhI (fun t ht => by obtain ⟨q1, q2, q3⟩ := hLO t ht;exact ⟨(q1.down hB2.size).staysAll hb4, q2, q3⟩)
   have heq := zkY go fo gc fc yfr free (w3.alloc (.cells (ixC yd po' co' pc' cc' yf yt yv yr go yfr.length gc) 33)) h2 H2.out (h3.at.below hb4) (H3.out.below hB4);rw [Hfn.out] at heq;have Heq := zhI heq;have Hp := zhI hp;have Hnd := zhI hnd;unfold ixC at HL4 Heq hb4 hB4;clear hrd hvs hp heq hLO hnd h1 h2 h3;cases g1 : (yv == ver)
   . have HP : Hid (zat ⟨d, frm, til, ver, root, free⟩ = none) := zhI (by rw [Hvs.out, if_neg (fun h => by simp [h.1] at g1)]);go_wp2;rw [<- HR.out];unfold zb6;rw [HP.out];exact ⟨hB4, _, rfl⟩
   have e1 : yv = ver := by simpa using g1
   have E1 := zhI e1;clear e1;cases g2 : (yr == root)
   . have HP : Hid (zat ⟨d, frm, til, ver, root, free⟩ = none) := zhI (by rw [Hvs.out, if_neg (fun h => by simp [h.2.1] at g2)]);go_wp2;rw [<- HR.out];unfold zb6;rw [HP.out];exact ⟨hB4, _, rfl⟩
   have e2 : yr = root := by simpa using g2
   have E2 := zhI e2;clear e2;go_wp2_with fail;refine Heq.out.mono ?_;rintro e w5 ⟨rfl, hb5⟩;have hB5 := btr hB4 hb5
   by_cases g3 : yfr = free
   .
    have HP : Hid (zat ⟨d, frm, til, ver, root, free⟩ = some t) := zhI (by rw [Hvs.out, if_pos ⟨E1.out, E2.out, g3⟩]);rw [decide_eq_true g3];have HL5 := zhI (fun t ht => by obtain ⟨q1, q2, q3⟩ := HL4.out t ht;exact ⟨q1.staysAll hb5, q2, q3⟩ : LiesO w.heap.size w5 a)
    clear g3 HL4;go_wp2;rw [<- HR.out];unfold zb6;rw [HP.out];exact ⟨hB5, a, by rw [Hp.out]; rfl, HL5.out, Hnd.out⟩
   . have HP : Hid (zat ⟨d, frm, til, ver, root, free⟩ = none) := zhI (by rw [Hvs.out, if_neg (fun h => g3 h.2.2)]);rw [decide_eq_false g3];clear g3;go_wp2;rw [<- HR.out];unfold zb6;rw [HP.out];exact ⟨hB5, _, rfl⟩
set_option maxHeartbeats 800000 in
theorem zl0 (x : Ix) (v : Value) (w : World) (hx : IxV w v x) {er : Int} (her : (if zat x = none then 1 else 0) = er) : Calls Tryz.prog 25 #[v] w fun e w' => e = .returned (.int .i64 er) /\ Below w.heap.size w w' := by
 have hx0 := hx;obtain ⟨po, pc, co, cc, fo, fc, rfl, -, -, -⟩ := hx;have hB0 := Below.one w (.cells (ixC x.disk po co pc cc x.frm x.til x.ver x.root fo x.free.length fc) 33);have htr := zfN x _ _ (hx0.below hB0);have Htr := zhI htr;have Her := zhI her;clear htr hx0 her;go_enter Tryz.func25, Tryz.ntmps25;go_wp2_with fail;refine Htr.out.mono ?_;rintro e w1 ⟨hb1, hres⟩;have hB1 := btr hB0 hb1;cases hv : zat x with
 | none => rw [hv] at hres;obtain ⟨u, rfl⟩ := hres;have He : Hid (er = 1) := zhI (by rw [<- Her.out, hv]; rfl);clear hv;go_wp2;go_ret;exact ⟨by rw [He.out]; rfl, hB1⟩
 | some t => rw [hv] at hres;obtain ⟨a, rfl, -, -⟩ := hres;have He : Hid (er = 0) := zhI (by rw [<- Her.out, hv]; rfl);clear hv;go_wp2;go_ret;exact ⟨by rw [He.out]; rfl, hB1⟩
theorem zf1 : ∀ a b : List UInt8, (Lib.compareBytes a b = -1 /\ Go.Op.bytesLess a b = true) \/ (Lib.compareBytes a b = 0 /\ a = b) \/ (Lib.compareBytes a b = 1 /\ Go.Op.bytesLess b a = true)
 | [], [] => .inr (.inl ⟨rfl, rfl⟩)
 | [], _ :: _ => .inl ⟨rfl, by simp [Go.Op.bytesLess]⟩
 | _ :: _, [] => .inr (.inr ⟨rfl, by simp [Go.Op.bytesLess]⟩)
 | x :: a, y :: b => by
  rw [Lib.compareBytes]
  by_cases h1 : x < y
  . rw [if_pos h1];exact .inl ⟨rfl, by rw [Go.Op.bytesLess]; simp [h1]⟩
  .
   rw [if_neg h1]
   by_cases h2 : y < x
   . rw [if_pos h2];exact .inr (.inr ⟨rfl, by rw [Go.Op.bytesLess]; simp [h2]⟩)
   .
    rw [if_neg h2];obtain rfl : x = y := UInt8.le_antisymm (UInt8.not_lt.1 h2) (UInt8.not_lt.1 h1);rcases zf1 a b with ⟨e, h⟩ | ⟨e, h⟩ | ⟨e, h⟩
    . exact .inl ⟨e, by rw [Go.Op.bytesLess]; simp [h]⟩
    . exact .inr (.inl ⟨e, by rw [h]⟩)
    . exact .inr (.inr ⟨e, by rw [Go.Op.bytesLess]; simp [h]⟩)
def cmpK (a b : ByteArray) : Int := Lib.compareBytes a.data.toList b.data.toList
theorem zm9 (a b : ByteArray) : cmpK a b < 0 ↔ kLt a b = true := by
 unfold cmpK kLt;rw [ByteArray.toList_eq, ByteArray.toList_eq];rcases zf1 a.data.toList b.data.toList with ⟨e, h⟩ | ⟨e, h⟩ | ⟨e, h⟩
 . rw [e, h]; simp
 . rw [e, h, zbF]; simp
 .
  rw [e];have : Go.Op.bytesLess a.data.toList b.data.toList = false := by
   cases g : Go.Op.bytesLess a.data.toList b.data.toList
   . rfl
   . have := zge g h; rw [zbF] at this; cases this
  rw [this]; simp
theorem zmI (a b : ByteArray) : cmpK a b = 0 ↔ a = b := by
 unfold cmpK;rcases zf1 a.data.toList b.data.toList with ⟨e, h⟩ | ⟨e, h⟩ | ⟨e, h⟩
 .
  rw [e]; constructor
  . intro h; cases h
  . rintro rfl; rw [zbF] at h; cases h
 . rw [e]; exact ⟨fun _ => ByteArray.ext (Array.ext' h), fun _ => rfl⟩
 .
  rw [e]; constructor
  . intro h; cases h
  . rintro rfl; rw [zbF] at h; cases h
theorem znr (k v key : ByteArray) (w : World) : Calls Tryz.prog 139 #[.agg #[.string k, .string v], .string key] w fun e w' => e = .returned (.int .i64 (cmpK k key)) /\ Below w.heap.size w w' := by
 have hc := fun W => Tryz.strings_Compare k key W;go_enter Tryz.func139, Tryz.ntmps139;go_wp2_with fail;refine (hc _).mono ?_;rintro e w' ⟨rfl, rfl⟩;go_wp2;go_ret;exact ⟨rfl, Below.one _ _⟩
def findI (ps : List Kv) (key : ByteArray) : Nat := (ps.takeWhile fun p => kLt p.1 key).length
def findB (ps : List Kv) (key : ByteArray) : Bool := decide ((ps[findI ps key]?).map (·.1) = some key)
theorem zee (ps : List Kv) (key : ByteArray) : findI ps key <= ps.length := (List.takeWhile_prefix _).length_le
theorem zln {ps : List Kv} (h : Asc ps) (key : ByteArray) {i : Nat} (hi : i < ps.length) : i < findI ps key ↔ kLt ps[i].1 key = true := by
 unfold findI
 induction ps generalizing i with
 | nil => simp at hi
 | cons x l ih =>
  obtain ⟨h1, h2⟩ := List.pairwise_cons.1 h;rw [List.takeWhile_cons]
  by_cases hx : kLt x.1 key = true
  .
   rw [if_pos hx];cases i with
   | zero => simp [hx]
   | succ i => have := ih h2 (i := i) (by simpa using hi);simpa using this
  .
   rw [if_neg hx];cases i with
   | zero => simp [hx]
   | succ i =>
    have hi' : i < l.length := by simpa using hi
    have h3 := h1 l[i] (List.getElem_mem hi');simp only [List.length_nil, Nat.not_lt_zero, false_iff, List.getElem_cons_succ];intro h4;exact hx (zaX h3 h4)
set_option maxHeartbeats 1600000 in
theorem znv (base : Nat) (v : Value) (ps : List Kv) (key : ByteArray) (w : World) (h : RowO w base 77 2 v ps.length (kvsC ps)) (ha : Asc ps) (hl : ps.length <= 1000000) :
  Calls Tryz.prog 138 #[v, .string key, .func (.func 139) #[] #[]] w fun e w' => e = .returned (.tuple #[.int .i64 (findI ps key), .bool (findB ps key)]) /\ Below w.heap.size w w' := by
 obtain ⟨o, c, rfl, hs, -⟩ := h.at;obtain ⟨F, hF⟩ : ∃ F, findI ps key = F := ⟨_, rfl⟩;have hFn := zee ps key;have hfl : ∀ (i : Nat) (hi : i < ps.length), i < findI ps key ↔ kLt ps[i].1 key = true := fun i hi => zln ha key hi;obtain ⟨fb, hfb⟩ : ∃ b, findB ps key = b := ⟨_, rfl⟩;rw [hF] at hFn |-;rw [hfb];have hfb2 : ∀ hi : F < ps.length, (ps[F].1 = key ↔ fb = true) := fun hi => by rw [<- hfb]; unfold findB; rw [hF, List.getElem?_eq_getElem hi]; simp
 have hfb3 : ¬ F < ps.length -> fb = false := fun hi => by rw [<- hfb]; unfold findB; rw [hF, List.getElem?_eq_none (by omega)]; simp
 rw [hF] at hfl;have Hfl := zhI hfl;have Hfb2 := zhI hfb2;have Hfb3 := zhI hfb3;have Hrow := zhI h;obtain ⟨n, hn⟩ : ∃ n, ps.length = n := ⟨_, rfl⟩;have hcap : n <= c := by rcases hs with ⟨_, h, _⟩ | ⟨_, _, h, _⟩ <;> omega
 rw [hn] at hFn hl |-;have Hn := zhI hn;clear hn hfl hfb2 hfb3 hF hfb h hs ha;have hcmp := fun k v W => znr k v key W;have Hcmp := zhI hcmp;clear hcmp;go_enter Tryz.func138, Tryz.ntmps138;go_wp2
 go_loopw [9, 10] (fun i j wr => ∃ a b : Nat, i = .int .i64 a /\ j = .int .i64 b /\ a <= F /\ F <= b /\ b <= n /\ Below w.heap.size w wr) (fun i j _ => (intOf j).toNat - (intOf i).toNat)
 case atStart => exact ⟨0, n, rfl, rfl, Nat.zero_le _, hFn, Nat.le_refl _, Below.refl _ _⟩
 case round =>
  obtain ⟨a, b, rfl, rfl, haF, hFb, hbn, hB⟩ := hrel;have hz := hB.size
  by_cases hlt : a < b
  .
   have hlk : (a + b) / 2 < ps.length := by rw [Hn.out]; omega
   obtain ⟨g, c', e, c0, c1, -, hg⟩ := zb9 Hrow.out hlk;obtain ⟨rfl, rfl⟩ : o = some ⟨g, 0, none⟩ /\ c = c' := by simpa using e
   have hgl := (Hrow.out.lt g hg).2;have d0 : wr.cell? ⟨g, (a + b) / 2 * 2, none⟩ = some (.string ps[(a + b) / 2].1) := by rw [hB.cell hgl]; exact c0
   have d1 : wr.cell? ⟨g, (a + b) / 2 * 2 + 1, none⟩ = some (.string ps[(a + b) / 2].2) := by rw [hB.cell hgl]; exact c1
   have hgr : g < wr.heap.size := by omega
   have Hlt := zhI (Hfl.out _ hlk);obtain ⟨⟨ky, vy⟩, hkv⟩ : ∃ p : Kv, ps[(a + b) / 2] = p := ⟨_, rfl⟩;rw [hkv] at d0 d1 Hlt;simp only at d0 d1;have hcl := zm9 ky key;obtain ⟨r, hr⟩ : ∃ r, cmpK ky key = r := ⟨_, rfl⟩;have hcall := Hcmp.out ky vy wr;rw [hr] at hcall hcl;have Hcall := zhI hcall;have Hcl := zhI hcl;have HB := zhI hB;clear hkv c0 c1 e hg hcall hcl hr hlk hB
   by_cases hr0 : r < 0
   .
    have hmF : (a + b) / 2 < F := Hlt.out.2 (Hcl.out.1 hr0);have HmF := zhI hmF;clear hmF;go_wp2_with (refine Hcall.out.mono ?_; rintro e w2 ⟨rfl, hb2⟩);go_roundw
    case rel => have := HmF.out; exact ⟨(a + b) / 2 + 1, b, by rw [show ((a : Int) + (b : Int)) / 2 + 1 = (((a + b) / 2 + 1 : Nat) : Int) by omega], rfl, by omega, hFb, hbn, Below.then HB.out hb2 hz⟩
    case measure => simp [intOf]; omega
   .
    have hmF : ¬ (a + b) / 2 < F := fun h => hr0 (Hcl.out.2 (Hlt.out.1 h));have HmF := zhI hmF;clear hmF;go_wp2_with (refine Hcall.out.mono ?_; rintro e w2 ⟨rfl, hb2⟩);go_roundw
    case rel => have := HmF.out; exact ⟨a, (a + b) / 2, rfl, by rw [show ((a : Int) + (b : Int)) / 2 = (((a + b) / 2 : Nat) : Int) by omega], haF, by omega, by omega, Below.then HB.out hb2 hz⟩
    case measure => simp [intOf]; omega
  .
   obtain rfl : a = F := by omega
   obtain rfl : b = a := by omega
   by_cases hbn2 : b < n
   .
    have hlk : b < ps.length := by rw [Hn.out]; exact hbn2
    obtain ⟨g, c', e, c0, c1, -, hg⟩ := zb9 Hrow.out hlk;obtain ⟨rfl, rfl⟩ : o = some ⟨g, 0, none⟩ /\ c = c' := by simpa using e
    have hgl := (Hrow.out.lt g hg).2;have d0 : wr.cell? ⟨g, b * 2, none⟩ = some (.string ps[b].1) := by rw [hB.cell hgl]; exact c0
    have d1 : wr.cell? ⟨g, b * 2 + 1, none⟩ = some (.string ps[b].2) := by rw [hB.cell hgl]; exact c1
    have hgr : g < wr.heap.size := by omega
    have Hfb := zhI (Hfb2.out hlk);obtain ⟨⟨ky, vy⟩, hkv⟩ : ∃ p : Kv, ps[b] = p := ⟨_, rfl⟩;rw [hkv] at d0 d1 Hfb;simp only at d0 d1;have hcl := zmI ky key;obtain ⟨r, hr⟩ : ∃ r, cmpK ky key = r := ⟨_, rfl⟩;have hcall := Hcmp.out ky vy wr;rw [hr] at hcall hcl;have Hcall := zhI hcall;have Hcl := zhI hcl;have HB := zhI hB;clear hkv c0 c1 e hg hcall hcl hr hlk hB;cases hr0 : (r == 0)
    .
     have hf : fb = false := by
      cases fb
      . rfl
      . exact absurd (Hcl.out.2 (Hfb.out.2 rfl)) (by simpa using hr0)
     subst hf;go_wp2_with (refine Hcall.out.mono ?_; rintro e w2 ⟨rfl, hb2⟩);refine bodyPost_ret (v := .tuple #[.int .i64 b, .bool false]) (by simp [results, Tryz.results138, go_sem]) rfl ?_;exact ⟨rfl, Below.then HB.out hb2 hz⟩
    . have hf : fb = true := Hfb.out.1 (Hcl.out.1 (by simpa using hr0));subst hf;go_wp2_with (refine Hcall.out.mono ?_; rintro e w2 ⟨rfl, hb2⟩);refine bodyPost_ret (v := .tuple #[.int .i64 b, .bool true]) (by simp [results, Tryz.results138, go_sem]) rfl ?_;exact ⟨rfl, Below.then HB.out hb2 hz⟩
   . have hf := Hfb3.out (by rw [Hn.out]; exact hbn2);subst hf;go_wp2;refine bodyPost_ret (v := .tuple #[.int .i64 b, .bool false]) (by simp [results, Tryz.results138, go_sem]) rfl ?_;exact ⟨rfl, hB⟩
theorem zhF (base : Nat) (b : Nat) (leaf : Bool) (pv kv : Value) (page : Int) (ps : List Kv) (key : ByteArray) (w : World) (hx : Bx w b (nodeC leaf pv kv page) 129) (h : RowO w base 77 2 pv ps.length (kvsC ps)) (ha : Asc ps) (hl : ps.length <= 1000000) :
  Calls Tryz.prog 101 #[.pointer (some ⟨b, 0, none⟩), .string key] w fun e w' => e = .returned (.tuple #[.int .i64 (findI ps key), .bool (findB ps key)]) /\ Below w.heap.size w w' := by
 have hb := znv base pv ps key w h ha hl;obtain ⟨o, c, rfl, -, -⟩ := h.at;have Hb := zhI hb;have cX := hx.cell;have lX := hx.lt;unfold nodeC at cX;clear hb h ha;go_enter Tryz.func101, Tryz.ntmps101;go_wp2_with fail;refine Hb.out.mono ?_;rintro e w2 ⟨rfl, hb2⟩;go_wp2;refine bodyPost_ret (v := .tuple #[.int .i64 (findI ps key), .bool (findB ps key)]) (by simp [results, Tryz.results101, go_sem]) rfl ?_;exact ⟨rfl, hb2⟩
def chP (key : ByteArray) (l : List Nd) : Nat := (l.takeWhile fun k => !kLt key k.least).length
theorem zmT (key : ByteArray) : chP key [] = 0 := rfl
theorem znw (key : ByteArray) (l : List Nd) : chP key l <= l.length := (List.takeWhile_prefix _).length_le
theorem zaG {kids : List Nd} (key : ByteArray) (h : kids ≠ []) : zav kids key < kids.length := by
 have : zav kids key <= kids.tail.length := znw key kids.tail;rw [List.length_tail] at this;have : 0 < kids.length := List.length_pos_iff.2 h;omega
theorem zlj {key : ByteArray} {l : List Nd} {k : Nat} (h : k < l.length) : chP key (l.drop k) = if kLt key l[k].least = true then 0 else 1 + chP key (l.drop (k + 1)) := by
 unfold chP;rw [List.drop_eq_getElem_cons h, List.takeWhile_cons];cases kLt key l[k].least <;> simp <;> omega
set_option maxHeartbeats 1600000 in
theorem zgo (base : Nat) (t : AT) (key : ByteArray) (w : World) (h : Lies base w t) (hk0 : t.kids ≠ []) (hf : ∀ c ∈ t.kids, c.nd.first = true) (hl : t.kids.length <= 1000) :
  Calls Tryz.prog 100 #[t.ptr, .string key] w fun e w' => e = .returned (.int .i64 (zav (t.kids.map AT.nd) key)) /\ w' = w := by
 obtain ⟨b, pv, kv, ps, kids, page⟩ := t;simp only [AT.kids] at hk0 hf hl |-;have hx := h.hx;have hk := h.hk;have hc := h.hc;simp only [AT.b, AT.pv, AT.kv, AT.kids, AT.page] at hx hk hc;simp only [AT.ptr, AT.b];have hk1 : 0 < kids.length := List.length_pos_iff.2 hk0;obtain ⟨g, c, rfl, -, hle, hg⟩ := zaY (i := 0) hk hk1;have hgl := (hk.lt g hg).2;have hpt : ∀ i (hi : i < kids.length), w.cell? ⟨g, i, none⟩ = some (.pointer (some ⟨kids[i].b, 0, none⟩)) := fun i hi => by
  obtain ⟨g', c', e, hcell, -, -⟩ := zaY hk hi;obtain ⟨rfl, rfl⟩ : g = g' /\ c = c' := by simpa using e
  exact hcell
 obtain ⟨K, hK⟩ : ∃ K, kids.map AT.nd = K := ⟨_, rfl⟩;have hKl : K.length = kids.length := by rw [<- hK, List.length_map]
 obtain ⟨n, hn⟩ : ∃ n, kids.length = n := ⟨_, rfl⟩;have hcp : zav K key = chP key (K.drop 1) := by unfold zav chP; rw [List.drop_one]
 rw [hK, hcp];obtain ⟨R, hR⟩ : ∃ R, chP key (K.drop 1) = R := ⟨_, rfl⟩;rw [hR];rw [hn] at hx hl hle hk1 hKl;have HR := zhI hR;have Hn := zhI hn;have HK := zhI hK;have HKl := zhI hKl;have Hpt := zhI hpt;have cX := hx.cell;have lX := hx.lt;unfold nodeC at cX;clear hR hn hK hKl hpt hcp hx hk h hk0 hg;go_enter Tryz.func100, Tryz.ntmps100;go_wp2
 go_loopw [5] (fun i wr => ∃ k : Nat, i = .int .i64 k /\ k < n /\ Hid (R = k + chP key (K.drop (k + 1))) /\ wr = w) (fun i _ => n - (intOf i).toNat)
 case atStart => exact ⟨0, rfl, hk1, zhI (by simpa using HR.out.symm), rfl⟩
 case round =>
  obtain ⟨k, rfl, hkn, Hrk, rfl⟩ := hrel
  by_cases hlt : k + 1 < n
  .
   have hlk : k + 1 < kids.length := by rw [Hn.out]; exact hlt
   have hlK : k + 1 < K.length := by rw [HKl.out]; exact hlt
   have hKk : K[k + 1] = kids[k + 1].nd := by simp only [<- HK.out, List.getElem_map]
   have d0 := Hpt.out (k + 1) hlk;have hls := ziL base kids[k + 1] wr (hc _ (List.getElem_mem hlk)) (hf _ (List.getElem_mem hlk));have Hd := zhI (zlj (key := key) hlK);rw [hKk] at Hd;obtain ⟨lk, hlkk⟩ : ∃ s, kids[k + 1].nd.least = s := ⟨_, rfl⟩;obtain ⟨cb, hcb⟩ : ∃ x, kids[k + 1].b = x := ⟨_, rfl⟩;unfold AT.ptr at hls;rw [hlkk] at hls Hd;rw [hcb] at hls d0;have Hls := zhI hls;have hlt' : (k : Int) + 1 < (n : Int) := by omega
   clear hls hlkk hcb hKk hlk hlK;cases hlq : kLt key lk with
   | true =>
    have q1 : Go.Op.bytesLess lk.toList key.toList = false := zgE hlq;have q2 : ¬ lk.toList = key.toList := fun e => zcd hlq (zaw e.symm);have q3 : (lk.toList == key.toList) = false := by rw [beq_eq_false_iff_ne]; exact q2
    have hend : Hid (R = k) := zhI (by rw [Hrk.out, Hd.out, if_pos hlq]; rfl);clear Hrk Hd hlq;go_wp2_with (refine Hls.out.mono ?_; rintro e w2 ⟨rfl, rfl⟩);go_ret;exact ⟨by rw [hend.out]; rfl, rfl⟩
   | false =>
    have hnx : Hid (R = (k + 1) + chP key (K.drop (k + 1 + 1))) := zhI (by rw [Hrk.out, Hd.out, if_neg (by rw [hlq]; decide)]; omega);cases hl2 : kLt lk key with
    | true =>
     have q1 : Go.Op.bytesLess lk.toList key.toList = true := hl2;clear Hrk Hd hlq hl2;go_wp2_with (refine Hls.out.mono ?_; rintro e w2 ⟨rfl, rfl⟩);go_roundw
     case rel => exact ⟨k + 1, by go_num, hlt, hnx, trivial⟩
     case measure => simp [intOf]; omega
    | false =>
     obtain rfl : lk = key := zbU hl2 hlq;have q1 : Go.Op.bytesLess lk.toList lk.toList = false := zbF _;clear Hrk Hd hlq hl2;go_wp2_with (refine Hls.out.mono ?_; rintro e w2 ⟨rfl, rfl⟩);go_roundw
     case rel => exact ⟨k + 1, by go_num, hlt, hnx, trivial⟩
     case measure => simp [intOf]; omega
  .
   have hend : Hid (R = k) := zhI (by rw [Hrk.out, List.drop_of_length_le (by rw [HKl.out]; omega), zmT]; rfl);have hlt' : ¬ (k : Int) + 1 < (n : Int) := by omega
   clear Hrk;go_wp2;go_ret;exact ⟨by rw [hend.out]; rfl, rfl⟩
end Go.Proofs.YtlefmmhlpgmbjaaGreat
