/- btree.write: writes in turn, then a flush. btree.Open, tree, Check: program's side. btree.Format = fmtX. Lazy, from the operation k on: what stands ahead of it has yielded already. -/
import Derived.Test.YtlefmmhlpgmbjaaGreatO11
import Derived.Test.YtlefmmhlpgmbjaaGreatO02
import Derived.Test.YtlefmmhlpgmbjaaGreatO05
import Derived.Test.YtlefmmhlpgmbjaaGreatO01
namespace Go.Proofs.YtlefmmhlpgmbjaaGreat
set_option maxRecDepth 100000
open Go.RowKit
def RetVE (w : World) (d : Dsk) (er : Int) (e : Ending) (w' : World) : Prop := ∃ v, e = .returned (.tuple #[v, .int .i64 er]) /\ DskV w' v d /\ Below w.heap.size w w'
def wrOps (ws : List PW) : List DOp := ws.map (fun x => DOp.wr x.page x.data) ++ [.fl]
theorem zda {d : Dsk} {o : DOp} : (opP d o).1.cache.length <= d.cache.length + 1 := by
 cases o with
 | wr i data =>
  unfold opP;rcases zh7 d i data with ⟨_, _, h⟩ | ⟨_, _, _, _, ⟨_, _, h⟩ | ⟨_, _, h⟩⟩
  . simp only [h]; simp [zeroD]
  . simp only [h]; omega
  . simp only [h]; simp
 | fl =>
  unfold opP;rcases zh3 d with ⟨_, _, h⟩ | ⟨_, _, _, h⟩ | ⟨_, _, _, h⟩
  . simp only [h]; simp [zeroD]
  . simp only [h]; omega
  . simp only [h]; simp
theorem zje {d : Dsk} {ws : List PW} {k : Nat} (h : k < ws.length) : perfP d (wrOps (ws.drop k)) = if (zaK d ws[k].page ws[k].data).2 ≠ 0 then zaK d ws[k].page ws[k].data else perfP (zaK d ws[k].page ws[k].data).1 (wrOps (ws.drop (k + 1))) := by
 rw [List.drop_eq_getElem_cons h]; rfl
theorem zgv (d : Dsk) : perfP d (wrOps []) = zaR d := by
 show (if (opP d .fl).2 ≠ 0 then opP d .fl else perfP (opP d .fl).1 []) = zaR d;have e : opP d .fl = zaR d := rfl;rw [e];split
 . rfl
 .
  rename_i h
  have : (zaR d).2 = 0 := by simpa using h
  rw [perfP];exact Prod.ext rfl this.symm
set_option maxRecDepth 100000 in
set_option maxHeartbeats 1600000 in
theorem zfI (d : Dsk) (v : Value) (ws : List PW) (o : Option Addr) (c : Nat) (w : World) (hD : DskV w v d) (ho : PWsAt (· < w.heap.size) w o ws) (hs : SlW o ws.length c) (hz : ∀ x ∈ ws, x.data.size <= 140737488351232) (hn : d.cache.length + ws.length <= 1000000) :
  Calls Tryz.prog 45 #[v, .slice o ws.length c] w (RetVE w (perfP d (wrOps ws)).1 (perfP d (wrOps ws)).2) := by
 have hD0 := hD;obtain ⟨po, pc, co, cc, rfl⟩ := hD.agg;obtain ⟨N, hN⟩ : ∃ N, w.heap.size = N := ⟨_, rfl⟩;obtain ⟨p, hp⟩ : ∃ p, perfP d (wrOps ws) = p := ⟨_, rfl⟩;rw [hp];obtain ⟨m, hm⟩ : ∃ m, ws.length = m := ⟨_, rfl⟩;have hcap : m <= c := by rcases hs with ⟨_, h, _⟩ | ⟨_, _, h, _⟩ <;> omega
 rw [hm] at hn |-;have Hm := zhI hm;clear hm;go_enter Tryz.func45, Tryz.ntmps45;go_wp2;have x0 : Bx ((w.alloc (.cells (dC d po co pc cc) 25)).alloc (.cells dZ 25)) N (dC d po co pc cc) 25 := by subst hN; exact (Bx.new w _ _).alloc _
 have x1 : Bx ((w.alloc (.cells (dC d po co pc cc) 25)).alloc (.cells dZ 25)) (N + 1) dZ 25 := by subst hN; exact Bx.newAt _ _ _ _ (by simp)
 have hB0 : Below w.heap.size w ((w.alloc (.cells (dC d po co pc cc) 25)).alloc (.cells dZ 25)) := (Below.one w _).alloc (by simp) _;have hV0 := hD0.below hB0;generalize ((w.alloc (.cells (dC d po co pc cc) 25)).alloc (.cells dZ 25)) = W0 at *
 go_loopw [12] (fun t wr => ∃ (k : Nat) (dk : Dsk) (po pc co cc : _), k <= m /\ t = .int .i64 k /\ Below w.heap.size w wr /\
  Bx wr N (dC dk po co pc cc) 25 /\ Bx wr (N + 1) dZ 25 /\ DskV wr (.agg (dC dk po co pc cc)) dk /\ dk.cache.length <= d.cache.length + k /\ Hid (perfP dk (wrOps (ws.drop k)) = p)) (fun t _ => m - (intOf t).toNat)
 case atStart => exact ⟨0, d, po, pc, co, cc, Nat.zero_le _, rfl, hB0, x0, x1, hV0, by omega, zhI hp⟩
 case round =>
  clear x0 x1 hV0 hB0 hD0;obtain ⟨k, dk, po, pc, co, cc, hk, rfl, hb, xX, xR, hV, hc, hpk⟩ := hrel;have hzb := hb.size
  by_cases hlt : k < m
  .
   have hlk : k < ws.length := by rw [Hm.out]; exact hlt
   obtain ⟨b, off, rfl, c0, c1, hbs⟩ := (ho.below hb) k hlk;have hdz := hz _ (List.getElem_mem hlk);have hpk2 := hpk.out;rw [zje hlk] at hpk2;obtain ⟨⟨pg, dt⟩, hx⟩ : ∃ x : PW, ws[k] = x := ⟨_, rfl⟩;rw [hx] at c0 c1 hdz hpk2;simp only at c0 c1 hdz hpk2;obtain ⟨A, er, he⟩ : ∃ A er, zaK dk pg dt = (A, er) := ⟨_, _, rfl⟩;have hAc := zda (d := dk) (o := .wr pg dt);rw [show opP dk (.wr pg dt) = (A, er) from he] at hAc;rw [he] at hpk2;have lb : b < wr.heap.size := znL hbs hzb;have hhd : (er ≠ 0 /\ (A, er) = p) \/ (er = 0 /\ perfP A (wrOps (ws.drop (k + 1))) = p) := by
    by_cases h : er = 0
    . right; refine ⟨h, ?_⟩; rw [if_neg (by simp [h])] at hpk2; exact hpk2
    . left; refine ⟨h, ?_⟩; rw [if_pos h] at hpk2; exact hpk2
   have Hhd := zhI hhd;have z1 := Below.one wr (.cells #[.int .i64 pg, .string dt] 80);have y0 := xX.belowAll z1;have y1 := xR.belowAll z1;have hV1 := hV.below z1;have hB1 := btr hb z1;have cX := y0.cell;unfold dC at cX;have lX := y0.lt;have hcall := zm8 dk _ pg dt _ hV1 hdz (by omega) he;have Hcall := zhI hcall;clear hhd hpk hpk2 hx hcall hV xX xR hb z1 hV1;go_wp2_with fail;refine Hcall.out.mono ?_;rintro e w1 ⟨v1, rfl, hM1, hb1⟩;have hM2 := hM1;obtain ⟨po1, pc1, co1, cc1, rfl⟩ := hM1.agg;have y0 := y0.belowAll hb1;have y1 := y1.belowAll hb1;have hB1 := btr hB1 hb1;have hz1 := hB1.size;clear cX lX c0 c1 Hcall;obtain ⟨W2, hW2⟩ : ∃ W2, w1.alloc (.cells (dC A po1 co1 pc1 cc1) 25) = W2 := ⟨_, rfl⟩;have z2 : Below w1.heap.size w1 W2 := by subst hW2; exact Below.one w1 _
   have y0 := y0.belowAll z2;have y1 := y1.belowAll z2;have hB1 := btr hB1 z2;have hM2 := hM2.below z2;have hz1 := hB1.size;have x2 : Bx W2 w1.heap.size (dC A po1 co1 pc1 cc1) 25 := by subst hW2; exact Bx.new w1 _ _
   have cN := x2.cell;have lN := x2.lt;unfold dC at hW2 cN;clear z2 x2;cases g : (er != 0)
   .
    have ge : er = 0 := by simpa using g
    have hnext : perfP A (wrOps (ws.drop (k + 1))) = p := by rcases Hhd.out with h | h; exact absurd ge h.1; exact h.2
    have Hn := zhI hnext;have hAc : A.cache.length <= dk.cache.length + 1 := hAc;clear hnext Hhd ge;have cX := y0.cell;unfold dC at cX;have lX := y0.lt;have fX := y0.free;have hSB := zhI (zai (b := N) (v0 := .int .i64 A.size) (v1 := .slice po1 A.pages.length pc1) (v2 := .slice co1 A.cache.length cc1) (v3 := .int .i64 A.left) hB1 (by omega));have hSX := zhI (y0.set4 (v0 := .int .i64 A.size) (v1 := .slice po1 A.pages.length pc1) (v2 := .slice co1 A.cache.length cc1) (v3 := .int .i64 A.left));have hSR := zhI (y1.setO4 (b' := N) (v0 := .int .i64 A.size) (v1 := .slice po1 A.pages.length pc1) (v2 := .slice co1 A.cache.length cc1) (v3 := .int .i64 A.left) (by omega));have hSM := zhI (hM2.only y0 (zcF _ _ _ _ _) (Only.four (v0 := .int .i64 A.size) (v1 := .slice po1 A.pages.length pc1) (v2 := .slice co1 A.cache.length cc1) (v3 := .int .i64 A.left)));clear y0 y1 hM1 hM2 hB1;go_wp2;go_roundw
    case rel => exact ⟨k + 1, A, po1, pc1, co1, cc1, by omega, by go_num, hSB.out, hSX.out, hSR.out, hSM.out, by omega, Hn⟩
    case measure => simp [intOf]; omega
   .
    have gp : (A, er) = p := by rcases Hhd.out with h | h; exact h.2; rw [h.1] at g; cases g
    subst gp;clear Hhd;have cR := y1.cell;have lR := y1.lt;have fR := y1.free;have HB := zhI (zai (b := N + 1) (v0 := .int .i64 A.size) (v1 := .slice po1 A.pages.length pc1) (v2 := .slice co1 A.cache.length cc1) (v3 := .int .i64 A.left) hB1 (by omega));have HX := zhI (y1.set4 (v0 := .int .i64 A.size) (v1 := .slice po1 A.pages.length pc1) (v2 := .slice co1 A.cache.length cc1) (v3 := .int .i64 A.left));have HM := zhI (hM2.only y1 zff (Only.four (v0 := .int .i64 A.size) (v1 := .slice po1 A.pages.length pc1) (v2 := .slice co1 A.cache.length cc1) (v3 := .int .i64 A.left)));clear y0 y1 hM1 hM2 hB1;go_wp2;have cZ := HX.out.cell;refine bodyPost_ret (v := .tuple #[.agg (dC A po1 co1 pc1 cc1), .int .i64 er]) (by simp [results, Tryz.results45, go_sem, cZ]) rfl ?_;exact ⟨_, rfl, HM.out, HB.out⟩
  .
   obtain rfl : k = m := by omega
   have hd0 : ws.drop k = [] := List.drop_of_length_le (by rw [Hm.out]; exact Nat.le_refl _);have hpk2 := hpk.out;rw [hd0, zgv] at hpk2;have cX := xX.cell;unfold dC at cX;have lX := xX.lt;obtain ⟨A, er⟩ := p;have hcall := zmN dk _ wr hV hpk2;have Hcall := zhI hcall;clear hcall hpk hpk2 hd0 hV xX;go_wp2_with fail;refine Hcall.out.mono ?_;rintro e w1 ⟨v1, rfl, hM1, hb1⟩;have hM2 := hM1;obtain ⟨po1, pc1, co1, cc1, rfl⟩ := hM1.agg;have y1 := xR.belowAll hb1;have hB1 := btr hb hb1;have cR := y1.cell;have lR := y1.lt;have fR := y1.free;have hz1 := hB1.size;have HB := zhI (zai (b := N + 1) (v0 := .int .i64 A.size) (v1 := .slice po1 A.pages.length pc1) (v2 := .slice co1 A.cache.length cc1) (v3 := .int .i64 A.left) hB1 (by omega));have HX := zhI (y1.set4 (v0 := .int .i64 A.size) (v1 := .slice po1 A.pages.length pc1) (v2 := .slice co1 A.cache.length cc1) (v3 := .int .i64 A.left));have HM := zhI (hM2.only y1 zff (Only.four (v0 := .int .i64 A.size) (v1 := .slice po1 A.pages.length pc1) (v2 := .slice co1 A.cache.length cc1) (v3 := .int .i64 A.left)));clear y1 hM1 hM2 hB1 xR hb hb1 Hcall cX lX;go_wp2;have cZ := HX.out.cell;refine bodyPost_ret (v := .tuple #[.agg (dC A po1 co1 pc1 cc1), .int .i64 er]) (by simp [results, Tryz.results45, go_sem, cZ]) rfl ?_;exact ⟨_, rfl, HM.out, HB.out⟩
def openP (d : Dsk) (frm til : Int) : Ix × Int :=
 if fitX d frm til ≠ 0 then (zeroX, fitX d frm til)
 else match readP d frm til with
  | none => (zeroX, 25)
  | some (x, _) => (x, 0)
def zaz (x : Ix) : Option (Option Nd) :=
 if fitX x.disk x.frm x.til ≠ 0 then none
 else match readP x.disk x.frm x.til with
  | none => none
  | some (y, t) => if y.ver = x.ver /\ y.root = x.root /\ y.free = x.free then some t else none
def RetXE (w : World) (x : Ix) (er : Int) (e : Ending) (w' : World) : Prop := ∃ v, e = .returned (.tuple #[v, .int .i64 er]) /\ IxT w' v x /\ Below w.heap.size w w'
structure OpC (w : World) (N : Nat) (d : Dsk) (po co : Option Addr) (pc cc : Nat) (W : World) : Prop where
 dsk : Bx W N (dC d po co pc cc) 25
 res : Bx W (N + 1) ixZ 33
 below : Below w.heap.size w W
 val : DskV W (.agg (dC d po co pc cc)) d
 base : w.heap.size = N
 size : N + 1 < W.heap.size
theorem OpC.next {w : World} {N : Nat} {d : Dsk} {po co : Option Addr} {pc cc : Nat} {W W' : World} (h : OpC w N d po co pc cc W) (hb : Below W.heap.size W W') : OpC w N d po co pc cc W' :=
 ⟨h.dsk.belowAll hb, h.res.belowAll hb, btr h.below hb, h.val.below hb, h.base, znL h.size hb.size⟩
theorem zhe {d : Dsk} {frm til : Int} (h : fitX d frm til ≠ 0) : openP d frm til = (zeroX, fitX d frm til) := by unfold openP; rw [if_pos h]
theorem zju {d : Dsk} {frm til : Int} (h : fitX d frm til = 0) (hr : readP d frm til = none) : openP d frm til = (zeroX, 25) := by unfold openP; rw [if_neg (by simpa using h), hr]
theorem zjh {d : Dsk} {frm til : Int} (h : fitX d frm til = 0) {x : Ix} {t : Option Nd} (hr : readP d frm til = some (x, t)) : openP d frm til = (x, 0) := by unfold openP; rw [if_neg (by simpa using h), hr]
set_option maxHeartbeats 1600000 in
theorem zjQ (d : Dsk) (v : Value) (frm til : Int) (w : World) (hD : DskV w v d) :
  Calls Tryz.prog 16 #[v, .int .i64 frm, .int .i64 til] w (RetXE w (openP d frm til).1 (openP d frm til).2) := by
 have hD0 := hD;obtain ⟨po, pc, co, cc, rfl⟩ := hD.agg;obtain ⟨N, hN⟩ : ∃ N, w.heap.size = N := ⟨_, rfl⟩;obtain ⟨W0, hW0⟩ : ∃ W0, (w.alloc (.cells (dC d po co pc cc) 25)).alloc (.cells ixZ 33) = W0 := ⟨_, rfl⟩;have s0 : OpC w N d po co pc cc W0 := by subst hW0 hN;have HB := (Below.one w (.cells (dC d po co pc cc) 25)).alloc (by simp) (.cells ixZ 33);exact ⟨(Bx.new w (dC d po co pc cc) 25).alloc _, Bx.newAt _ _ _ _ (by simp), HB, hD0.below HB, rfl, by simp⟩
 clear hD;have cD := s0.dsk.cell;unfold dC at cD;have lD := s0.dsk.lt;have hch := zhX d _ W0 s0.val rfl;obtain ⟨ce, hce⟩ : ∃ c, chk d = c := ⟨_, rfl⟩;rw [hce] at hch;have Hch := zhI hch;have Hce := zhI hce;clear hch hce;go_enter Tryz.func16, Tryz.ntmps16;go_wp2_with fail;refine Hch.out.mono ?_;rintro e w1 ⟨rfl, hb1⟩;have s1 := s0.next hb1;clear s0 cD lD hb1 hW0;have cD := s1.dsk.cell;unfold dC at cD;have lD := s1.dsk.lt;cases hc : (ce != 0);rotate_left
 .
  have hne : chk d ≠ 0 := by rw [Hce.out]; simpa using hc
  have ho : openP d frm til = (zeroX, 1) := by
   have e : fitX d frm til = 1 := by unfold fitX; rw [if_pos hne]
   rw [zhe (by rw [e]; decide), e]
  clear hne;have Ho := zhI ho;have X0 := s1.res;have lX := X0.lt;have cX := X0.cell;have xf := X0.free;unfold ixZ at cX;have hBz := zhI (zad (b := N + 1) (v0 := .int .i64 0) (v1 := .slice none 0 0) (v2 := .slice none 0 0) (v3 := .int .i64 0) (v4 := .int .i64 0) (v5 := .int .i64 0) (v6 := .int .i64 0) (v7 := .int .i64 0) (v8 := .slice none 0 0) s1.below (by have := s1.base; omega));have Xz := zhI (X0.set9 (v0 := .int .i64 0) (v1 := .slice none 0 0) (v2 := .slice none 0 0) (v3 := .int .i64 0) (v4 := .int .i64 0) (v5 := .int .i64 0) (v6 := .int .i64 0) (v7 := .int .i64 0) (v8 := .slice none 0 0));clear ho X0;go_wp2;have cz := Xz.out.cell;simp only [st9, st8] at cz;refine bodyPost_ret (v := .tuple #[.agg ixZ, .int .i64 1]) (by simp [results, Tryz.results16, go_sem, cz]) rfl ?_;rw [Ho.out];exact ⟨_, rfl, IxT.zero _, hBz.out⟩
 have hc0 : chk d = 0 := by rw [Hce.out]; simpa using hc
 have Hc0 := zhI hc0;cases hft : fits5 d frm til
 .
  have ho : openP d frm til = (zeroX, 2) := by
   have e : fitX d frm til = 2 := by unfold fitX; rw [if_neg (by simpa using hc0), if_pos hft]
   rw [zhe (by rw [e]; decide), e]
  have hfit := zdy d _ frm til w1 hc0 hft s1.val;have Hfit := zhI hfit;clear hfit hc0 hft;go_wp2_with fail;refine Hfit.out.mono ?_;rintro e w2 ⟨rfl, hb2⟩;have s2 := s1.next hb2;clear s1 cD lD hb2 Hfit;have s1 := s2;have Ho := zhI ho;have X0 := s1.res;have lX := X0.lt;have cX := X0.cell;have xf := X0.free;unfold ixZ at cX;have hBz := zhI (zad (b := N + 1) (v0 := .int .i64 0) (v1 := .slice none 0 0) (v2 := .slice none 0 0) (v3 := .int .i64 0) (v4 := .int .i64 0) (v5 := .int .i64 0) (v6 := .int .i64 0) (v7 := .int .i64 0) (v8 := .slice none 0 0) s1.below (by have := s1.base; omega));have Xz := zhI (X0.set9 (v0 := .int .i64 0) (v1 := .slice none 0 0) (v2 := .slice none 0 0) (v3 := .int .i64 0) (v4 := .int .i64 0) (v5 := .int .i64 0) (v6 := .int .i64 0) (v7 := .int .i64 0) (v8 := .slice none 0 0));clear ho X0;go_wp2;have cz := Xz.out.cell;simp only [st9, st8] at cz;refine bodyPost_ret (v := .tuple #[.agg ixZ, .int .i64 2]) (by simp [results, Tryz.results16, go_sem, cz]) rfl ?_;rw [Ho.out];exact ⟨_, rfl, IxT.zero _, hBz.out⟩
 .
  have hfit := zdy d _ frm til w1 hc0 hft s1.val;have Hfit := zhI hfit;have hf0 : fitX d frm til = 0 := by unfold fitX; rw [if_neg (by simpa using hc0), if_neg (by simp [hft])]
  have Hf0 := zhI hf0;have Hft := zhI hft;clear hfit hc0 hft hf0;go_wp2_with fail;refine Hfit.out.mono ?_;rintro e w2 ⟨rfl, hb2⟩;have s2 := s1.next hb2;clear s1 cD lD hb2 Hfit;have cD := s2.dsk.cell;unfold dC at cD;have lD := s2.dsk.lt;have hop := zku d _ frm til w2 Hc0.out Hft.out s2.val;have Hop := zhI hop;clear hop;go_wp2_with fail;refine Hop.out.mono ?_;rintro e w3 ⟨hb3, hres⟩;have s3 := s2.next hb3;clear s2 cD lD Hop;cases hrd : readP d frm til with
  | none => rw [hrd] at hres;simp only at hres;subst hres;have ho := zju Hf0.out hrd;have s1 := s3.next ((Below.refl _ w3).alloc (Nat.le_refl _) (.cells ixZ 33));clear hrd s3 hb3;have Ho := zhI ho;have X0 := s1.res;have lX := X0.lt;have cX := X0.cell;have xf := X0.free;unfold ixZ at cX;have hBz := zhI (zad (b := N + 1) (v0 := .int .i64 0) (v1 := .slice none 0 0) (v2 := .slice none 0 0) (v3 := .int .i64 0) (v4 := .int .i64 0) (v5 := .int .i64 0) (v6 := .int .i64 0) (v7 := .int .i64 0) (v8 := .slice none 0 0) s1.below (by have := s1.base; omega));have Xz := zhI (X0.set9 (v0 := .int .i64 0) (v1 := .slice none 0 0) (v2 := .slice none 0 0) (v3 := .int .i64 0) (v4 := .int .i64 0) (v5 := .int .i64 0) (v6 := .int .i64 0) (v7 := .int .i64 0) (v8 := .slice none 0 0));clear ho X0;go_wp2;have cz := Xz.out.cell;simp only [st9, st8] at cz;refine bodyPost_ret (v := .tuple #[.agg ixZ, .int .i64 25]) (by simp [results, Tryz.results16, go_sem, cz]) rfl ?_;rw [Ho.out];exact ⟨_, rfl, IxT.zero _, hBz.out⟩
  | some r => obtain ⟨x, t⟩ := r;rw [hrd] at hres;simp only at hres;obtain ⟨v, a, rfl, hv, -, -⟩ := hres;have ho := zjh Hf0.out hrd;have Ho := zhI ho;have hv0 := hv;obtain ⟨po', pc', co', cc', fo, fc, rfl, h1, h2, h3⟩ := hv;have hv1 := hv0.below ((Below.refl _ w3).alloc (Nat.le_refl _) (.cells (ixC x.disk po' co' pc' cc' x.frm x.til x.ver x.root fo x.free.length fc) 33));have s1 := s3.next ((Below.refl _ w3).alloc (Nat.le_refl _) (.cells (ixC x.disk po' co' pc' cc' x.frm x.til x.ver x.root fo x.free.length fc) 33));have X0 := s1.res;have lX := X0.lt;have cX := X0.cell;have xf := X0.free;unfold ixZ at cX;have hBz := zhI (zad (b := N + 1) (v0 := .int .i64 x.disk.size) (v1 := .slice po' x.disk.pages.length pc') (v2 := .slice co' x.disk.cache.length cc') (v3 := .int .i64 x.disk.left) (v4 := .int .i64 x.frm) (v5 := .int .i64 x.til) (v6 := .int .i64 x.ver) (v7 := .int .i64 x.root) (v8 := .slice fo x.free.length fc) s1.below (by have := s1.base; omega));have Xz := zhI (X0.set9 (v0 := .int .i64 x.disk.size) (v1 := .slice po' x.disk.pages.length pc') (v2 := .slice co' x.disk.cache.length cc') (v3 := .int .i64 x.disk.left) (v4 := .int .i64 x.frm) (v5 := .int .i64 x.til) (v6 := .int .i64 x.ver) (v7 := .int .i64 x.root) (v8 := .slice fo x.free.length fc));have Hx := zhI (hv1.only X0 (noS9 _ _ _ _ _ _ _ _ _ _ _ _ _ _ _) (by decide) (Only.nine (v0 := .int .i64 x.disk.size) (v1 := .slice po' x.disk.pages.length pc') (v2 := .slice co' x.disk.cache.length cc') (v3 := .int .i64 x.disk.left) (v4 := .int .i64 x.frm) (v5 := .int .i64 x.til) (v6 := .int .i64 x.ver) (v7 := .int .i64 x.root) (v8 := .slice fo x.free.length fc)));clear ho hrd s3 hb3 X0 s1 h1 h2 h3 hv0 hv1;go_wp2;have cz := Xz.out.cell;simp only [st9, st8] at cz;refine bodyPost_ret (v := .tuple #[.agg (ixC x.disk po' co' pc' cc' x.frm x.til x.ver x.root fo x.free.length fc), .int .i64 0]) (by simp [results, Tryz.results16, go_sem, cz]) rfl ?_;rw [Ho.out];exact ⟨_, rfl, Hx.out, hBz.out⟩
theorem zl6 (fo go : Option Addr) (fc gc : Nat) (xs ys : List Int) (w : World) {S T : Nat -> Prop} (hs : SlW fo xs.length fc) (ht : SlW go ys.length gc) (hx : zau S w fo xs) (hy : zau T w go ys) :
  Calls Tryz.prog 99 #[.slice fo xs.length fc, .slice go ys.length gc] w fun e w' => e = .returned (.bool (decide (xs = ys))) /\ Below w.heap.size w w' := by
 by_cases hl : xs.length = ys.length
 .
  by_cases h0 : xs.length = 0
  . obtain rfl : xs = [] := List.eq_nil_of_length_eq_zero h0;obtain rfl : ys = [] := List.eq_nil_of_length_eq_zero (by rw [<- hl]; rfl);refine (Tryz.slices_Equal_int_empty fo go fc 0 gc w (by omega)).mono ?_;rintro e w' ⟨rfl, rfl⟩;exact ⟨by simp, Below.refl _ _⟩
  .
   obtain ⟨b1, o1, rfl, -, -⟩ := hx 0 (by omega);obtain ⟨b2, o2, rfl, -, -⟩ := hy 0 (by omega);have m1 : xs.length <= maxLen := by rcases hs with ⟨h, _⟩ | ⟨_, _, h1, h2⟩; cases h; omega
   unfold maxLen at m1;refine (Tryz.slices_Equal_int b1 o1 xs.length fc b2 o2 ys.length gc xs ys w (Nat.le_refl _) (Nat.le_refl _) (by omega) (by omega) (fun j hj => ?_) (fun j hj => ?_)).mono ?_
   .
    obtain ⟨b, off, e, hc, _⟩ := hx j hj;obtain ⟨rfl, rfl⟩ : b1 = b /\ o1 = off := by simpa using e
    rw [hc, List.getD_eq_getElem?_getD, List.getElem?_eq_getElem hj]; rfl
   .
    obtain ⟨b, off, e, hc, _⟩ := hy j hj;obtain ⟨rfl, rfl⟩ : b2 = b /\ o2 = off := by simpa using e
    rw [hc, List.getD_eq_getElem?_getD, List.getElem?_eq_getElem hj]; rfl
   .
    rintro e w' ⟨rfl, q, rfl⟩;rw [List.take_length, List.take_length];refine ⟨?_, Below.drewN (Below.refl _ _) q⟩;congr 2
    by_cases h : xs = ys <;> simp [h]
 .
  refine (Tryz.slices_Equal_int_lens fo go xs.length fc ys.length gc w hl).mono ?_;rintro e w' ⟨rfl, rfl⟩;have : decide (xs = ys) = false := by simp; rintro rfl; exact hl rfl
  rw [this];exact ⟨rfl, Below.refl _ _⟩
def zb1 (o : Option (Option Nd)) (w : World) (e : Ending) (w' : World) : Prop :=
 Below w.heap.size w w' /\ match o with
 | none => ∃ v, e = .returned (.tuple #[v, .bool false])
 | some t => ∃ a, e = .returned (.tuple #[rootV a, .bool true]) /\ LiesO w.heap.size w' a /\ ndO a = t
theorem zfu {x : Ix} (h : fitX x.disk x.frm x.til ≠ 0) : zaz x = none := by unfold zaz; rw [if_pos h]
theorem zhD {x : Ix} (h : readP x.disk x.frm x.til = none) : zaz x = none := by unfold zaz; rw [h]; split <;> rfl
theorem zhS {x y : Ix} {t : Option Nd} (h : fitX x.disk x.frm x.til = 0) (hr : readP x.disk x.frm x.til = some (y, t)) : zaz x = if y.ver = x.ver /\ y.root = x.root /\ y.free = x.free then some t else none := by
 unfold zaz; rw [if_neg (by simpa using h), hr]
set_option maxHeartbeats 1600000 in
theorem zkU (x : Ix) (v : Value) (w : World) (hx : IxV w v x) : Calls Tryz.prog 59 #[v] w (zb1 (zaz x) w) := by
 obtain ⟨po, pc, co, cc, fo, fc, rfl, h1, h2, h3⟩ := hx;obtain ⟨d, frm, til, ver, root, free⟩ := x;simp only at h1 h2 h3 |-;obtain ⟨N, hN⟩ : ∃ N, w.heap.size = N := ⟨_, rfl⟩;obtain ⟨R, hR⟩ : ∃ R, zb1 (zaz ⟨d, frm, til, ver, root, free⟩) w = R := ⟨_, rfl⟩;rw [hR];have HR := zhI hR;obtain ⟨fn, hfn⟩ : ∃ n, free.length = n := ⟨_, rfl⟩;rw [hfn];obtain ⟨W0, hW0⟩ : ∃ W0, w.alloc (.cells (ixC d po co pc cc frm til ver root fo fn fc) 33) = W0 := ⟨_, rfl⟩;have xX : Bx W0 N (ixC d po co pc cc frm til ver root fo fn fc) 33 := by subst hW0 hN; exact Bx.new w _ _
 have hB0 : Below w.heap.size w W0 := by subst hW0; exact Below.one w _
 have hV0 := h1.below hB0;have Hfn := zhI hfn;have H2 := zhI h2;have H3 : Hid (zau (· < w.heap.size) w fo free) := zhI h3;have hch := zhX d _ W0 hV0 rfl;obtain ⟨ce, hce⟩ : ∃ c, chk d = c := ⟨_, rfl⟩;rw [hce] at hch;have Hch := zhI hch;have Hce := zhI hce;have cX := xX.cell;have lX := xX.lt;unfold ixC at cX hW0;clear hch hce hR hfn h1 h2 h3;go_enter Tryz.func59, Tryz.ntmps59;go_wp2_with fail;refine Hch.out.mono ?_;rintro e w1 ⟨rfl, hb1⟩;have xX1 := xX.belowAll hb1;have hB1 := btr hB0 hb1;have hV1 := hV0.below hb1;clear cX lX hW0 xX hB0 hV0 Hch hb1;have cX := xX1.cell;have lX := xX1.lt;unfold ixC at cX;cases hc : (ce != 0);rotate_left
 .
  have HP : Hid (zaz ⟨d, frm, til, ver, root, free⟩ = none) := zhI (zfu (by
   have : chk d ≠ 0 := by rw [Hce.out]; simpa using hc
   unfold fitX; rw [if_pos this]; decide))
  go_wp2;rw [<- HR.out];unfold zb1;rw [HP.out];exact ⟨hB1, _, rfl⟩
 have hc0 : chk d = 0 := by rw [Hce.out]; simpa using hc
 have Hc0 := zhI hc0;cases hft : fits5 d frm til
 .
  have HP : Hid (zaz ⟨d, frm, til, ver, root, free⟩ = none) := zhI (zfu (by
   unfold fitX; rw [if_neg (by simpa using hc0), if_pos hft]; decide))
  have hfit := zdy d _ frm til w1 hc0 hft hV1;have Hfit := zhI hfit;clear hfit hc0 hft;go_wp2_with fail;refine Hfit.out.mono ?_;rintro e w2 ⟨rfl, hb2⟩;have hB2 := btr hB1 hb2;clear Hfit cX lX;go_wp2;rw [<- HR.out];unfold zb1;rw [HP.out];exact ⟨hB2, _, rfl⟩
 .
  have hfit := zdy d _ frm til w1 hc0 hft hV1;have Hfit := zhI hfit;have hf0 : fitX d frm til = 0 := by unfold fitX; rw [if_neg (by simpa using hc0), if_neg (by simp [hft])]
  have Hf0 := zhI hf0;have Hft := zhI hft;clear hfit hc0 hft hf0;go_wp2_with fail;refine Hfit.out.mono ?_;rintro e w2 ⟨rfl, hb2⟩;have hB2 := btr hB1 hb2;have xX2 := xX1.belowAll hb2;have hV2 := hV1.below hb2;clear cX lX xX1 hB1 hV1 Hfit hb2;have cX := xX2.cell;have lX := xX2.lt;unfold ixC at cX;have hop := zku d _ frm til w2 Hc0.out Hft.out hV2;have Hop := zhI hop;clear hop;go_wp2_with fail;refine Hop.out.mono ?_;rintro e w3 ⟨hb3, hres⟩;have hB3 := btr hB2 hb3;have xX3 := xX2.belowAll hb3;clear cX lX xX2 Hop hb3;have cX := xX3.cell;have lX := xX3.lt;unfold ixC at cX;cases hrd : readP d frm til with
  | none => rw [hrd] at hres;simp only at hres;subst hres;have HP : Hid (zaz ⟨d, frm, til, ver, root, free⟩ = none) := zhI (zhD hrd);have hB4 := hB3.alloc hB3.size (.cells ixZ 33);clear hrd;go_wp2;rw [<- HR.out];unfold zb1;rw [HP.out];exact ⟨hB4, _, rfl⟩
  | some r =>
   obtain ⟨y, t⟩ := r;rw [hrd] at hres;simp only at hres;obtain ⟨v, a, rfl, hv, hLO, hnd⟩ := hres;obtain ⟨po', pc', co', cc', go, gc, rfl, h1, h2, h3⟩ := hv;have hvs := zhS (x := ⟨d, frm, til, ver, root, free⟩) Hf0.out hrd;obtain ⟨yd, yf, yt, yv, yr, yfr⟩ := y;simp only at h1 h2 h3 hvs |-;have Hvs := zhI hvs;obtain ⟨p, hp⟩ : ∃ p, rootV a = .pointer p := by cases a with
    | none => exact ⟨none, rfl⟩
    | some t => exact ⟨_, rfl⟩
   rw [hp];have hb4 : Below w3.heap.size w3 (w3.alloc (.cells (ixC yd po' co' pc' cc' yf yt yv yr go yfr.length gc) 33)) := Below.one w3 _;have hB4 := btr hB3 hb4;have HL4 : Hid (LiesO w.heap.size (w3.alloc (.cells (ixC yd po' co' pc' cc' yf yt yv yr go yfr.length gc) 33)) a) := zhI (fun t ht => by obtain ⟨q1, q2, q3⟩ := hLO t ht;exact ⟨(q1.down hB2.size).staysAll hb4, q2, q3⟩)
   have heq := zl6 go fo gc fc yfr free (w3.alloc (.cells (ixC yd po' co' pc' cc' yf yt yv yr go yfr.length gc) 33)) h2 H2.out (h3.at.below hb4) (H3.out.below hB4);rw [Hfn.out] at heq;have Heq := zhI heq;have Hp := zhI hp;have Hnd := zhI hnd;unfold ixC at HL4 Heq hb4 hB4;clear hrd hvs hp heq hLO hnd h1 h2 h3;cases g1 : (yv == ver)
   . have HP : Hid (zaz ⟨d, frm, til, ver, root, free⟩ = none) := zhI (by rw [Hvs.out, if_neg (fun h => by simp [h.1] at g1)]);go_wp2;rw [<- HR.out];unfold zb1;rw [HP.out];exact ⟨hB4, _, rfl⟩
   have e1 : yv = ver := by simpa using g1
   have E1 := zhI e1;clear e1;cases g2 : (yr == root)
   . have HP : Hid (zaz ⟨d, frm, til, ver, root, free⟩ = none) := zhI (by rw [Hvs.out, if_neg (fun h => by simp [h.2.1] at g2)]);go_wp2;rw [<- HR.out];unfold zb1;rw [HP.out];exact ⟨hB4, _, rfl⟩
   have e2 : yr = root := by simpa using g2
   have E2 := zhI e2;clear e2;go_wp2_with fail;refine Heq.out.mono ?_;rintro e w5 ⟨rfl, hb5⟩;have hB5 := btr hB4 hb5
   by_cases g3 : yfr = free
   .
    have HP : Hid (zaz ⟨d, frm, til, ver, root, free⟩ = some t) := zhI (by rw [Hvs.out, if_pos ⟨E1.out, E2.out, g3⟩]);rw [decide_eq_true g3];have HL5 := zhI (fun t ht => by obtain ⟨q1, q2, q3⟩ := HL4.out t ht;exact ⟨q1.staysAll hb5, q2, q3⟩ : LiesO w.heap.size w5 a)
    clear g3 HL4;go_wp2;rw [<- HR.out];unfold zb1;rw [HP.out];exact ⟨hB5, a, by rw [Hp.out]; rfl, HL5.out, Hnd.out⟩
   . have HP : Hid (zaz ⟨d, frm, til, ver, root, free⟩ = none) := zhI (by rw [Hvs.out, if_neg (fun h => g3 h.2.2)]);rw [decide_eq_false g3];clear g3;go_wp2;rw [<- HR.out];unfold zb1;rw [HP.out];exact ⟨hB5, _, rfl⟩
end Go.Proofs.YtlefmmhlpgmbjaaGreat
namespace Go.Proofs.YtlefmmhlpgmbjaaGreat
set_option maxRecDepth 100000
open Go.RowKit Go.Shelf
def annDE (d : Dsk) (er : Int) : Ann := ⟨fun r => .tuple #[r.x 0, .int .i64 er], fun r W => DskV W (r.x 0) d⟩
theorem lz_de {f : FuncId} {args : Array Value} {d : Dsk} {er : Int} {W : World} (h : Calls Tryz.prog f args W (RetVE W d er)) : Calls Tryz.prog f args W fun e w' => ∃ u, e = .returned u /\ zcM (annDE d er) W u w' := by
 refine h.mono ?_;rintro e w' ⟨v, rfl, hv, hb⟩;exact ⟨_, rfl, hb, fun _ => v, rfl, fun w'' hb' => hv.below hb'⟩
def zcK (n : Nat) (l : List Value) (e : TypeId) : Ann := ⟨fun r => .slice (some ⟨r.lo, 0, none⟩) n n, fun r W => Bx W r.lo l.toArray e⟩
set_option maxRecDepth 100000 in
set_option maxHeartbeats 2000000 in
theorem zgw (d : Dsk) (v : Value) (frm til : Int) (w : World) (hD : DskV w v d) (hc : d.cache.length <= 999990) :
  Calls Tryz.prog 14 #[v, .int .i64 frm, .int .i64 til] w (RetVE w (fmtX d frm til).1 (fmtX d frm til).2) := by
 obtain ⟨R, hR⟩ : ∃ R, fmtX d frm til = R := ⟨_, rfl⟩;rw [hR];have hD0 := hD;obtain ⟨po, pc, co, cc, rfl⟩ := hD.agg;obtain ⟨N, hN⟩ : ∃ N, w.heap.size = N := ⟨_, rfl⟩;obtain ⟨W0, hW0⟩ : ∃ W0, (w.alloc (.cells (dC d po co pc cc) 25)).alloc (.cells dZ 25) = W0 := ⟨_, rfl⟩;have x0 : Bx W0 N (dC d po co pc cc) 25 := by subst hW0 hN; exact (Bx.new w _ _).alloc _
 have x1 : Bx W0 (N + 1) dZ 25 := by subst hW0 hN; exact Bx.newAt _ _ _ _ (by simp)
 have hB0 : Below w.heap.size w W0 := by subst hW0; exact (Below.one w _).alloc (by simp) _
 have hV0 := hD0.below hB0;have hch := zhX d _ W0 hV0 rfl;obtain ⟨ce, hce⟩ : ∃ c, chk d = c := ⟨_, rfl⟩;rw [hce] at hch;have Hch := zhI hch;have Hce := zhI hce;have HD := zhI hD0;have HR0 := zhI hR;have cX := x0.cell;have lX := x0.lt;clear hch hce hD hD0 hR;go_enter Tryz.func14, Tryz.ntmps14;go_wp2_with fail;refine Hch.out.mono ?_;rintro e w1 ⟨rfl, hb1⟩;have y0 := x0.belowAll hb1;have y1 := x1.belowAll hb1;have hB1 := btr hB0 hb1;have hV1 := hV0.below hb1;clear cX lX x0 x1 hW0 hb1 hB0 hV0 Hch;cases hc1 : (ce != 0);rotate_left
 .
  have HR : Hid (R = (zeroD, 1)) := zhI (by
   have : chk d ≠ 0 := by rw [Hce.out]; simpa using hc1
   have e : fitX d frm til = 1 := by unfold fitX; rw [if_pos this]
   rw [<- HR0.out]; unfold fmtX; rw [e]; rfl)
  obtain ⟨Wf, hWf⟩ : ∃ Wf, st4 w1 (N + 1) (.int .i64 0) (.slice none 0 0) (.slice none 0 0) (.int .i64 0) = Wf := ⟨_, rfl⟩;have zR : Bx Wf (N + 1) dZ 25 := by subst hWf; exact y1.st4
  have zB : Below w.heap.size w Wf := by subst hWf; exact zaY hB1 (by omega)
  have HWf := zhI hWf;have ZB := zhI zB;clear zB hWf;have cX := y1.cell;have lX := y1.lt;have fX := y1.free;go_wp2;have HW := HWf.out;unfold st4 at HW;rw [HW];have cZ := zR.cell;refine bodyPost_ret (v := .tuple #[.agg dZ, .int .i64 1]) (by simp [results, Tryz.results14, go_sem, cZ]) rfl ?_;rw [HR.out];exact ⟨_, rfl, zaD _, ZB.out⟩
 have hc0 : chk d = 0 := by rw [Hce.out]; simpa using hc1
 have Hc0 := zhI hc0;have cD := y0.cell;have lD := y0.lt;unfold dC at cD;cases hft : fits5 d frm til
 .
  have HR : Hid (R = (zeroD, 2)) := zhI (by
   have e : fitX d frm til = 2 := by unfold fitX; rw [if_neg (by simpa using hc0), if_pos hft]
   rw [<- HR0.out]; unfold fmtX; rw [e]; rfl)
  have hfit := zdy d _ frm til w1 hc0 hft hV1;have Hfit := zhI hfit;clear hfit hc0 hft;go_wp2_with fail;refine Hfit.out.mono ?_;rintro e w2 ⟨rfl, hb2⟩;obtain ⟨w0', hw0'⟩ : ∃ x, x = w1 := ⟨_, rfl⟩;have y1 := y1.belowAll hb2;have hB1 := btr hB1 hb2;clear cD lD y0 hV1 Hfit hb2 hw0' w0';obtain ⟨Wf, hWf⟩ : ∃ Wf, st4 w2 (N + 1) (.int .i64 0) (.slice none 0 0) (.slice none 0 0) (.int .i64 0) = Wf := ⟨_, rfl⟩;have zR : Bx Wf (N + 1) dZ 25 := by subst hWf; exact y1.st4
  have zB : Below w.heap.size w Wf := by subst hWf; exact zaY hB1 (by omega)
  have HWf := zhI hWf;have ZB := zhI zB;clear zB hWf;have cX := y1.cell;have lX := y1.lt;have fX := y1.free;go_wp2;have HW := HWf.out;unfold st4 at HW;rw [HW];have cZ := zR.cell;refine bodyPost_ret (v := .tuple #[.agg dZ, .int .i64 2]) (by simp [results, Tryz.results14, go_sem, cZ]) rfl ?_;rw [HR.out];exact ⟨_, rfl, zaD _, ZB.out⟩
 .
  have hfit := zdy d _ frm til w1 hc0 hft hV1;have Hfit := zhI hfit;have hf0 : fitX d frm til = 0 := by unfold fitX; rw [if_neg (by simpa using hc0), if_neg (by simp [hft])]
  obtain ⟨f1, f2, f3, f4, f5⟩ := zax hft;have hr := zaf (zas hc0).1;obtain ⟨Z, hZ⟩ : ∃ Z, bs (padZ []) = Z := ⟨_, rfl⟩;obtain ⟨H, hH⟩ : ∃ H, bs (hdrL 512 1 0) = H := ⟨_, rfl⟩;have hZs : Z.size <= 1000 := by rw [<- hZ, zaj]; simp [padZ]
  have hHs : H.size <= 1000 := by rw [<- hH, zaj]; simp [hdrL, num8]
  obtain ⟨F, er2, hF⟩ : ∃ F er2, perfP d (wrOps [⟨frm, Z⟩, ⟨frm + 1, H⟩]) = (F, er2) := ⟨_, _, rfl⟩;have HR : Hid (R = (F, er2)) := zhI (by rw [<- HR0.out, <- hF, <- hZ, <- hH]; unfold fmtX; rw [if_neg (by simp [hf0])]; rfl);have HF := zhI hF;have hrep := fun W => zge W;have hhd : ∀ W, Calls Tryz.prog 47 #[.int .i64 1, .int .i64 0] W fun e w' => e = .returned (.string (bs (hdrL 512 1 0))) /\ Below W.heap.size W w' := fun W => zdq 1 0 W;simp only [hZ] at hrep;simp only [hH] at hhd;have Hrep := zhI hrep;have Hhd := zhI hhd;have hf2 : frm <= 2000 := by omega
  have hw1 : wrap64 (frm + 1) = frm + 1 := IntWalk.wrap64_in _ (by omega);clear hfit hc0 hft hf0 hrep hhd hF hZ hH f1 hr HR0;go_wp2_with fail;refine Hfit.out.mono ?_;rintro e w2 ⟨rfl, hb2⟩;have y0 := y0.belowAll hb2;have y1 := y1.belowAll hb2;have hB2 := btr hB1 hb2;have hV2 := zhI (hV1.below hb2);clear cD lD hB1 hV1 Hfit hb2;have c0 := y0.cell;have l0 := y0.lt;unfold dC at c0;have cQ := Lat.cells w2;have HBw : Hid (∀ x : Lat w2, Below w2.heap.size w2 x.w) := zhI (fun x => x.h);go_wp2;refine zal 12 2 #[true, true, true, true, true, true, true, true, true, true, true, true, false, false] (fun i => if i = 2 then some (annK (.string Z)) else if i = 3 then some (annK (.agg #[.int .i64 frm, .string Z])) else if i = 7 then some (annK (.agg #[.int .i64 (frm + 1), .string H])) else if i = 6 then some (annK (.string H)) else if i = 8 then some (zcK 2 [.int .i64 frm, .string Z, .int .i64 (frm + 1), .string H] 80) else if i = 9 then some (annDE F er2) else none) (by kernel_rfl) (by rfl) (by rfl) (by kernel_rfl) ?_;simp only [List.take_succ_cons, List.take_zero];refine LW.block 2 2 (by rfl) (by kernel_rfl) (by kernel_rfl) ?_;simp only [ztP]
  repeat (first | go_big_quiet_skip | (go_big_quiet_want; go_big_quiet_op; go_big_quiet_on))
  refine wpQuiet_nil ?_;refine LW.lzy _ (by rfl) (by rfl) ?_ ?_
  . intro yL _;unfold lzAt;go_simp;exact zaC (Hrep.out _)
  intro _;simp only [Act.put, zsP]
  (try simp only [annK])
  refine LW.lzy _ (by rfl) (by rfl) ?_ ?_
  . intro yL _;exact zaJ ((by go_simp))
  intro _;simp only [Act.put, zsP]
  (try simp only [annK])
  refine LW.block 2 6 (by rfl) (by kernel_rfl) (by kernel_rfl) ?_;simp only [ztP]
  repeat (first | go_big_quiet_skip | (go_big_quiet_want; go_big_quiet_op; go_big_quiet_on))
  refine wpQuiet_nil ?_;refine LW.lzy _ (by rfl) (by rfl) ?_ ?_
  . intro yL _;unfold lzAt;go_simp;exact zaC (Hhd.out _)
  intro _;simp only [Act.put, zsP]
  (try simp only [annK])
  refine LW.lzy _ (by rfl) (by rfl) ?_ ?_
  . intro yL _;exact zaJ ((by go_simp))
  intro _;simp only [Act.put, zsP]
  (try simp only [annK])
  refine LW.lzy _ (by rfl) (by rfl) ?_ ?_
  . intro yL hf;unfold lzAt;go_simp;exact ⟨Below.one _ _, fun _ => undef, rfl, fun w'' hb => (Bx.new yL.w _ _).belowAll hb⟩
  intro r8;simp only [Act.put, zsP];refine LW.lzy _ (by rfl) (by rfl) ?_ ?_
  .
   intro yL hf;have h8 : Bx yL.w r8.lo #[.int .i64 frm, .string Z, .int .i64 (frm + 1), .string H] 80 := (hf 8 (by decide +kernel)).get (by rfl) (by rfl);unfold lzAt;simp only [zcK];go_simp;have hP := zfI d _ [⟨frm, Z⟩, ⟨frm + 1, H⟩] (some ⟨r8.lo, 0, none⟩) 2 yL.w (hV2.out.below (HBw.out _)) ((PWsAt.of_row (S := fun b => b = r8.lo) (RowAt.bx h8)).mono fun b hb => by rw [hb]; exact h8.lt) (.inr ⟨_, rfl, by simp, by simp [maxLen]⟩) (by intro x hx; simp at hx; rcases hx with rfl | rfl <;> simp <;> omega) (by simp only [zlC, List.length_nil]; omega)
   rw [HF.out] at hP;exact lz_de hP
  intro r9;simp only [Act.put, zsP, annDE];refine LW.block 2 12 (by rfl) (by kernel_rfl) (by kernel_rfl) ?_;simp only [ztP]
  repeat (first | go_big_quiet_skip | (go_big_quiet_want; go_big_quiet_op; go_big_quiet_on))
  refine wpQuiet_nil ?_;refine LW.done ?_;intro w3 hG;have hR9 : DskV w3 (r9.x 0) F := hG.get 9 rfl rfl;have hG2 := hG.below;have hM1 := hR9;obtain ⟨po1, pc1, co1, cc1, e13⟩ := hR9.agg;rw [e13] at hM1 |-;have z1 := y1.belowAll hG2;have hB3 := btr hB2 hG2;obtain ⟨Wf, hWf⟩ : ∃ Wf, st4 w3 (N + 1) (.int .i64 F.size) (.slice po1 F.pages.length pc1) (.slice co1 F.cache.length cc1) (.int .i64 F.left) = Wf := ⟨_, rfl⟩;have zR : Bx Wf (N + 1) (dC F po1 co1 pc1 cc1) 25 := by subst hWf; exact z1.st4
  have zB : Below w.heap.size w Wf := by subst hWf; exact zaY hB3 (by omega)
  have zV : DskV Wf (.agg (dC F po1 co1 pc1 cc1)) F := by subst hWf; exact hM1.only z1 zff zbN
  have HWf := zhI hWf;have ZB := zhI zB;have ZV := zhI zV;clear hG c0 l0 hG2 zB zV hM1 hB3 hWf;have cX := z1.cell;have lX := z1.lt;have fX := z1.free;refine wpAny_ready (rs := [12]) (by kernel_rfl) (by simp) ?_;refine AllReady.cons rfl (fun K hK => ?_) AllReady.nil;go_simp;refine hK _ _ ?_;clear hK K;refine wpAny_ready (rs := [13]) (by kernel_rfl) (by simp) ?_;refine AllReady.cons rfl (fun K hK => ?_) AllReady.nil;go_simp;refine hK _ _ ?_;clear hK K;refine wpAny_done (by kernel_rfl) ?_ _;go_wp2;have HW := HWf.out;unfold st4 at HW;rw [HW];have cZ := zR.cell;refine bodyPost_ret (v := .tuple #[.agg (dC F po1 co1 pc1 cc1), .int .i64 er2]) (by simp [results, Tryz.results14, go_sem, cZ]) rfl ?_;rw [HR.out];exact ⟨_, rfl, ZV.out, ZB.out⟩
end Go.Proofs.YtlefmmhlpgmbjaaGreat
namespace Go.Proofs.YtlefmmhlpgmbjaaGreat
set_option maxRecDepth 100000
open Go.RowKit
section
variable {P : Program} {ops : Array Oper} {md : Region.Mode} {W0 : World} {an : Anns}
theorem zj7 {n i : Nat} {oi : Oper} {S : Option Rec -> Value -> Prop} {L : Array Bool -> Recs -> Act -> Prop} (hi : ops[i]? = some oi) (hsel : ∀ (j : Nat) (o : Oper) cs b, ops[j]? = some o -> o.op ≠ .select cs b)
  (hs : ∀ t, t < ops.size -> n <= t -> (pastB md ops 8 [t]).contains i = true) (hin : i < n) (hdone : ∀ listed ξ a, L listed ξ a -> ∀ j ∈ Region.ready md ops listed, n <= j) :
  ∀ (f : Nat) (listed : Array Bool) (ξ : Recs) (a : Act), Closed md ops n listed ->
   (∀ j oj, ops[j]? = some oj -> j ≠ i -> listed.getD j true = false -> (∀ e ∈ oj.after, Region.binds md e = true -> e.on ≠ i) -> oi.apart ops oj = true) ->
   i ∈ Region.ready md ops listed -> Outs P ops md an W0 i oi ξ a S ->
   (∀ ρ v, S ρ v -> AO P ops md an W0 n L f (listed.setIfInBounds i true) (upr ξ i ρ) (a.put oi.dst v)) -> AO P ops md an W0 n L (f + 1) listed ξ a := by
 intro f;have head : ∀ (listed : Array Bool), Closed md ops n listed -> i ∈ Region.ready md ops listed -> ∀ j ∈ Region.ready md ops listed, j < n := by
  intro listed inv hr j hj;rcases Nat.lt_or_ge j n with h | h
  . exact h
  .
   exfalso;have hlt : j < ops.size := by obtain ⟨_, oj, hoj, _⟩ := mem_ready.1 hj; exact (Array.getElem?_eq_some_iff.1 hoj).1
   rcases zaN hj inv.closed (hs j hlt h) with h2 | h2
   . omega
   . rw [getD_both (mem_ready.1 hr).1] at h2; cases h2
 induction f with
 | zero =>
  intro listed ξ a inv _ hr hy H;refine ⟨fun h => (by rw [h] at hr; cases hr), fun j hj => ⟨head listed inv hr j hj, fun oj hoj => ?_⟩⟩
  by_cases hji : j = i
  . subst hji;obtain rfl : oj = oi := Option.some.inj (hoj.symm.trans hi);exact ⟨S, hy, H⟩
  . obtain ⟨ρ, v, hs⟩ := hy.some;have := hdone _ _ _ (H ρ v hs) j (ready_mono hj hji);have := head listed inv hr j hj;omega
 | succ f ih =>
  intro listed ξ a inv hfree hr hy H;refine ⟨fun h => (by rw [h] at hr; cases hr), fun j hj => ⟨head listed inv hr j hj, fun oj hoj => ?_⟩⟩
  by_cases hji : j = i
  . subst hji;obtain rfl : oj = oi := Option.some.inj (hoj.symm.trans hi);exact ⟨S, hy, H⟩
  .
   obtain ⟨hjun, oj', hoj', hall⟩ := mem_ready.1 hj;obtain rfl : oj' = oj := Option.some.inj (hoj'.symm.trans hoj);have hun := (mem_ready.1 hr).1;have hnot : ∀ e ∈ oj'.after, Region.binds md e = true -> e.on ≠ i := fun e he hb heq => by have h1 := hall e he hb;rw [heq, getD_both hun] at h1;cases h1
   have hri : zbl md ops i j = false := by
    cases h : zbl md ops i j with
    | false => rfl
    | true =>
     rcases zaN hr inv.closed h with h2 | h2
     . exact absurd h2 hji
     . rw [getD_both hjun] at h2; cases h2
   have hrj : zbl md ops j i = false := by
    cases h : zbl md ops j i with
    | false => rfl
    | true =>
     rcases zaN hj inv.closed h with h2 | h2
     . exact absurd h2.symm hji
     . rw [getD_both hun] at h2; cases h2
   have hfree' : ∀ k ok, ops[k]? = some ok -> k ≠ i -> (listed.setIfInBounds j true).getD k true = false ->
     (∀ e ∈ ok.after, Region.binds md e = true -> e.on ≠ i) -> oi.apart ops ok = true := fun k ok hk hki hun hno => by
    refine hfree k ok hk hki ?_ hno
    by_cases hjk : j = k
    . subst hjk; exact hjun
    . rw [getD_set_ne true hjk] at hun; exact hun
   refine (StepK.swap (Ne.symm hji) (hfree j oj' hoj hji hjun hnot) (fun cs b => hsel i oi cs b hi) (fun cs b => hsel j oj' cs b hoj) hri hrj hy fun ρ v hs => ((H ρ v hs).2 j (ready_mono hj hji)).2 oj' hoj).mono ?_;rintro ξ' a' ⟨h1, h2⟩;refine ih (listed.setIfInBounds j true) ξ' a' (inv.set hj) hfree' (ready_mono hr (Ne.symm hji)) h1 fun ρ v hs => ?_;rw [Array.setIfInBounds_comm _ _ hji];exact h2 ρ v hs
theorem zjT {n : Nat} {Lq : Recs -> Act -> Prop} (hsel : Region.noSelect ops = true) (k0 : Nat) (hs : ∀ i, k0 <= i -> i < n -> ∀ t, t < ops.size -> n <= t -> (pastB md ops 8 [t]).contains i = true) (done : Array Bool) (hdn : (Region.ready md ops done).all (fun j => decide (n <= j)) = true) :
  ∀ (l : List Oper) (k : Nat) (listed : Array Bool) (ξ : Recs) (a : Act), (∀ j, j < l.length -> l[j]? = ops[k + j]?) -> k0 <= k -> k + l.length = n -> Closed md ops n listed -> setTo listed l.length k = done ->
  zbb md ops n l.length k listed = true -> LW P ops md an W0 Lq l k ξ a -> AO P ops md an W0 n (fun listed' ξ' a' => listed' = done /\ Lq ξ' a') l.length listed ξ a
 | [], k, listed, ξ, a, _, _, _, _, hd, _, h => ⟨hd, h⟩
 | o :: l, k, listed, ξ, a, hl, hk0, hk, inv, hd, hB, h => by
  have h0 : ops[k]? = some o := by simpa using (hl 0 (by simp)).symm
  simp only [zlC, zbb, Bool.and_eq_true] at hB;obtain ⟨⟨hr, hf⟩, hB'⟩ := hB;have hkn : k < n := by simp only [zlC] at hk; omega
  have hr' : k ∈ Region.ready md ops listed := by simpa using hr
  obtain ⟨S, hS, hK⟩ := h;refine zj7 h0 (Region.noSelect_spec hsel) (hs k hk0 hkn) hkn (fun listed' _ a' hL j hj => ?_) l.length listed ξ a inv (Region.free_spec h0 hf) hr' hS fun ρ v hs' => ?_
  . rw [hL.1] at hj; exact of_decide_eq_true (List.all_eq_true.1 hdn j hj)
  . exact zjT hsel k0 hs done hdn l (k + 1) _ _ _ (fun j hj => by have := hl (j + 1) (by simp; omega); simpa [Nat.add_assoc, Nat.add_comm 1 j] using this) (by omega) (by simp only [zlC] at hk; omega) (inv.set hr') (by simpa [setTo] using hd) hB' (hK ρ v hs')
def zjU (md : Region.Mode) (ops : Array Oper) (k n : Nat) : Bool := (List.range ops.size).all fun t => decide (t < n) || (List.range n).all fun i => decide (i < k) || (pastB md ops 8 [t]).contains i
def zhK (md : Region.Mode) (ops : Array Oper) (listed : Array Bool) : Bool := decide (listed.size = ops.size) && (List.range ops.size).all fun j => !listed.getD j false || (ops.getD j default).after.all fun e => !Region.binds md e || listed.getD e.on false
theorem zgA {n : Nat} {listed : Array Bool} (h : zhK md ops listed = true) : Closed md ops n listed := by
 simp only [zhK, Bool.and_eq_true, decide_eq_true_eq] at h;refine ⟨h.1, fun j oj hj hl e he hb => ?_⟩;have hlt : j < ops.size := (Array.getElem?_eq_some_iff.1 hj).1;have h1 := List.all_eq_true.1 h.2 j (List.mem_range.2 hlt);have e1 : ops.getD j default = oj := by rw [Array.getD_eq_getD_getElem?, hj]; rfl
 rw [hl, e1] at h1;simp only [Bool.not_true, Bool.false_or] at h1;have h2 := Array.all_eq_true_iff_forall_mem.1 h1 e he;rw [hb] at h2;simpa only [Bool.not_true, Bool.false_or] using h2
def zgO (md : Region.Mode) (ops : Array Oper) (k n : Nat) (listed : Array Bool) : Bool := Region.noSelect ops && zjU md ops k n && zhK md ops listed && zbb md ops n (n - k) k listed
theorem zgj {Q : Exit -> Act -> World -> Prop} {a : Act} {w : World} {l : List Oper} {listed : Array Bool} {fuel : Nat} (k n g : Nat) (done : Array Bool) (an : Anns) (hn : l.length = n + g) (hk : k <= n) (hf : fuel = n - k + g) (hd : setTo listed (n - k) k = done) (hB : zgO md l.toArray k n listed = true) (hw : Below W0.heap.size W0 w)
  (h : LW P l.toArray md an W0 (fun ξ a' => ∀ w', Good an W0 ξ w' -> wpAny P md l.toArray Q g done a' w') ((l.drop k).take (n - k)) k (fun _ => none) a) : wpAny P md l.toArray Q fuel listed a w := by
 simp only [zgO, Bool.and_eq_true] at hB;obtain ⟨⟨⟨hsel, hs⟩, hc⟩, hlex⟩ := hB;have htl : ((l.drop k).take (n - k)).length = n - k := by simp; omega
 have hdn := zbs _ _ _ hlex;have H := zjT (md := md) hsel k (fun i hi hin t ht hnt => by
   have h1 := List.all_eq_true.1 hs t (List.mem_range.2 ht);simp only [Bool.or_eq_true, decide_eq_true_eq] at h1;rcases h1 with h1 | h1
   . omega
   .
    have h2 := List.all_eq_true.1 h1 i (List.mem_range.2 hin);simp only [Bool.or_eq_true, decide_eq_true_eq] at h2;rcases h2 with h2 | h2
    . omega
    . exact h2) _ hdn ((l.drop k).take (n - k)) k listed _ a (fun j hj => by
  have hj' : j < n - k := by rw [htl] at hj; exact hj
  simp [hj']) (Nat.le_refl _) (by rw [htl]; omega) (zgA hc) (by rw [htl]) (by rw [htl]; exact hlex) h
 have := zbG (g := g) (Q' := Q) (w := w) (fun listed ξ a' w' hL hg => ?_) _ _ _ _ H (Good.start an hw)
 . rw [htl] at this;rw [hf];exact this
 . rw [hL.1, hd];exact hL.2 w' hg
theorem zbF {id : Nat} {Q : Exit -> Act -> World -> Prop} {a : Act} {w : World} {o : Oper} {rest : List Oper} (hm : P.follows .mixedOrders = true) (x : Operand) (v : Value) (hop : o.op = .move x) (hgd : o.guard = none) (hv : a.eval x = v)
  (hs : Region.noSelect (o :: rest).toArray = true) (hf : Region.free .any (o :: rest).toArray (Array.replicate (rest.length + 1) false) 0 = true) (hr : (Region.ready .any (o :: rest).toArray (Array.replicate (rest.length + 1) false)).contains 0 = true) (hQ : ∀ c b w, Q (.panic c) (b.put o.dst v) w -> Q (.panic c) b w)
  (h : wpAny P .any (o :: rest).toArray Q rest.length ((Array.replicate (rest.length + 1) false).setIfInBounds 0 true) (a.put o.dst v) w.drew) : (Code.region id (o :: rest).toArray true).wp P Q a w := by
 refine wp_region_any hm ?_;have e : (o :: rest).toArray.size = rest.length + 1 := by simp
 rw [e];refine wpAny_take (i := 0) (oi := o) (v := v) rfl hs hf hr hQ (Or.inl ⟨by simp [Region.wanted, hgd], fun w' => by simp [execOp, hop, hv]⟩) h
end
end Go.Proofs.YtlefmmhlpgmbjaaGreat
