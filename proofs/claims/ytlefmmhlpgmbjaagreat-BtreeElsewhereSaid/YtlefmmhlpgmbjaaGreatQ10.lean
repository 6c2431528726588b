/- btree.Open, tree, Check: program's side. The child to which a key leads; a key among pairs: (*node).child, find, slices.BinarySearchFunc. btree.get, btree.Get: program's side. -/
import Derived.Test.YtlefmmhlpgmbjaaGreatQ09
import Derived.Test.YtlefmmhlpgmbjaaGreatQ02
import Derived.Laws.Cover1
import Derived.Test.YtlefmmhlpgmbjaaGreatQ01
namespace Go.Proofs.YtlefmmhlpgmbjaaGreat
set_option maxRecDepth 100000
open Go.RowKit
def openP (d : Dsk) (frm til : Int) : Ix × Int :=
 if fitX d frm til ≠ 0 then (zeroX, fitX d frm til)
 else match readP d frm til with
  | none => (zeroX, 25)
  | some (x, _) => (x, 0)
def validP (x : Ix) : Option (Option Nd) :=
 if fitX x.disk x.frm x.til ≠ 0 then none
 else match readP x.disk x.frm x.til with
  | none => none
  | some (y, t) => if y.ver = x.ver /\ y.root = x.root /\ y.free = x.free then some t else none
def RetXE (w : World) (x : Ix) (er : Int) (e : Ending) (w' : World) : Prop := ∃ v, e = .returned (.tuple #[v, .int .i64 er]) /\ IxT w' v x /\ Below w.heap.size w w'
structure OpC (w : World) (N : Nat) (d : Dsk) (po co : Option Addr) (pc cc : Nat) (W : World) : Prop where
 dsk : Bx W N (dC d po co pc cc) 25
 res : Bx W (N + 1) ixZ 33
 below : Below w.heap.size w W
 val : DskV W (.agg (dC d po co pc cc)) d
 base : w.heap.size = N
 size : N + 1 < W.heap.size
theorem OpC.next {w : World} {N : Nat} {d : Dsk} {po co : Option Addr} {pc cc : Nat} {W W' : World} (h : OpC w N d po co pc cc W) (hb : Below W.heap.size W W') : OpC w N d po co pc cc W' :=
 ⟨h.dsk.belowAll hb, h.res.belowAll hb, btr h.below hb, h.val.below hb, h.base, znL h.size hb.size⟩
theorem openP_bad {d : Dsk} {frm til : Int} (h : fitX d frm til ≠ 0) : openP d frm til = (zeroX, fitX d frm til) := by unfold openP; rw [if_pos h]
theorem openP_none {d : Dsk} {frm til : Int} (h : fitX d frm til = 0) (hr : readP d frm til = none) : openP d frm til = (zeroX, 25) := by unfold openP; rw [if_neg (by simpa using h), hr]
theorem openP_some {d : Dsk} {frm til : Int} (h : fitX d frm til = 0) {x : Ix} {t : Option Nd} (hr : readP d frm til = some (x, t)) : openP d frm til = (x, 0) := by unfold openP; rw [if_neg (by simpa using h), hr]
set_option maxHeartbeats 1600000 in
theorem bt_Open (d : Dsk) (v : Value) (frm til : Int) (w : World) (hD : DskV w v d) :
  Calls Tryz.prog 16 #[v, .int .i64 frm, .int .i64 til] w (RetXE w (openP d frm til).1 (openP d frm til).2) := by
 have hD0 := hD
 obtain ⟨po, pc, co, cc, rfl⟩ := hD.agg
 obtain ⟨N, hN⟩ : ∃ N, w.heap.size = N := ⟨_, rfl⟩
 obtain ⟨W0, hW0⟩ : ∃ W0, (w.alloc (.cells (dC d po co pc cc) 25)).alloc (.cells ixZ 33) = W0 := ⟨_, rfl⟩
 have s0 : OpC w N d po co pc cc W0 := by
  subst hW0 hN
  have HB := (Below.one w (.cells (dC d po co pc cc) 25)).alloc (by simp) (.cells ixZ 33)
  exact ⟨(Bx.new w (dC d po co pc cc) 25).alloc _, Bx.newAt _ _ _ _ (by simp), HB, hD0.below HB, rfl, by simp⟩
 clear hD
 have cD := s0.dsk.cell
 unfold dC at cD
 have lD := s0.dsk.lt
 have hch := v_check d _ W0 s0.val rfl
 obtain ⟨ce, hce⟩ : ∃ c, chk d = c := ⟨_, rfl⟩
 rw [hce] at hch
 have Hch := zhI hch
 have Hce := zhI hce
 clear hch hce
 go_enter Tryz.func16, Tryz.ntmps16
 go_wp2_with fail
 refine Hch.out.mono ?_
 rintro e w1 ⟨rfl, hb1⟩
 have s1 := s0.next hb1
 clear s0 cD lD hb1 hW0
 have cD := s1.dsk.cell
 unfold dC at cD
 have lD := s1.dsk.lt
 cases hc : (ce != 0)
 rotate_left
 .
  have hne : chk d ≠ 0 := by rw [Hce.out]; simpa using hc
  have ho : openP d frm til = (zeroX, 1) := by
   have e : fitX d frm til = 1 := by unfold fitX; rw [if_pos hne]
   rw [openP_bad (by rw [e]; decide), e]
  clear hne
  have Ho := zhI ho
  have X0 := s1.res
  have lX := X0.lt
  have cX := X0.cell
  have xf := X0.free
  unfold ixZ at cX
  have hBz := zhI (below_set9 (b := N + 1) (v0 := .int .i64 0) (v1 := .slice none 0 0) (v2 := .slice none 0 0) (v3 := .int .i64 0) (v4 := .int .i64 0) (v5 := .int .i64 0) (v6 := .int .i64 0) (v7 := .int .i64 0) (v8 := .slice none 0 0) s1.below (by have := s1.base; omega))
  have Xz := zhI (X0.set9 (v0 := .int .i64 0) (v1 := .slice none 0 0) (v2 := .slice none 0 0) (v3 := .int .i64 0) (v4 := .int .i64 0) (v5 := .int .i64 0) (v6 := .int .i64 0) (v7 := .int .i64 0) (v8 := .slice none 0 0))
  clear ho X0
  go_wp2
  have cz := Xz.out.cell
  simp only [st9, st8] at cz
  refine bodyPost_ret (v := .tuple #[.agg ixZ, .int .i64 1]) (by simp [results, Tryz.results16, go_sem, cz]) rfl ?_
  rw [Ho.out]
  exact ⟨_, rfl, IxT.zero _, hBz.out⟩
 have hc0 : chk d = 0 := by rw [Hce.out]; simpa using hc
 have Hc0 := zhI hc0
 cases hft : fits5 d frm til
 .
  have ho : openP d frm til = (zeroX, 2) := by
   have e : fitX d frm til = 2 := by unfold fitX; rw [if_neg (by simpa using hc0), if_pos hft]
   rw [openP_bad (by rw [e]; decide), e]
  have hfit := bt_fits d _ frm til w1 hc0 hft s1.val
  have Hfit := zhI hfit
  clear hfit hc0 hft
  go_wp2_with fail
  refine Hfit.out.mono ?_
  rintro e w2 ⟨rfl, hb2⟩
  have s2 := s1.next hb2
  clear s1 cD lD hb2 Hfit
  have s1 := s2
  have Ho := zhI ho
  have X0 := s1.res
  have lX := X0.lt
  have cX := X0.cell
  have xf := X0.free
  unfold ixZ at cX
  have hBz := zhI (below_set9 (b := N + 1) (v0 := .int .i64 0) (v1 := .slice none 0 0) (v2 := .slice none 0 0) (v3 := .int .i64 0) (v4 := .int .i64 0) (v5 := .int .i64 0) (v6 := .int .i64 0) (v7 := .int .i64 0) (v8 := .slice none 0 0) s1.below (by have := s1.base; omega))
  have Xz := zhI (X0.set9 (v0 := .int .i64 0) (v1 := .slice none 0 0) (v2 := .slice none 0 0) (v3 := .int .i64 0) (v4 := .int .i64 0) (v5 := .int .i64 0) (v6 := .int .i64 0) (v7 := .int .i64 0) (v8 := .slice none 0 0))
  clear ho X0
  go_wp2
  have cz := Xz.out.cell
  simp only [st9, st8] at cz
  refine bodyPost_ret (v := .tuple #[.agg ixZ, .int .i64 2]) (by simp [results, Tryz.results16, go_sem, cz]) rfl ?_
  rw [Ho.out]
  exact ⟨_, rfl, IxT.zero _, hBz.out⟩
 .
  have hfit := bt_fits d _ frm til w1 hc0 hft s1.val
  have Hfit := zhI hfit
  have hf0 : fitX d frm til = 0 := by unfold fitX; rw [if_neg (by simpa using hc0), if_neg (by simp [hft])]
  have Hf0 := zhI hf0
  have Hft := zhI hft
  clear hfit hc0 hft hf0
  go_wp2_with fail
  refine Hfit.out.mono ?_
  rintro e w2 ⟨rfl, hb2⟩
  have s2 := s1.next hb2
  clear s1 cD lD hb2 Hfit
  have cD := s2.dsk.cell
  unfold dC at cD
  have lD := s2.dsk.lt
  have hop := bt_open d _ frm til w2 Hc0.out Hft.out s2.val
  have Hop := zhI hop
  clear hop
  go_wp2_with fail
  refine Hop.out.mono ?_
  rintro e w3 ⟨hb3, hres⟩
  have s3 := s2.next hb3
  clear s2 cD lD Hop
  cases hrd : readP d frm til with
  | none =>
   rw [hrd] at hres
   simp only at hres
   subst hres
   have ho := openP_none Hf0.out hrd
   have s1 := s3.next ((Below.refl _ w3).alloc (Nat.le_refl _) (.cells ixZ 33))
   clear hrd s3 hb3
   have Ho := zhI ho
   have X0 := s1.res
   have lX := X0.lt
   have cX := X0.cell
   have xf := X0.free
   unfold ixZ at cX
   have hBz := zhI (below_set9 (b := N + 1) (v0 := .int .i64 0) (v1 := .slice none 0 0) (v2 := .slice none 0 0) (v3 := .int .i64 0) (v4 := .int .i64 0) (v5 := .int .i64 0) (v6 := .int .i64 0) (v7 := .int .i64 0) (v8 := .slice none 0 0) s1.below (by have := s1.base; omega))
   have Xz := zhI (X0.set9 (v0 := .int .i64 0) (v1 := .slice none 0 0) (v2 := .slice none 0 0) (v3 := .int .i64 0) (v4 := .int .i64 0) (v5 := .int .i64 0) (v6 := .int .i64 0) (v7 := .int .i64 0) (v8 := .slice none 0 0))
   clear ho X0
   go_wp2
   have cz := Xz.out.cell
   simp only [st9, st8] at cz
   refine bodyPost_ret (v := .tuple #[.agg ixZ, .int .i64 25]) (by simp [results, Tryz.results16, go_sem, cz]) rfl ?_
   rw [Ho.out]
   exact ⟨_, rfl, IxT.zero _, hBz.out⟩
  | some r =>
   obtain ⟨x, t⟩ := r
   rw [hrd] at hres
   simp only at hres
   obtain ⟨v, a, rfl, hv, -, -⟩ := hres
   have ho := openP_some Hf0.out hrd
   have Ho := zhI ho
   have hv0 := hv
   obtain ⟨po', pc', co', cc', fo, fc, rfl, h1, h2, h3⟩ := hv
   have hv1 := hv0.below ((Below.refl _ w3).alloc (Nat.le_refl _) (.cells (ixC x.disk po' co' pc' cc' x.frm x.til x.ver x.root fo x.free.length fc) 33))
   have s1 := s3.next ((Below.refl _ w3).alloc (Nat.le_refl _) (.cells (ixC x.disk po' co' pc' cc' x.frm x.til x.ver x.root fo x.free.length fc) 33))
   have X0 := s1.res
   have lX := X0.lt
   have cX := X0.cell
   have xf := X0.free
   unfold ixZ at cX
   have hBz := zhI (below_set9 (b := N + 1) (v0 := .int .i64 x.disk.size) (v1 := .slice po' x.disk.pages.length pc') (v2 := .slice co' x.disk.cache.length cc') (v3 := .int .i64 x.disk.left) (v4 := .int .i64 x.frm) (v5 := .int .i64 x.til) (v6 := .int .i64 x.ver) (v7 := .int .i64 x.root) (v8 := .slice fo x.free.length fc) s1.below (by have := s1.base; omega))
   have Xz := zhI (X0.set9 (v0 := .int .i64 x.disk.size) (v1 := .slice po' x.disk.pages.length pc') (v2 := .slice co' x.disk.cache.length cc') (v3 := .int .i64 x.disk.left) (v4 := .int .i64 x.frm) (v5 := .int .i64 x.til) (v6 := .int .i64 x.ver) (v7 := .int .i64 x.root) (v8 := .slice fo x.free.length fc))
   have Hx := zhI (hv1.only X0 (noS9 _ _ _ _ _ _ _ _ _ _ _ _ _ _ _) (by decide) (Only.nine (v0 := .int .i64 x.disk.size) (v1 := .slice po' x.disk.pages.length pc') (v2 := .slice co' x.disk.cache.length cc') (v3 := .int .i64 x.disk.left) (v4 := .int .i64 x.frm) (v5 := .int .i64 x.til) (v6 := .int .i64 x.ver) (v7 := .int .i64 x.root) (v8 := .slice fo x.free.length fc)))
   clear ho hrd s3 hb3 X0 s1 h1 h2 h3 hv0 hv1
   go_wp2
   have cz := Xz.out.cell
   simp only [st9, st8] at cz
   refine bodyPost_ret (v := .tuple #[.agg (ixC x.disk po' co' pc' cc' x.frm x.til x.ver x.root fo x.free.length fc), .int .i64 0]) (by simp [results, Tryz.results16, go_sem, cz]) rfl ?_
   rw [Ho.out]
   exact ⟨_, rfl, Hx.out, hBz.out⟩
theorem v_equalI (fo go : Option Addr) (fc gc : Nat) (xs ys : List Int) (w : World) {S T : Nat -> Prop} (hs : SlW fo xs.length fc) (ht : SlW go ys.length gc) (hx : IntsAt S w fo xs) (hy : IntsAt T w go ys) :
  Calls Tryz.prog 99 #[.slice fo xs.length fc, .slice go ys.length gc] w fun e w' => e = .returned (.bool (decide (xs = ys))) /\ Below w.heap.size w w' := by
 by_cases hl : xs.length = ys.length
 .
  by_cases h0 : xs.length = 0
  .
   obtain rfl : xs = [] := List.eq_nil_of_length_eq_zero h0
   obtain rfl : ys = [] := List.eq_nil_of_length_eq_zero (by rw [<- hl]; rfl)
   refine (Tryz.slices_Equal_int_empty fo go fc 0 gc w (by omega)).mono ?_
   rintro e w' ⟨rfl, rfl⟩
   exact ⟨by simp, Below.refl _ _⟩
  .
   obtain ⟨b1, o1, rfl, -, -⟩ := hx 0 (by omega)
   obtain ⟨b2, o2, rfl, -, -⟩ := hy 0 (by omega)
   have m1 : xs.length <= maxLen := by rcases hs with ⟨h, _⟩ | ⟨_, _, h1, h2⟩; cases h; omega
   unfold maxLen at m1
   refine (Tryz.slices_Equal_int b1 o1 xs.length fc b2 o2 ys.length gc xs ys w (Nat.le_refl _) (Nat.le_refl _) (by omega) (by omega) (fun j hj => ?_) (fun j hj => ?_)).mono ?_
   .
    obtain ⟨b, off, e, hc, _⟩ := hx j hj
    obtain ⟨rfl, rfl⟩ : b1 = b /\ o1 = off := by simpa using e
    rw [hc, List.getD_eq_getElem?_getD, List.getElem?_eq_getElem hj]; rfl
   .
    obtain ⟨b, off, e, hc, _⟩ := hy j hj
    obtain ⟨rfl, rfl⟩ : b2 = b /\ o2 = off := by simpa using e
    rw [hc, List.getD_eq_getElem?_getD, List.getElem?_eq_getElem hj]; rfl
   .
    rintro e w' ⟨rfl, q, rfl⟩
    rw [List.take_length, List.take_length]
    refine ⟨?_, Below.drewN (Below.refl _ _) q⟩
    congr 2
    by_cases h : xs = ys <;> simp [h]
 .
  refine (Tryz.slices_Equal_int_lens fo go xs.length fc ys.length gc w hl).mono ?_
  rintro e w' ⟨rfl, rfl⟩
  have : decide (xs = ys) = false := by simp; rintro rfl; exact hl rfl
  rw [this]
  exact ⟨rfl, Below.refl _ _⟩
def TreeRes (o : Option (Option Nd)) (w : World) (e : Ending) (w' : World) : Prop :=
 Below w.heap.size w w' /\ match o with
 | none => ∃ v, e = .returned (.tuple #[v, .bool false])
 | some t => ∃ a, e = .returned (.tuple #[rootV a, .bool true]) /\ LiesO w.heap.size w' a /\ ndO a = t
theorem validP_bad {x : Ix} (h : fitX x.disk x.frm x.til ≠ 0) : validP x = none := by unfold validP; rw [if_pos h]
theorem validP_none {x : Ix} (h : readP x.disk x.frm x.til = none) : validP x = none := by unfold validP; rw [h]; split <;> rfl
theorem validP_some {x y : Ix} {t : Option Nd} (h : fitX x.disk x.frm x.til = 0) (hr : readP x.disk x.frm x.til = some (y, t)) : validP x = if y.ver = x.ver /\ y.root = x.root /\ y.free = x.free then some t else none := by
 unfold validP; rw [if_neg (by simpa using h), hr]
set_option maxHeartbeats 1600000 in
theorem bt_tree (x : Ix) (v : Value) (w : World) (hx : IxV w v x) : Calls Tryz.prog 59 #[v] w (TreeRes (validP x) w) := by
 obtain ⟨po, pc, co, cc, fo, fc, rfl, h1, h2, h3⟩ := hx
 obtain ⟨d, frm, til, ver, root, free⟩ := x
 simp only at h1 h2 h3 |-
 obtain ⟨N, hN⟩ : ∃ N, w.heap.size = N := ⟨_, rfl⟩
 obtain ⟨R, hR⟩ : ∃ R, TreeRes (validP ⟨d, frm, til, ver, root, free⟩) w = R := ⟨_, rfl⟩
 rw [hR]
 have HR := zhI hR
 obtain ⟨fn, hfn⟩ : ∃ n, free.length = n := ⟨_, rfl⟩
 rw [hfn]
 obtain ⟨W0, hW0⟩ : ∃ W0, w.alloc (.cells (ixC d po co pc cc frm til ver root fo fn fc) 33) = W0 := ⟨_, rfl⟩
 have xX : Bx W0 N (ixC d po co pc cc frm til ver root fo fn fc) 33 := by subst hW0 hN; exact Bx.new w _ _
 have hB0 : Below w.heap.size w W0 := by subst hW0; exact Below.one w _
 have hV0 := h1.below hB0
 have Hfn := zhI hfn
 have H2 := zhI h2
 have H3 : Hid (IntsAt (· < w.heap.size) w fo free) := zhI h3
 have hch := v_check d _ W0 hV0 rfl
 obtain ⟨ce, hce⟩ : ∃ c, chk d = c := ⟨_, rfl⟩
 rw [hce] at hch
 have Hch := zhI hch
 have Hce := zhI hce
 have cX := xX.cell
 have lX := xX.lt
 unfold ixC at cX hW0
 clear hch hce hR hfn h1 h2 h3
 go_enter Tryz.func59, Tryz.ntmps59
 go_wp2_with fail
 refine Hch.out.mono ?_
 rintro e w1 ⟨rfl, hb1⟩
 have xX1 := xX.belowAll hb1
 have hB1 := btr hB0 hb1
 have hV1 := hV0.below hb1
 clear cX lX hW0 xX hB0 hV0 Hch hb1
 have cX := xX1.cell
 have lX := xX1.lt
 unfold ixC at cX
 cases hc : (ce != 0)
 rotate_left
 .
  have HP : Hid (validP ⟨d, frm, til, ver, root, free⟩ = none) := zhI (validP_bad (by
   have : chk d ≠ 0 := by rw [Hce.out]; simpa using hc
   unfold fitX; rw [if_pos this]; decide))
  go_wp2
  rw [<- HR.out]
  unfold TreeRes
  rw [HP.out]
  exact ⟨hB1, _, rfl⟩
 have hc0 : chk d = 0 := by rw [Hce.out]; simpa using hc
 have Hc0 := zhI hc0
 cases hft : fits5 d frm til
 .
  have HP : Hid (validP ⟨d, frm, til, ver, root, free⟩ = none) := zhI (validP_bad (by
   unfold fitX; rw [if_neg (by simpa using hc0), if_pos hft]; decide))
  have hfit := bt_fits d _ frm til w1 hc0 hft hV1
  have Hfit := zhI hfit
  clear hfit hc0 hft
  go_wp2_with fail
  refine Hfit.out.mono ?_
  rintro e w2 ⟨rfl, hb2⟩
  have hB2 := btr hB1 hb2
  clear Hfit cX lX
  go_wp2
  rw [<- HR.out]
  unfold TreeRes
  rw [HP.out]
  exact ⟨hB2, _, rfl⟩
 .
  have hfit := bt_fits d _ frm til w1 hc0 hft hV1
  have Hfit := zhI hfit
  have hf0 : fitX d frm til = 0 := by unfold fitX; rw [if_neg (by simpa using hc0), if_neg (by simp [hft])]
  have Hf0 := zhI hf0
  have Hft := zhI hft
  clear hfit hc0 hft hf0
  go_wp2_with fail
  refine Hfit.out.mono ?_
  rintro e w2 ⟨rfl, hb2⟩
  have hB2 := btr hB1 hb2
  have xX2 := xX1.belowAll hb2
  have hV2 := hV1.below hb2
  clear cX lX xX1 hB1 hV1 Hfit hb2
  have cX := xX2.cell
  have lX := xX2.lt
  unfold ixC at cX
  have hop := bt_open d _ frm til w2 Hc0.out Hft.out hV2
  have Hop := zhI hop
  clear hop
  go_wp2_with fail
  refine Hop.out.mono ?_
  rintro e w3 ⟨hb3, hres⟩
  have hB3 := btr hB2 hb3
  have xX3 := xX2.belowAll hb3
  clear cX lX xX2 Hop hb3
  have cX := xX3.cell
  have lX := xX3.lt
  unfold ixC at cX
  cases hrd : readP d frm til with
  | none =>
   rw [hrd] at hres
   simp only at hres
   subst hres
   have HP : Hid (validP ⟨d, frm, til, ver, root, free⟩ = none) := zhI (validP_none hrd)
   have hB4 := hB3.alloc hB3.size (.cells ixZ 33)
   clear hrd
   go_wp2
   rw [<- HR.out]
   unfold TreeRes
   rw [HP.out]
   exact ⟨hB4, _, rfl⟩
  | some r =>
   obtain ⟨y, t⟩ := r
   rw [hrd] at hres
   simp only at hres
   obtain ⟨v, a, rfl, hv, hLO, hnd⟩ := hres
   obtain ⟨po', pc', co', cc', go, gc, rfl, h1, h2, h3⟩ := hv
   have hvs := validP_some (x := ⟨d, frm, til, ver, root, free⟩) Hf0.out hrd
   obtain ⟨yd, yf, yt, yv, yr, yfr⟩ := y
   simp only at h1 h2 h3 hvs |-
   have Hvs := zhI hvs
   obtain ⟨p, hp⟩ : ∃ p, rootV a = .pointer p := by cases a with
    | none => exact ⟨none, rfl⟩
    | some t => exact ⟨_, rfl⟩
   rw [hp]
   have hb4 : Below w3.heap.size w3 (w3.alloc (.cells (ixC yd po' co' pc' cc' yf yt yv yr go yfr.length gc) 33)) := Below.one w3 _
   have hB4 := btr hB3 hb4
   have HL4 : Hid (LiesO w.heap.size (w3.alloc (.cells (ixC yd po' co' pc' cc' yf yt yv yr go yfr.length gc) 33)) a) := zhI (fun t ht => by
    obtain ⟨q1, q2, q3⟩ := hLO t ht
    exact ⟨(q1.down hB2.size).staysAll hb4, q2, q3⟩)
   have heq := v_equalI go fo gc fc yfr free (w3.alloc (.cells (ixC yd po' co' pc' cc' yf yt yv yr go yfr.length gc) 33)) h2 H2.out (h3.at.below hb4) (H3.out.below hB4)
   rw [Hfn.out] at heq
   have Heq := zhI heq
   have Hp := zhI hp
   have Hnd := zhI hnd
   unfold ixC at HL4 Heq hb4 hB4
   clear hrd hvs hp heq hLO hnd h1 h2 h3
   cases g1 : (yv == ver)
   .
    have HP : Hid (validP ⟨d, frm, til, ver, root, free⟩ = none) := zhI (by rw [Hvs.out, if_neg (fun h => by simp [h.1] at g1)])
    go_wp2
    rw [<- HR.out]
    unfold TreeRes
    rw [HP.out]
    exact ⟨hB4, _, rfl⟩
   have e1 : yv = ver := by simpa using g1
   have E1 := zhI e1
   clear e1
   cases g2 : (yr == root)
   .
    have HP : Hid (validP ⟨d, frm, til, ver, root, free⟩ = none) := zhI (by rw [Hvs.out, if_neg (fun h => by simp [h.2.1] at g2)])
    go_wp2
    rw [<- HR.out]
    unfold TreeRes
    rw [HP.out]
    exact ⟨hB4, _, rfl⟩
   have e2 : yr = root := by simpa using g2
   have E2 := zhI e2
   clear e2
   go_wp2_with fail
   refine Heq.out.mono ?_
   rintro e w5 ⟨rfl, hb5⟩
   have hB5 := btr hB4 hb5
   by_cases g3 : yfr = free
   .
    have HP : Hid (validP ⟨d, frm, til, ver, root, free⟩ = some t) := zhI (by rw [Hvs.out, if_pos ⟨E1.out, E2.out, g3⟩])
    rw [decide_eq_true g3]
    have HL5 := zhI (fun t ht => by
     obtain ⟨q1, q2, q3⟩ := HL4.out t ht
     exact ⟨q1.staysAll hb5, q2, q3⟩ : LiesO w.heap.size w5 a)
    clear g3 HL4
    go_wp2
    rw [<- HR.out]
    unfold TreeRes
    rw [HP.out]
    exact ⟨hB5, a, by rw [Hp.out]; rfl, HL5.out, Hnd.out⟩
   .
    have HP : Hid (validP ⟨d, frm, til, ver, root, free⟩ = none) := zhI (by rw [Hvs.out, if_neg (fun h => g3 h.2.2)])
    rw [decide_eq_false g3]
    clear g3
    go_wp2
    rw [<- HR.out]
    unfold TreeRes
    rw [HP.out]
    exact ⟨hB5, _, rfl⟩
set_option maxHeartbeats 800000 in
theorem bt_Check (x : Ix) (v : Value) (w : World) (hx : IxV w v x) {er : Int} (her : (if validP x = none then 1 else 0) = er) : Calls Tryz.prog 25 #[v] w fun e w' => e = .returned (.int .i64 er) /\ Below w.heap.size w w' := by
 have hx0 := hx
 obtain ⟨po, pc, co, cc, fo, fc, rfl, -, -, -⟩ := hx
 have hB0 := Below.one w (.cells (ixC x.disk po co pc cc x.frm x.til x.ver x.root fo x.free.length fc) 33)
 have htr := bt_tree x _ _ (hx0.below hB0)
 have Htr := zhI htr
 have Her := zhI her
 clear htr hx0 her
 go_enter Tryz.func25, Tryz.ntmps25
 go_wp2_with fail
 refine Htr.out.mono ?_
 rintro e w1 ⟨hb1, hres⟩
 have hB1 := btr hB0 hb1
 cases hv : validP x with
 | none =>
  rw [hv] at hres
  obtain ⟨u, rfl⟩ := hres
  have He : Hid (er = 1) := zhI (by rw [<- Her.out, hv]; rfl)
  clear hv
  go_wp2
  go_ret
  exact ⟨by rw [He.out]; rfl, hB1⟩
 | some t =>
  rw [hv] at hres
  obtain ⟨a, rfl, -, -⟩ := hres
  have He : Hid (er = 0) := zhI (by rw [<- Her.out, hv]; rfl)
  clear hv
  go_wp2
  go_ret
  exact ⟨by rw [He.out]; rfl, hB1⟩
theorem cmp_spec : ∀ a b : List UInt8, (Lib.compareBytes a b = -1 /\ Go.Op.bytesLess a b = true) \/ (Lib.compareBytes a b = 0 /\ a = b) \/ (Lib.compareBytes a b = 1 /\ Go.Op.bytesLess b a = true)
 | [], [] => .inr (.inl ⟨rfl, rfl⟩)
 | [], _ :: _ => .inl ⟨rfl, by simp [Go.Op.bytesLess]⟩
 | _ :: _, [] => .inr (.inr ⟨rfl, by simp [Go.Op.bytesLess]⟩)
 | x :: a, y :: b => by
  rw [Lib.compareBytes]
  by_cases h1 : x < y
  .
   rw [if_pos h1]
   exact .inl ⟨rfl, by rw [Go.Op.bytesLess]; simp [h1]⟩
  .
   rw [if_neg h1]
   by_cases h2 : y < x
   .
    rw [if_pos h2]
    exact .inr (.inr ⟨rfl, by rw [Go.Op.bytesLess]; simp [h2]⟩)
   .
    rw [if_neg h2]
    obtain rfl : x = y := UInt8.le_antisymm (UInt8.not_lt.1 h2) (UInt8.not_lt.1 h1)
    rcases cmp_spec a b with ⟨e, h⟩ | ⟨e, h⟩ | ⟨e, h⟩
    .
     exact .inl ⟨e, by rw [Go.Op.bytesLess]; simp [h]⟩
    .
     exact .inr (.inl ⟨e, by rw [h]⟩)
    .
     exact .inr (.inr ⟨e, by rw [Go.Op.bytesLess]; simp [h]⟩)
def cmpK (a b : ByteArray) : Int := Lib.compareBytes a.data.toList b.data.toList
theorem cmpK_lt (a b : ByteArray) : cmpK a b < 0 ↔ kLt a b = true := by
 unfold cmpK kLt
 rw [ByteArray.toList_eq, ByteArray.toList_eq]
 rcases cmp_spec a.data.toList b.data.toList with ⟨e, h⟩ | ⟨e, h⟩ | ⟨e, h⟩
 .
  rw [e, h]; simp
 .
  rw [e, h, bl_irrefl]; simp
 .
  rw [e]
  have : Go.Op.bytesLess a.data.toList b.data.toList = false := by
   cases g : Go.Op.bytesLess a.data.toList b.data.toList
   .
    rfl
   .
    have := bl_trans g h; rw [bl_irrefl] at this; cases this
  rw [this]; simp
theorem cmpK_eq (a b : ByteArray) : cmpK a b = 0 ↔ a = b := by
 unfold cmpK
 rcases cmp_spec a.data.toList b.data.toList with ⟨e, h⟩ | ⟨e, h⟩ | ⟨e, h⟩
 .
  rw [e]; constructor
  .
   intro h; cases h
  .
   rintro rfl; rw [bl_irrefl] at h; cases h
 .
  rw [e]; exact ⟨fun _ => ByteArray.ext (Array.ext' h), fun _ => rfl⟩
 .
  rw [e]; constructor
  .
   intro h; cases h
  .
   rintro rfl; rw [bl_irrefl] at h; cases h
theorem bt_cmp (k v key : ByteArray) (w : World) : Calls Tryz.prog 139 #[.agg #[.string k, .string v], .string key] w fun e w' => e = .returned (.int .i64 (cmpK k key)) /\ Below w.heap.size w w' := by
 have hc := fun W => Tryz.strings_Compare k key W
 go_enter Tryz.func139, Tryz.ntmps139
 go_wp2_with fail
 refine (hc _).mono ?_
 rintro e w' ⟨rfl, rfl⟩
 go_wp2
 go_ret
 exact ⟨rfl, Below.one _ _⟩
def findI (ps : List Kv) (key : ByteArray) : Nat := (ps.takeWhile fun p => kLt p.1 key).length
def findB (ps : List Kv) (key : ByteArray) : Bool := decide ((ps[findI ps key]?).map (·.1) = some key)
theorem findI_le (ps : List Kv) (key : ByteArray) : findI ps key <= ps.length := (List.takeWhile_prefix _).length_le
theorem findI_lt {ps : List Kv} (h : Asc ps) (key : ByteArray) {i : Nat} (hi : i < ps.length) : i < findI ps key ↔ kLt ps[i].1 key = true := by
 unfold findI
 induction ps generalizing i with
 | nil => simp at hi
 | cons x l ih =>
  obtain ⟨h1, h2⟩ := List.pairwise_cons.1 h
  rw [List.takeWhile_cons]
  by_cases hx : kLt x.1 key = true
  .
   rw [if_pos hx]
   cases i with
   | zero => simp [hx]
   | succ i =>
    have := ih h2 (i := i) (by simpa using hi)
    simpa using this
  .
   rw [if_neg hx]
   cases i with
   | zero => simp [hx]
   | succ i =>
    have hi' : i < l.length := by simpa using hi
    have h3 := h1 l[i] (List.getElem_mem hi')
    simp only [List.length_nil, Nat.not_lt_zero, false_iff, List.getElem_cons_succ]
    intro h4
    exact hx (kLt_trans h3 h4)
set_option maxHeartbeats 1600000 in
theorem bt_bsf (base : Nat) (v : Value) (ps : List Kv) (key : ByteArray) (w : World) (h : RowO w base 77 2 v ps.length (kvsC ps)) (ha : Asc ps) (hl : ps.length <= 1000000) :
  Calls Tryz.prog 138 #[v, .string key, .func (.func 139) #[] #[]] w fun e w' => e = .returned (.tuple #[.int .i64 (findI ps key), .bool (findB ps key)]) /\ Below w.heap.size w w' := by
 obtain ⟨o, c, rfl, hs, -⟩ := h.at
 obtain ⟨F, hF⟩ : ∃ F, findI ps key = F := ⟨_, rfl⟩
 have hFn := findI_le ps key
 have hfl : ∀ (i : Nat) (hi : i < ps.length), i < findI ps key ↔ kLt ps[i].1 key = true := fun i hi => findI_lt ha key hi
 obtain ⟨fb, hfb⟩ : ∃ b, findB ps key = b := ⟨_, rfl⟩
 rw [hF] at hFn |-
 rw [hfb]
 have hfb2 : ∀ hi : F < ps.length, (ps[F].1 = key ↔ fb = true) := fun hi => by
  rw [<- hfb]; unfold findB; rw [hF, List.getElem?_eq_getElem hi]; simp
 have hfb3 : ¬ F < ps.length -> fb = false := fun hi => by
  rw [<- hfb]; unfold findB; rw [hF, List.getElem?_eq_none (by omega)]; simp
 rw [hF] at hfl
 have Hfl := zhI hfl
 have Hfb2 := zhI hfb2
 have Hfb3 := zhI hfb3
 have Hrow := zhI h
 obtain ⟨n, hn⟩ : ∃ n, ps.length = n := ⟨_, rfl⟩
 have hcap : n <= c := by rcases hs with ⟨_, h, _⟩ | ⟨_, _, h, _⟩ <;> omega
 rw [hn] at hFn hl |-
 have Hn := zhI hn
 clear hn hfl hfb2 hfb3 hF hfb h hs ha
 have hcmp := fun k v W => bt_cmp k v key W
 have Hcmp := zhI hcmp
 clear hcmp
 go_enter Tryz.func138, Tryz.ntmps138
 go_wp2
 go_loopw [9, 10] (fun i j wr => ∃ a b : Nat, i = .int .i64 a /\ j = .int .i64 b /\ a <= F /\ F <= b /\ b <= n /\ Below w.heap.size w wr) (fun i j _ => (intOf j).toNat - (intOf i).toNat)
 case atStart => exact ⟨0, n, rfl, rfl, Nat.zero_le _, hFn, Nat.le_refl _, Below.refl _ _⟩
 case round =>
  obtain ⟨a, b, rfl, rfl, haF, hFb, hbn, hB⟩ := hrel
  have hz := hB.size
  by_cases hlt : a < b
  .
   have hlk : (a + b) / 2 < ps.length := by rw [Hn.out]; omega
   obtain ⟨g, c', e, c0, c1, -, hg⟩ := pair_row Hrow.out hlk
   obtain ⟨rfl, rfl⟩ : o = some ⟨g, 0, none⟩ /\ c = c' := by simpa using e
   have hgl := (Hrow.out.lt g hg).2
   have d0 : wr.cell? ⟨g, (a + b) / 2 * 2, none⟩ = some (.string ps[(a + b) / 2].1) := by rw [hB.cell hgl]; exact c0
   have d1 : wr.cell? ⟨g, (a + b) / 2 * 2 + 1, none⟩ = some (.string ps[(a + b) / 2].2) := by rw [hB.cell hgl]; exact c1
   have hgr : g < wr.heap.size := by omega
   have Hlt := zhI (Hfl.out _ hlk)
   obtain ⟨⟨ky, vy⟩, hkv⟩ : ∃ p : Kv, ps[(a + b) / 2] = p := ⟨_, rfl⟩
   rw [hkv] at d0 d1 Hlt
   simp only at d0 d1
   have hcl := cmpK_lt ky key
   obtain ⟨r, hr⟩ : ∃ r, cmpK ky key = r := ⟨_, rfl⟩
   have hcall := Hcmp.out ky vy wr
   rw [hr] at hcall hcl
   have Hcall := zhI hcall
   have Hcl := zhI hcl
   have HB := zhI hB
   clear hkv c0 c1 e hg hcall hcl hr hlk hB
   by_cases hr0 : r < 0
   .
    have hmF : (a + b) / 2 < F := Hlt.out.2 (Hcl.out.1 hr0)
    have HmF := zhI hmF
    clear hmF
    go_wp2_with (refine Hcall.out.mono ?_; rintro e w2 ⟨rfl, hb2⟩)
    go_roundw
    case rel => have := HmF.out; exact ⟨(a + b) / 2 + 1, b, by rw [show ((a : Int) + (b : Int)) / 2 + 1 = (((a + b) / 2 + 1 : Nat) : Int) by omega], rfl, by omega, hFb, hbn, Below.then HB.out hb2 hz⟩
    case measure => simp [intOf]; omega
   .
    have hmF : ¬ (a + b) / 2 < F := fun h => hr0 (Hcl.out.2 (Hlt.out.1 h))
    have HmF := zhI hmF
    clear hmF
    go_wp2_with (refine Hcall.out.mono ?_; rintro e w2 ⟨rfl, hb2⟩)
    go_roundw
    case rel => have := HmF.out; exact ⟨a, (a + b) / 2, rfl, by rw [show ((a : Int) + (b : Int)) / 2 = (((a + b) / 2 : Nat) : Int) by omega], haF, by omega, by omega, Below.then HB.out hb2 hz⟩
    case measure => simp [intOf]; omega
  .
   obtain rfl : a = F := by omega
   obtain rfl : b = a := by omega
   by_cases hbn2 : b < n
   .
    have hlk : b < ps.length := by rw [Hn.out]; exact hbn2
    obtain ⟨g, c', e, c0, c1, -, hg⟩ := pair_row Hrow.out hlk
    obtain ⟨rfl, rfl⟩ : o = some ⟨g, 0, none⟩ /\ c = c' := by simpa using e
    have hgl := (Hrow.out.lt g hg).2
    have d0 : wr.cell? ⟨g, b * 2, none⟩ = some (.string ps[b].1) := by rw [hB.cell hgl]; exact c0
    have d1 : wr.cell? ⟨g, b * 2 + 1, none⟩ = some (.string ps[b].2) := by rw [hB.cell hgl]; exact c1
    have hgr : g < wr.heap.size := by omega
    have Hfb := zhI (Hfb2.out hlk)
    obtain ⟨⟨ky, vy⟩, hkv⟩ : ∃ p : Kv, ps[b] = p := ⟨_, rfl⟩
    rw [hkv] at d0 d1 Hfb
    simp only at d0 d1
    have hcl := cmpK_eq ky key
    obtain ⟨r, hr⟩ : ∃ r, cmpK ky key = r := ⟨_, rfl⟩
    have hcall := Hcmp.out ky vy wr
    rw [hr] at hcall hcl
    have Hcall := zhI hcall
    have Hcl := zhI hcl
    have HB := zhI hB
    clear hkv c0 c1 e hg hcall hcl hr hlk hB
    cases hr0 : (r == 0)
    .
     have hf : fb = false := by
      cases fb
      .
       rfl
      .
       exact absurd (Hcl.out.2 (Hfb.out.2 rfl)) (by simpa using hr0)
     subst hf
     go_wp2_with (refine Hcall.out.mono ?_; rintro e w2 ⟨rfl, hb2⟩)
     refine bodyPost_ret (v := .tuple #[.int .i64 b, .bool false]) (by simp [results, Tryz.results138, go_sem]) rfl ?_
     exact ⟨rfl, Below.then HB.out hb2 hz⟩
    .
     have hf : fb = true := Hfb.out.1 (Hcl.out.1 (by simpa using hr0))
     subst hf
     go_wp2_with (refine Hcall.out.mono ?_; rintro e w2 ⟨rfl, hb2⟩)
     refine bodyPost_ret (v := .tuple #[.int .i64 b, .bool true]) (by simp [results, Tryz.results138, go_sem]) rfl ?_
     exact ⟨rfl, Below.then HB.out hb2 hz⟩
   .
    have hf := Hfb3.out (by rw [Hn.out]; exact hbn2)
    subst hf
    go_wp2
    refine bodyPost_ret (v := .tuple #[.int .i64 b, .bool false]) (by simp [results, Tryz.results138, go_sem]) rfl ?_
    exact ⟨rfl, hB⟩
theorem bt_find (base : Nat) (b : Nat) (leaf : Bool) (pv kv : Value) (page : Int) (ps : List Kv) (key : ByteArray) (w : World) (hx : Bx w b (nodeC leaf pv kv page) 129) (h : RowO w base 77 2 pv ps.length (kvsC ps)) (ha : Asc ps) (hl : ps.length <= 1000000) :
  Calls Tryz.prog 101 #[.pointer (some ⟨b, 0, none⟩), .string key] w fun e w' => e = .returned (.tuple #[.int .i64 (findI ps key), .bool (findB ps key)]) /\ Below w.heap.size w w' := by
 have hb := bt_bsf base pv ps key w h ha hl
 obtain ⟨o, c, rfl, -, -⟩ := h.at
 have Hb := zhI hb
 have cX := hx.cell
 have lX := hx.lt
 unfold nodeC at cX
 clear hb h ha
 go_enter Tryz.func101, Tryz.ntmps101
 go_wp2_with fail
 refine Hb.out.mono ?_
 rintro e w2 ⟨rfl, hb2⟩
 go_wp2
 refine bodyPost_ret (v := .tuple #[.int .i64 (findI ps key), .bool (findB ps key)]) (by simp [results, Tryz.results101, go_sem]) rfl ?_
 exact ⟨rfl, hb2⟩
def chP (key : ByteArray) (l : List Nd) : Nat := (l.takeWhile fun k => !kLt key k.least).length
theorem chP_nil (key : ByteArray) : chP key [] = 0 := rfl
theorem chP_le (key : ByteArray) (l : List Nd) : chP key l <= l.length := (List.takeWhile_prefix _).length_le
theorem childP_lt {kids : List Nd} (key : ByteArray) (h : kids ≠ []) : childP kids key < kids.length := by
 have : childP kids key <= kids.tail.length := chP_le key kids.tail
 rw [List.length_tail] at this
 have : 0 < kids.length := List.length_pos_iff.2 h
 omega
theorem chP_drop {key : ByteArray} {l : List Nd} {k : Nat} (h : k < l.length) : chP key (l.drop k) = if kLt key l[k].least = true then 0 else 1 + chP key (l.drop (k + 1)) := by
 unfold chP
 rw [List.drop_eq_getElem_cons h, List.takeWhile_cons]
 cases kLt key l[k].least <;> simp <;> omega
set_option maxHeartbeats 1600000 in
theorem bt_child (base : Nat) (t : AT) (key : ByteArray) (w : World) (h : Lies base w t) (hk0 : t.kids ≠ []) (hf : ∀ c ∈ t.kids, c.nd.first = true) (hl : t.kids.length <= 1000) :
  Calls Tryz.prog 100 #[t.ptr, .string key] w fun e w' => e = .returned (.int .i64 (childP (t.kids.map AT.nd) key)) /\ w' = w := by
 obtain ⟨b, pv, kv, ps, kids, page⟩ := t
 simp only [AT.kids] at hk0 hf hl |-
 have hx := h.hx
 have hk := h.hk
 have hc := h.hc
 simp only [AT.b, AT.pv, AT.kv, AT.kids, AT.page] at hx hk hc
 simp only [AT.ptr, AT.b]
 have hk1 : 0 < kids.length := List.length_pos_iff.2 hk0
 obtain ⟨g, c, rfl, -, hle, hg⟩ := ptr_row (i := 0) hk hk1
 have hgl := (hk.lt g hg).2
 have hpt : ∀ i (hi : i < kids.length), w.cell? ⟨g, i, none⟩ = some (.pointer (some ⟨kids[i].b, 0, none⟩)) := fun i hi => by
  obtain ⟨g', c', e, hcell, -, -⟩ := ptr_row hk hi
  obtain ⟨rfl, rfl⟩ : g = g' /\ c = c' := by simpa using e
  exact hcell
 obtain ⟨K, hK⟩ : ∃ K, kids.map AT.nd = K := ⟨_, rfl⟩
 have hKl : K.length = kids.length := by rw [<- hK, List.length_map]
 obtain ⟨n, hn⟩ : ∃ n, kids.length = n := ⟨_, rfl⟩
 have hcp : childP K key = chP key (K.drop 1) := by unfold childP chP; rw [List.drop_one]
 rw [hK, hcp]
 obtain ⟨R, hR⟩ : ∃ R, chP key (K.drop 1) = R := ⟨_, rfl⟩
 rw [hR]
 rw [hn] at hx hl hle hk1 hKl
 have HR := zhI hR
 have Hn := zhI hn
 have HK := zhI hK
 have HKl := zhI hKl
 have Hpt := zhI hpt
 have cX := hx.cell
 have lX := hx.lt
 unfold nodeC at cX
 clear hR hn hK hKl hpt hcp hx hk h hk0 hg
 go_enter Tryz.func100, Tryz.ntmps100
 go_wp2
 go_loopw [5] (fun i wr => ∃ k : Nat, i = .int .i64 k /\ k < n /\ Hid (R = k + chP key (K.drop (k + 1))) /\ wr = w) (fun i _ => n - (intOf i).toNat)
 case atStart => exact ⟨0, rfl, hk1, zhI (by simpa using HR.out.symm), rfl⟩
 case round =>
  obtain ⟨k, rfl, hkn, Hrk, rfl⟩ := hrel
  by_cases hlt : k + 1 < n
  .
   have hlk : k + 1 < kids.length := by rw [Hn.out]; exact hlt
   have hlK : k + 1 < K.length := by rw [HKl.out]; exact hlt
   have hKk : K[k + 1] = kids[k + 1].nd := by simp only [<- HK.out, List.getElem_map]
   have d0 := Hpt.out (k + 1) hlk
   have hls := bt_least base kids[k + 1] wr (hc _ (List.getElem_mem hlk)) (hf _ (List.getElem_mem hlk))
   have Hd := zhI (chP_drop (key := key) hlK)
   rw [hKk] at Hd
   obtain ⟨lk, hlkk⟩ : ∃ s, kids[k + 1].nd.least = s := ⟨_, rfl⟩
   obtain ⟨cb, hcb⟩ : ∃ x, kids[k + 1].b = x := ⟨_, rfl⟩
   unfold AT.ptr at hls
   rw [hlkk] at hls Hd
   rw [hcb] at hls d0
   have Hls := zhI hls
   have hlt' : (k : Int) + 1 < (n : Int) := by omega
   clear hls hlkk hcb hKk hlk hlK
   cases hlq : kLt key lk with
   | true =>
    have q1 : Go.Op.bytesLess lk.toList key.toList = false := kLt_asymm hlq
    have q2 : ¬ lk.toList = key.toList := fun e => kLt_ne hlq (toList_inj' e.symm)
    have q3 : (lk.toList == key.toList) = false := by rw [beq_eq_false_iff_ne]; exact q2
    have hend : Hid (R = k) := zhI (by rw [Hrk.out, Hd.out, if_pos hlq]; rfl)
    clear Hrk Hd hlq
    go_wp2_with (refine Hls.out.mono ?_; rintro e w2 ⟨rfl, rfl⟩)
    go_ret
    exact ⟨by rw [hend.out]; rfl, rfl⟩
   | false =>
    have hnx : Hid (R = (k + 1) + chP key (K.drop (k + 1 + 1))) := zhI (by rw [Hrk.out, Hd.out, if_neg (by rw [hlq]; decide)]; omega)
    cases hl2 : kLt lk key with
    | true =>
     have q1 : Go.Op.bytesLess lk.toList key.toList = true := hl2
     clear Hrk Hd hlq hl2
     go_wp2_with (refine Hls.out.mono ?_; rintro e w2 ⟨rfl, rfl⟩)
     go_roundw
     case rel => exact ⟨k + 1, by go_num, hlt, hnx, trivial⟩
     case measure => simp [intOf]; omega
    | false =>
     obtain rfl : lk = key := kLt_total hl2 hlq
     have q1 : Go.Op.bytesLess lk.toList lk.toList = false := bl_irrefl _
     clear Hrk Hd hlq hl2
     go_wp2_with (refine Hls.out.mono ?_; rintro e w2 ⟨rfl, rfl⟩)
     go_roundw
     case rel => exact ⟨k + 1, by go_num, hlt, hnx, trivial⟩
     case measure => simp [intOf]; omega
  .
   have hend : Hid (R = k) := zhI (by rw [Hrk.out, List.drop_of_length_le (by rw [HKl.out]; omega), chP_nil]; rfl)
   have hlt' : ¬ (k : Int) + 1 < (n : Int) := by omega
   clear Hrk
   go_wp2
   go_ret
   exact ⟨by rw [hend.out]; rfl, rfl⟩
def Nd.leafAt (key : ByteArray) (n : Nd) : List Kv :=
 match _hk : n.kids[childP n.kids key]? with
 | none => n.ps
 | some c => c.leafAt key
termination_by SizeOf.sizeOf n
decreasing_by exact Nd.kid_lt (List.mem_of_getElem? _hk)
theorem Nd.leafAt_leaf {key : ByteArray} {n : Nd} (h : n.kids = []) : n.leafAt key = n.ps := by
 rw [Nd.leafAt]
 split
 .
  rfl
 .
  rename_i c hc; rw [h] at hc; simp at hc
theorem Nd.leafAt_kid {key : ByteArray} {n : Nd} (h : n.kids ≠ []) : n.leafAt key = (n.kids[childP n.kids key]'(childP_lt key h)).leafAt key := by
 rw [Nd.leafAt]
 split
 .
  rename_i hc; have := childP_lt key h; rw [List.getElem?_eq_none_iff] at hc; omega
 .
  rename_i c hc
  obtain ⟨hi, rfl⟩ := List.getElem?_eq_some_iff.1 hc
  rfl
theorem Nd.leafAt_sub (key : ByteArray) : ∀ {n : Nd}, n.Wf -> (n.leafAt key).Sublist n.prs := by
 intro n
 induction n using Nd.ind with
 | h ps kids page ih =>
  intro hw
  by_cases h : kids = []
  .
   rw [Nd.leafAt_leaf (n := .mk ps kids page) h, Nd.prs_leaf (n := .mk ps kids page) h]
   exact List.Sublist.refl _
  .
   rw [Nd.leafAt_kid (n := .mk ps kids page) h, Nd.prs_inner (n := .mk ps kids page) h]
   have hm := List.getElem_mem (childP_lt key h)
   exact (ih _ hm (hw.kid _ hm)).trans (List.sublist_flatten_of_mem (List.mem_map.2 ⟨_, hm, rfl⟩))
def getL (ps : List Kv) (key : ByteArray) : ByteArray × Bool := if findB ps key then ((ps[findI ps key]?.map (·.2)).getD ByteArray.empty, true) else (ByteArray.empty, false)
def getO (o : Option Nd) (key : ByteArray) : ByteArray × Bool :=
 match o with
 | none => (ByteArray.empty, false)
 | some n => getL (n.leafAt key) key
theorem AT.kid_lt {t c : AT} (h : c ∈ t.kids) : SizeOf.sizeOf c < SizeOf.sizeOf t := by
 cases t with | mk b pv kv ps kids page =>
  have := List.sizeOf_lt_of_mem (show c ∈ kids from h)
  simp
  omega
theorem Shp.kid {n : Nd} (h : Shp n) : ∀ k ∈ n.kids, Shp k := by
 cases h with
 | lf => exact fun k hk => by cases hk
 | inn _ _ _ _ hk => exact hk
theorem Shp.kids_len {n : Nd} (h : Shp n) : n.kids.length <= 8 := by
 cases h with
 | lf => exact Nat.zero_le _
 | inn _ _ _ h8 _ => exact h8
theorem Shp.ps_len {n : Nd} (h : Shp n) : n.ps.length <= 3 := by
 cases h with
 | lf _ _ _ h3 _ => exact h3
 | inn => exact Nat.zero_le _
set_option maxHeartbeats 1600000 in
theorem bt_get_none (key : ByteArray) (w : World) : Calls Tryz.prog 60 #[.pointer none, .string key] w fun e w' => e = .returned (.tuple #[.string ByteArray.empty, .bool false]) /\ w' = w := by
 go_enter Tryz.func60, Tryz.ntmps60
 go_wp2
 refine bodyPost_ret (v := .tuple #[.string ByteArray.empty, .bool false]) (by simp [results, Tryz.results60, go_sem]; rfl) rfl ?_
 exact ⟨rfl, rfl⟩
set_option maxHeartbeats 2000000 in
theorem bt_get_some (base : Nat) (t : AT) (key : ByteArray) (w : World) (h : Lies base w t) (hs : Shp t.nd) (ha : Asc t.nd.prs) :
  Calls Tryz.prog 60 #[t.ptr, .string key] w fun e w' => e = .returned (.tuple #[.string (getO (some t.nd) key).1, .bool (getO (some t.nd) key).2]) /\ Below w.heap.size w w' := by
 obtain ⟨R, hR⟩ : ∃ R, getO (some t.nd) key = R := ⟨_, rfl⟩
 rw [hR]
 have HR := zhI hR
 have HA := zhI ((ha.sub (Nd.leafAt_sub key hs.wf)))
 have HT := zhI (zaI h hs)
 obtain ⟨sz, hsz⟩ : ∃ n, SizeOf.sizeOf t = n := ⟨_, rfl⟩
 have Hsz := zhI hsz
 have hp : t.ptr = .pointer (some ⟨t.b, 0, none⟩) := rfl
 rw [hp]
 obtain ⟨tb, htb⟩ : ∃ x, t.b = x := ⟨_, rfl⟩
 rw [htb]
 have Htb := zhI htb
 clear hR h hs ha hsz hp htb
 go_enter Tryz.func60, Tryz.ntmps60
 go_wp2
 go_loopg [0] sz (fun k p wr => ∃ s : AT, p = .pointer (some ⟨s.b, 0, none⟩) /\ Hid (Lies base wr s /\ Shp s.nd /\ s.nd.leafAt key = t.nd.leafAt key /\ SizeOf.sizeOf s = k) /\ Below w.heap.size w wr)
 case atStart => exact ⟨t, by rw [Htb.out], zhI ⟨HT.out.1, HT.out.2, rfl, Hsz.out⟩, Below.refl _ _⟩
 case round =>
  obtain ⟨s, rfl, H, hB⟩ := hrel
  obtain ⟨hl, hsh, hla, hsk⟩ := H.out
  have hz := hB.size
  obtain ⟨b, pv, kv, ps, kids, page⟩ := s
  have hx := hl.hx
  have hp := hl.hp
  have hk := hl.hk
  have hc := hl.hc
  simp only [AT.b, AT.pv, AT.kv, AT.ps, AT.kids, AT.page] at hx hp hk hc
  simp only [AT.b]
  by_cases hk0 : kids = []
  .
   subst hk0
   have hlf : ps = t.nd.leafAt key := by rw [<- hla, Nd.leafAt_leaf (by rw [AT.nd_kids]; rfl), AT.nd_ps]; rfl
   have hasc : Asc ps := by rw [hlf]; exact HA.out
   have h3 : ps.length <= 3 := by have := hsh.ps_len; rw [AT.nd_ps] at this; exact this
   have hfd := bt_find base b true pv kv page ps key wr hx hp hasc (by omega)
   have hRe : getL ps key = R := by rw [<- HR.out, hlf]; rfl
   obtain ⟨F, hF⟩ : ∃ F, findI ps key = F := ⟨_, rfl⟩
   have HRe : Hid (getL ps key = R) := zhI hRe
   have HF := zhI hF
   rw [hF] at hfd
   have cX := hx.cell
   have lX := hx.lt
   unfold nodeC at cX
   simp only [List.isEmpty_nil] at cX
   cases hfb : findB ps key with
   | false =>
    rw [hfb] at hfd
    have Hfd := zhI hfd
    have HE : Hid (R = (ByteArray.empty, false)) := zhI (by rw [<- hRe]; unfold getL; rw [hfb]; rfl)
    clear hfd hRe hF hfb hl hsh hla hsk hk hc H hp hlf hasc hx
    go_wp2_with fail
    refine Hfd.out.mono ?_
    rintro e w2 ⟨rfl, hb2⟩
    go_wp2
    refine bodyPost_ret (v := .tuple #[.string ByteArray.empty, .bool false]) (by simp [results, Tryz.results60, go_sem]; rfl) rfl ?_
    rw [HE.out]
    exact ⟨rfl, Below.then hB hb2 hz⟩
   | true =>
    rw [hfb] at hfd
    have hFl : F < ps.length := by
     unfold findB at hfb
     rw [hF] at hfb
     have := of_decide_eq_true hfb
     rcases Nat.lt_or_ge F ps.length with h | h
     .
      exact h
     .
      rw [List.getElem?_eq_none (by omega)] at this; cases this
    obtain ⟨g, c, rfl, -, c1, hle, hg⟩ := pair_row hp hFl
    have hgl := (hp.lt g hg).2
    have HE : Hid (R = (ps[F].2, true)) := zhI (by rw [<- hRe]; unfold getL; rw [hfb, if_pos rfl, hF, List.getElem?_eq_getElem hFl]; rfl)
    have Hfd := zhI hfd
    obtain ⟨vl, hvl⟩ : ∃ x, ps[F].2 = x := ⟨_, rfl⟩
    rw [hvl] at c1 HE
    obtain ⟨n, hn⟩ : ∃ n, ps.length = n := ⟨_, rfl⟩
    rw [hn] at cX hFl hle
    have Hx := zhI hx
    clear hfd hRe hF hfb hl hsh hla hsk hk hc H hp hlf hasc hvl hn hg h3 hx
    go_wp2_with fail
    refine Hfd.out.mono ?_
    rintro e w2 ⟨rfl, hb2⟩
    have x2 := Hx.out.belowAll hb2
    have d1 : w2.cell? ⟨g, F * 2 + 1, none⟩ = some (.string vl) := by rw [hb2.cell hgl]; exact c1
    have gl2 : g < w2.heap.size := znL hgl hb2.size
    clear c1 cX lX
    have cX := x2.cell
    have lX := x2.lt
    unfold nodeC at cX
    simp only [List.isEmpty_nil] at cX
    go_wp2
    refine bodyPost_ret (v := .tuple #[.string vl, .bool true]) (by simp [results, Tryz.results60, go_sem]) rfl ?_
    rw [HE.out]
    exact ⟨rfl, Below.then hB hb2 hz⟩
  .
   have hkm : kids.map AT.nd ≠ [] := by simpa using hk0
   have hk1 : 0 < kids.length := List.length_pos_iff.2 hk0
   have hCl := childP_lt key hkm
   obtain ⟨C, hC⟩ : ∃ C, childP (kids.map AT.nd) key = C := ⟨_, rfl⟩
   have hla2 := Nd.leafAt_kid (key := key) (n := (AT.mk b pv kv ps kids page).nd) (by rw [AT.nd_kids]; exact hkm)
   have hkl := hsh.kids_len
   rw [AT.nd_kids] at hkl
   have hkl2 : kids.length <= 8 := by rw [List.length_map] at hkl; exact hkl
   have hfst : ∀ c ∈ kids, c.nd.first = true := fun c hc' => (hsh.kid _ (by rw [AT.nd_kids]; exact List.mem_map.2 ⟨c, hc', rfl⟩)).first
   have hch : ∀ W, Below wr.heap.size wr W -> Calls Tryz.prog 100 #[.pointer (some ⟨b, 0, none⟩), .string key] W fun e w' => e = .returned (.int .i64 C) /\ Below W.heap.size W w' := fun W hb => by
    have := bt_child base (.mk b pv kv ps kids page) key W (hl.staysAll hb) hk0 hfst (by show kids.length <= 1000; omega)
    refine this.mono ?_
    rintro e w' ⟨rfl, rfl⟩
    exact ⟨by rw [<- hC]; rfl, Below.refl _ _⟩
   have hClk : C < kids.length := by rw [hC, List.length_map] at hCl; exact hCl
   obtain ⟨g, c, rfl, c0, hle, hg⟩ := ptr_row hk hClk
   have hgl := (hk.lt g hg).2
   have hrel : Hid (Lies base wr kids[C] /\ Shp kids[C].nd /\ kids[C].nd.leafAt key = t.nd.leafAt key /\ SizeOf.sizeOf kids[C] < gk) := zhI ⟨hc _ (List.getElem_mem hClk), hsh.kid _ (by rw [AT.nd_kids]; exact List.mem_map.2 ⟨_, List.getElem_mem hClk, rfl⟩), by
    rw [<- hla, hla2]
    congr 1
    simp only [AT.nd_kids, AT.kids, hC, List.getElem_map], by rw [<- hsk]; exact AT.kid_lt (List.getElem_mem hClk)⟩
   have hem : kids.isEmpty = false := by cases kids <;> simp_all
   have Hch := zhI hch
   obtain ⟨kc, hkc⟩ : ∃ x, kids[C] = x := ⟨_, rfl⟩
   rw [hkc] at hrel c0
   unfold AT.ptr at c0
   obtain ⟨n, hn⟩ : ∃ n, kids.length = n := ⟨_, rfl⟩
   have cX := hx.cell
   have lX := hx.lt
   unfold nodeC at cX
   rw [hem, hn] at cX
   rw [hn] at hClk hle
   have HBw : Hid (∀ x : Lat wr, Below wr.heap.size wr x.w) := zhI (fun x => x.h)
   have cQ := Lat.cells wr
   have HB := zhI hB
   clear hl hsh hla hsk hx hp hk hc H hk0 hkm hk1 hCl hC hla2 hkl hkl2 hfst hch hg hem hkc hn hB
   go_upto_region 4 with fail
   refine wp_region_lat (by kernel_rfl) (by kernel_rfl) ?_
   repeat (any_goals (first | go_big_quiet_skip | (go_big_quiet_want; go_big_quiet_op; first | go_big_quiet_on | go_big_quiet_call (((go_at_call 100; with_reducible exact Calls.lat (Hch.out _ (HBw.out _)))))) | quiet_step (((go_at_call 100; with_reducible exact Calls.lat (Hch.out _ (HBw.out _)))))))
   refine wpQuiet_nil ?_
   rintro W2 ⟨⟨_, hb2⟩, rfl⟩
   clear cQ cX lX c0
   go_wp2
   go_roundg (SizeOf.sizeOf kc)
   case rel => exact ⟨kc, rfl, zhI ⟨hrel.out.1.staysAll hb2, hrel.out.2.1, hrel.out.2.2.1, rfl⟩, Below.then HB.out hb2 hz⟩
   case measure => exact hrel.out.2.2.2
theorem bt_get (base : Nat) (o : Option AT) (key : ByteArray) (w : World) (h : LiesO base w o) (hs : ∀ t, o = some t -> Shp t.nd /\ Asc t.nd.prs) :
  Calls Tryz.prog 60 #[rootV o, .string key] w fun e w' => e = .returned (.tuple #[.string (getO (ndO o) key).1, .bool (getO (ndO o) key).2]) /\ Below w.heap.size w w' := by
 cases o with
 | none =>
  refine (bt_get_none key w).mono ?_
  rintro e w' ⟨rfl, rfl⟩
  exact ⟨rfl, Below.refl _ _⟩
 | some t => exact bt_get_some base t key w (h t rfl).1 (hs t rfl).1 (hs t rfl).2
theorem treeP_ok {d : Dsk} {frm til : Int} {r : Nat} {t : Option Nd} {u : List Int} (hc : chk d = 0) (hf : fits5 d frm til = true) (h : treeP d frm til r = some (t, u)) :
  UsedOk frm til u /\ ∀ n, t = some n -> Shp n /\ Asc n.prs /\ n.prs.length <= 6000 := by
 obtain ⟨f1, f2, f3, f4, f5⟩ := fits5_true hf
 have hr := rangedB_true (chk_zero hc).1
 unfold treeP at h
 split at h
 .
  simp only [Option.some.injEq, Prod.mk.injEq] at h
  obtain ⟨rfl, rfl⟩ := h
  exact ⟨⟨List.nodup_nil, fun _ h => by cases h⟩, fun n h => by cases h⟩
 .
  split at h
  .
   cases h
  .
   rename_i n k u' hl
   split at h
   .
    rename_i ha
    simp only [Option.some.injEq, Prod.mk.injEq] at h
    obtain ⟨rfl, rfl⟩ := h
    have hu := (loadP_used _ hl ⟨List.nodup_nil, fun _ h => by cases h⟩).1
    refine ⟨hu, fun m hm => ?_⟩
    cases hm
    refine ⟨loadP_shp _ hl, (asc_iff _).1 ha, ?_⟩
    have h1 := loadP_prs _ hl
    have h2 := hu.len (by omega)
    simp at h1
    omega
   .
    cases h
theorem fitX_zero {d : Dsk} {frm til : Int} (h : fitX d frm til = 0) : chk d = 0 /\ fits5 d frm til = true := by
 unfold fitX at h
 split at h
 .
  cases h
 .
  split at h
  .
   cases h
  .
   rename_i h1 h2
   exact ⟨by simpa using h1, by simpa using h2⟩
theorem validP_ok {x : Ix} {t : Option Nd} (h : validP x = some t) : ∀ n, t = some n -> Shp n /\ Asc n.prs /\ n.prs.length <= 6000 := by
 unfold validP at h
 split at h
 .
  cases h
 .
  rename_i hf
  obtain ⟨hc, hf5⟩ := fitX_zero (by simpa using hf)
  split at h
  .
   cases h
  .
   rename_i y t' hr
   split at h
   .
    cases h
    unfold readP at hr
    split at hr
    .
     cases hr
    .
     split at hr
     .
      cases hr
     .
      rename_i t'' u ht
      cases hr
      exact (treeP_ok hc hf5 ht).2
   .
    cases h
def getPP (x : Ix) (key : ByteArray) : ByteArray × Int :=
 match validP x with
 | none => (ByteArray.empty, 1)
 | some t => if (getO t key).2 then ((getO t key).1, 0) else (ByteArray.empty, 7)
set_option maxHeartbeats 1600000 in
theorem bt_Get (x : Ix) (v : Value) (key : ByteArray) (w : World) (hx : IxV w v x) :
  Calls Tryz.prog 20 #[v, .string key] w fun e w' => e = .returned (.tuple #[.string (getPP x key).1, .int .i64 (getPP x key).2]) /\ Below w.heap.size w w' := by
 have hx0 := hx
 obtain ⟨po, pc, co, cc, fo, fc, rfl, -, -, -⟩ := hx
 have hB0 := Below.one w (.cells (ixC x.disk po co pc cc x.frm x.til x.ver x.root fo x.free.length fc) 33)
 have htr := bt_tree x _ _ (hx0.below hB0)
 have Htr := zhI htr
 obtain ⟨R, hR⟩ : ∃ R, getPP x key = R := ⟨_, rfl⟩
 rw [hR]
 have HR := zhI hR
 clear htr hx0 hR
 go_enter Tryz.func20, Tryz.ntmps20
 go_wp2_with fail
 refine Htr.out.mono ?_
 rintro e w1 ⟨hb1, hres⟩
 have hB1 := btr hB0 hb1
 cases hv : validP x with
 | none =>
  rw [hv] at hres
  obtain ⟨u, rfl⟩ := hres
  have HE : Hid (R = (ByteArray.empty, 1)) := zhI (by rw [<- HR.out]; unfold getPP; rw [hv])
  clear hv
  go_wp2
  refine bodyPost_ret (v := .tuple #[.string ByteArray.empty, .int .i64 1]) (by simp [results, Tryz.results20, go_sem]; rfl) rfl ?_
  rw [HE.out]
  exact ⟨rfl, hB1⟩
 | some t =>
  rw [hv] at hres
  obtain ⟨a, rfl, hLO, hnd⟩ := hres
  have hok := validP_ok hv
  have hg := bt_get _ a key w1 hLO (fun t' ht' => by
   have := hok t'.nd (by rw [<- hnd, ht']; rfl)
   exact ⟨this.1, this.2.1⟩)
  rw [hnd] at hg
  obtain ⟨gv, gb, hgg⟩ : ∃ gv gb, getO t key = (gv, gb) := ⟨_, _, rfl⟩
  rw [hgg] at hg
  obtain ⟨p, hp⟩ : ∃ p, rootV a = .pointer p := by cases a with
   | none => exact ⟨none, rfl⟩
   | some t => exact ⟨_, rfl⟩
  rw [hp] at hg |-
  have Hg := zhI hg
  have HRg : Hid (R = if gb then (gv, 0) else (ByteArray.empty, 7)) := zhI (by rw [<- HR.out]; unfold getPP; rw [hv]; simp only [hgg])
  clear hv hg hgg hok hLO hnd hp
  cases gb with
  | false =>
   have HE : Hid (R = (ByteArray.empty, 7)) := zhI (by rw [HRg.out]; rfl)
   go_wp2_with fail
   refine Hg.out.mono ?_
   rintro e w2 ⟨rfl, hb2⟩
   go_wp2
   refine bodyPost_ret (v := .tuple #[.string ByteArray.empty, .int .i64 7]) (by simp [results, Tryz.results20, go_sem]; rfl) rfl ?_
   rw [HE.out]
   exact ⟨rfl, btr hB1 hb2⟩
  | true =>
   have HE : Hid (R = (gv, 0)) := zhI (by rw [HRg.out]; rfl)
   go_wp2_with fail
   refine Hg.out.mono ?_
   rintro e w2 ⟨rfl, hb2⟩
   go_wp2
   refine bodyPost_ret (v := .tuple #[.string gv, .int .i64 0]) (by simp [results, Tryz.results20, go_sem]) rfl ?_
   rw [HE.out]
   exact ⟨rfl, btr hB1 hb2⟩
end Go.Proofs.YtlefmmhlpgmbjaaGreat
