/- btree.Commit. -/
import Derived.Test.YtlefmmhlpgmbjaaGreatS24
import Derived.Test.YtlefmmhlpgmbjaaGreatS01
namespace Go.Proofs.YtlefmmhlpgmbjaaGreat
set_option maxRecDepth 100000
open Go.RowKit
theorem zlv {w : World} {v : Value} {d : Dsk} (_ : DskV w v d) (q : PW) : ∃ D e, perfP d (wrOps [q]) = (D, e) := ⟨_, _, rfl⟩
set_option maxRecDepth 100000 in
set_option maxHeartbeats 8000000 in
theorem zg2 (x : Ix) (v : Value) (l : List Chg) (lo : Option Addr) (lc : Nat) (w : World) (hx : IxT w v x) (hls : SlW lo l.length lc) (hl : l.length <= 1000) (hlr : zdn w lo l) (hdc : x.disk.cache.length <= 900000) :
  Calls Tryz.prog 36 #[v, .slice lo l.length lc] w (RetXV w (zan x l)) := by
 have hxT := hx;have hx0 := hx.v;obtain ⟨po, pc, co, cc, fo, fc, rfl, hDv, hfs, hfiT⟩ := hx;have hfi := hfiT.at;obtain ⟨R, hR⟩ : ∃ R, RetXV w (zan x l) = R := ⟨_, rfl⟩;rw [hR];have HR := zhI hR;obtain ⟨N, hN⟩ : ∃ N, w.heap.size = N := ⟨_, rfl⟩;obtain ⟨W0, hW0⟩ : ∃ W0, (w.alloc (.cells (ixC x.disk po co pc cc x.frm x.til x.ver x.root fo x.free.length fc) 33)).alloc (.cells ixZ 33) = W0 := ⟨_, rfl⟩;have hB0 : Below w.heap.size w W0 := by subst hW0; exact (Below.one w _).alloc (by simp) _
 have xN : Bx W0 N (ixC x.disk po co pc cc x.frm x.til x.ver x.root fo x.free.length fc) 33 := by subst hW0 hN; exact (Bx.new w _ _).alloc _
 have xR : Bx W0 (N + 1) ixZ 33 := by subst hW0 hN; exact Bx.newAt _ _ _ _ (by simp)
 have htr := zfN x _ _ (hx0.below hB0);have Htr := zhI htr;have cX := xN.cell;have lX := xN.lt;unfold ixC at cX hW0;have HX := zhI (zaI hxT (zaI hDv (zaI hfs (zaI hfi hfiT))));have HL := zhI (zaI hls (zaI hlr hdc));have H0 := zhI (zaI xN (zaI xR (zaI hB0 hN)));obtain ⟨n, hn⟩ : ∃ n, l.length = n := ⟨_, rfl⟩;have Hn := zhI hn;have hcap : n <= lc := by rcases hls with ⟨_, h, _⟩ | ⟨_, _, h, _⟩ <;> omega
 rw [hn] at hl |-;clear hxT hfiT hx0 hDv hfs hfi hls hlr hdc htr hR xN xR hB0 hn;go_enter Tryz.func36, Tryz.ntmps36;go_wp2_with fail;refine Htr.out.mono ?_;rintro e w1 ⟨hb1, hres⟩;clear hW0 cX lX Htr;have xN := H0.out.1.belowAll hb1;have xR := H0.out.2.1.belowAll hb1;have hB1 := btr H0.out.2.2.1 hb1;cases hv : zat x with
 | none =>
  rw [hv] at hres;obtain ⟨u, rfl⟩ := hres;have HE : Hid (zan x l = (zeroX, 1)) := zhI (zhL hv);clear hv xN;obtain ⟨Wf, hWf⟩ : ∃ Wf, st9 w1 (N + 1) (.int .i64 0) (.slice none 0 0) (.slice none 0 0) (.int .i64 0) (.int .i64 0) (.int .i64 0) (.int .i64 0) (.int .i64 0) (.slice none 0 0) = Wf := ⟨_, rfl⟩;have hNw := H0.out.2.2.2;have zR : Bx Wf (N + 1) ixZ 33 := by subst hWf; exact xR.set9
  have zB : Below w.heap.size w Wf := by subst hWf; exact zad hB1 (by omega)
  have HWf := zhI hWf;have ZB := zhI zB;clear zB hWf hNw;have cX := xR.cell;have lX := xR.lt;have fX := xR.free;go_wp2;have HW := HWf.out;unfold st9 st8 at HW;rw [HW];have cZ := zR.cell;refine bodyPost_ret (v := .tuple #[.agg ixZ, .int .i64 1]) (by simp [results, Tryz.results36, go_sem, cZ]) rfl ?_;rw [<- HR.out, HE.out];exact ⟨_, rfl, IxT.zero _, ZB.out⟩
 | some t =>
  rw [hv] at hres;obtain ⟨a, rfl, hLO, hnd⟩ := hres;have hok := zg9 (zb3 x ▸ hv);have hok2 := zg8 hv;have hchk := zem l lo lc w1 HL.out.1 (by rw [Hn.out]; omega) (HL.out.2.1.below hB1);rw [Hn.out] at hchk;obtain ⟨E, hE⟩ : ∃ E, chgsE none l = E := ⟨_, rfl⟩;rw [hE] at hchk;have Hchk := zhI hchk;obtain ⟨p0, hp0⟩ : ∃ p, rootV a = .pointer p := by cases a with
   | none => exact ⟨none, rfl⟩
   | some t => exact ⟨_, rfl⟩
  rw [hp0];have HT := zhI (zaI hLO (zaI hnd (zaI hok (zaI hok2 hp0))));have Hv := zhI hv;have HEq := zhI hE;clear hLO hnd hok hok2 hp0 hv hchk hE;cases hE0 : (E != 0);rotate_left
  .
   have hne : E ≠ 0 := by simpa using hE0
   have HE : Hid (zan x l = (zeroX, E)) := zhI (by rw [zel Hv.out (by rw [HEq.out]; exact hne), HEq.out]);clear xN;go_wp2_with fail;refine Hchk.out.mono ?_;rintro e w2 ⟨rfl, hb2⟩;have xR := xR.belowAll hb2;have hB1 := btr hB1 hb2;obtain ⟨Wf, hWf⟩ : ∃ Wf, st9 w2 (N + 1) (.int .i64 0) (.slice none 0 0) (.slice none 0 0) (.int .i64 0) (.int .i64 0) (.int .i64 0) (.int .i64 0) (.int .i64 0) (.slice none 0 0) = Wf := ⟨_, rfl⟩;have hNw := H0.out.2.2.2;have zR : Bx Wf (N + 1) ixZ 33 := by subst hWf; exact xR.set9
   have zB : Below w.heap.size w Wf := by subst hWf; exact zad hB1 (by omega)
   have HWf := zhI hWf;have ZB := zhI zB;clear zB hWf hNw;have cX := xR.cell;have lX := xR.lt;have fX := xR.free;go_wp2;have HW := HWf.out;unfold st9 st8 at HW;rw [HW];have cZ := zR.cell;refine bodyPost_ret (v := .tuple #[.agg ixZ, .int .i64 E]) (by simp [results, Tryz.results36, go_sem, cZ]) rfl ?_;rw [<- HR.out, HE.out];exact ⟨_, rfl, IxT.zero _, ZB.out⟩
  obtain rfl : E = 0 := by simpa using hE0
  clear hE0;go_wp2_with fail;refine Hchk.out.mono ?_;rintro e w2 ⟨rfl, hb2⟩;have hb12 : Below w1.heap.size w1 w2 := hb2;have xN := xN.belowAll hb2;have xR := xR.belowAll hb2;have hB2 := btr hB1 hb2;have H2 := zhI (zaI xN (zaI xR (zaI hB2 hb12)));clear hb2 hb12 xN xR hB1 hB2 Hchk;go_wp2
  go_loopw [35] (fun i wr => ∃ k : Nat, k <= n /\ i = .int .i64 k /\ Below w2.heap.size w2 wr /\ Hid (∀ c ∈ l.take k, zaW t c = false)) (fun i _ => n - (intOf i).toNat)
  case atStart => exact ⟨0, by omega, rfl, Below.refl _ _, zhI (by simp)⟩
  case round =>
   obtain ⟨k, hk, rfl, hBr, HK⟩ := hrel;have hzr := hBr.size
   by_cases hlt : k < n
   .
    have hlk : k < l.length := by rw [Hn.out]; exact hlt
    have hB3 := btr H2.out.2.2.1 hBr;obtain ⟨g, off, rfl, hg, c0, c1, c2, c3, c4⟩ := (HL.out.2.1.below hB3).cell hlk;obtain ⟨c, hc⟩ : ∃ c, l[k] = c := ⟨_, rfl⟩;rw [hc] at c0 c1 c2 c3 c4;have htk : l.take (k + 1) = l.take k ++ [c] := by rw [List.take_succ_eq_append_getElem hlk, hc]
    have hcm : c ∈ l := by rw [<- hc]; exact List.getElem_mem hlk
    obtain ⟨key, hasO, old, hasN, new⟩ := c;simp only at c0 c1 c2 c3 c4;obtain ⟨gv, gb, hgg⟩ : ∃ gv gb, getO t key = (gv, gb) := ⟨_, _, rfl⟩;have hget : ∀ W, Below wr.heap.size wr W -> Calls Tryz.prog 60 #[.pointer p0, .string key] W fun e w' => e = .returned (.tuple #[.string gv, .bool gb]) /\ Below W.heap.size W w' := fun W hW => by
     obtain ⟨hLO, hnd, hok, hok2, hp0⟩ := HT.out;have hb := btr (btr H2.out.2.2.2 hBr) hW;have := zms _ a key W (fun t' ht' => ⟨(hLO t' ht').1.staysAll hb, (hLO t' ht').2⟩) (fun t' ht' => by have := hok2 t'.nd (by rw [<- hnd, ht']; rfl);exact ⟨this.1, this.2.1⟩)
     rw [hnd, hgg, hp0] at this;exact this
    have Hget := zhI hget;have Htk := zhI (zaI htk hcm);have hcl : zaW t ⟨key, hasO, old, hasN, new⟩ = ((gb != hasO) || decide (gv ≠ old)) := by unfold zaW; simp only [hgg]
    have Hcl := zhI hcl;have HB3 := zhI hB3;clear hget htk hcm hcl hc hgg hB3 hlk;have hb3 := Below.one wr (.cells #[.string key, .bool hasO, .bool hasN, .string old, .string new] 71);have xc := Bx.new wr #[.string key, .bool hasO, .bool hasN, .string old, .string new] 71;have hG := (Hget.out _ hb3);have d0 := c0;have gl : g < wr.heap.size := znL hg (znT (Nat.le_refl _) (Nat.le_refl _));have HG := zhI hG;have Hxc := zhI (zaI xc hb3);have HBr := zhI hBr;clear hG hb3 xc Hget hBr;cases gb with
    | true =>
     cases hasO with
     | true =>
      by_cases ho : gv = old
      .
       subst ho;have Hcl' : Hid (zaW t ⟨key, true, gv, hasN, new⟩ = false) := zhI (by rw [Hcl.out]; simp);go_wp2_with fail;refine HG.out.mono ?_;rintro e W4 ⟨rfl, hb4⟩;have xc4 := Hxc.out.1.belowAll hb4;have hb34 := btr Hxc.out.2 hb4;have cC := xc4.cell;have lC := xc4.lt;have HBn := zhI (btr HBr.out hb34);clear hb4 hb34 xc4;go_wp2;go_roundw
       case rel => exact ⟨k + 1, by omega, by go_num, HBn.out, zhI (by
        rw [Htk.out.1];intro c hc;rcases zmA.1 hc with h | h
        . exact HK.out c h
        . rw [zmS.1 h]; exact Hcl'.out)⟩
       case measure => simp [intOf]; omega
      .
       have Hcl' : Hid (zaW t ⟨key, true, old, hasN, new⟩ = true) := zhI (by rw [Hcl.out]; simp [ho]);have ho2 : ¬ gv.toList = old.toList := fun e => ho (zaw e);have ho3 : (gv.toList == old.toList) = false := by rw [beq_eq_false_iff_ne]; exact ho2
       clear ho;go_wp2_with fail;refine HG.out.mono ?_;rintro e W4 ⟨rfl, hb4⟩;have xc4 := Hxc.out.1.belowAll hb4;have hb34 := btr Hxc.out.2 hb4;have cC := xc4.cell;have lC := xc4.lt;have HE : Hid (zan x l = (zeroX, 15)) := zhI (zbd Hv.out HEq.out (List.any_eq_true.2 ⟨_, Htk.out.2, Hcl'.out⟩));have xR := (H2.out.2.1.belowAll HBr.out).belowAll hb34;have hB1 := btr HB3.out hb34;clear hb4 hb34 xc4;obtain ⟨Wf, hWf⟩ : ∃ Wf, st9 W4 (N + 1) (.int .i64 0) (.slice none 0 0) (.slice none 0 0) (.int .i64 0) (.int .i64 0) (.int .i64 0) (.int .i64 0) (.int .i64 0) (.slice none 0 0) = Wf := ⟨_, rfl⟩;have hNw := H0.out.2.2.2;have zR : Bx Wf (N + 1) ixZ 33 := by subst hWf; exact xR.set9
       have zB : Below w.heap.size w Wf := by subst hWf; exact zad hB1 (by omega)
       have HWf := zhI hWf;have ZB := zhI zB;clear zB hWf hNw;have cX := xR.cell;have lX := xR.lt;have fX := xR.free;go_wp2;have HW := HWf.out;unfold st9 st8 at HW;rw [HW];have cZ := zR.cell;refine bodyPost_ret (v := .tuple #[.agg ixZ, .int .i64 15]) (by simp [results, Tryz.results36, go_sem, cZ]) rfl ?_;rw [<- HR.out, HE.out];exact ⟨_, rfl, IxT.zero _, ZB.out⟩
     | false =>
      have Hcl' : Hid (zaW t ⟨key, false, old, hasN, new⟩ = true) := zhI (by rw [Hcl.out]; rfl);go_wp2_with fail;refine HG.out.mono ?_;rintro e W4 ⟨rfl, hb4⟩;have xc4 := Hxc.out.1.belowAll hb4;have hb34 := btr Hxc.out.2 hb4;have cC := xc4.cell;have lC := xc4.lt;have HE : Hid (zan x l = (zeroX, 15)) := zhI (zbd Hv.out HEq.out (List.any_eq_true.2 ⟨_, Htk.out.2, Hcl'.out⟩));have xR := (H2.out.2.1.belowAll HBr.out).belowAll hb34;have hB1 := btr HB3.out hb34;clear hb4 hb34 xc4;obtain ⟨Wf, hWf⟩ : ∃ Wf, st9 W4 (N + 1) (.int .i64 0) (.slice none 0 0) (.slice none 0 0) (.int .i64 0) (.int .i64 0) (.int .i64 0) (.int .i64 0) (.int .i64 0) (.slice none 0 0) = Wf := ⟨_, rfl⟩;have hNw := H0.out.2.2.2;have zR : Bx Wf (N + 1) ixZ 33 := by subst hWf; exact xR.set9
      have zB : Below w.heap.size w Wf := by subst hWf; exact zad hB1 (by omega)
      have HWf := zhI hWf;have ZB := zhI zB;clear zB hWf hNw;have cX := xR.cell;have lX := xR.lt;have fX := xR.free;go_wp2;have HW := HWf.out;unfold st9 st8 at HW;rw [HW];have cZ := zR.cell;refine bodyPost_ret (v := .tuple #[.agg ixZ, .int .i64 15]) (by simp [results, Tryz.results36, go_sem, cZ]) rfl ?_;rw [<- HR.out, HE.out];exact ⟨_, rfl, IxT.zero _, ZB.out⟩
    | false =>
     cases hasO with
     | true =>
      have Hcl' : Hid (zaW t ⟨key, true, old, hasN, new⟩ = true) := zhI (by rw [Hcl.out]; rfl);go_wp2_with fail;refine HG.out.mono ?_;rintro e W4 ⟨rfl, hb4⟩;have xc4 := Hxc.out.1.belowAll hb4;have hb34 := btr Hxc.out.2 hb4;have cC := xc4.cell;have lC := xc4.lt;have HE : Hid (zan x l = (zeroX, 15)) := zhI (zbd Hv.out HEq.out (List.any_eq_true.2 ⟨_, Htk.out.2, Hcl'.out⟩));have xR := (H2.out.2.1.belowAll HBr.out).belowAll hb34;have hB1 := btr HB3.out hb34;clear hb4 hb34 xc4;obtain ⟨Wf, hWf⟩ : ∃ Wf, st9 W4 (N + 1) (.int .i64 0) (.slice none 0 0) (.slice none 0 0) (.int .i64 0) (.int .i64 0) (.int .i64 0) (.int .i64 0) (.int .i64 0) (.slice none 0 0) = Wf := ⟨_, rfl⟩;have hNw := H0.out.2.2.2;have zR : Bx Wf (N + 1) ixZ 33 := by subst hWf; exact xR.set9
      have zB : Below w.heap.size w Wf := by subst hWf; exact zad hB1 (by omega)
      have HWf := zhI hWf;have ZB := zhI zB;clear zB hWf hNw;have cX := xR.cell;have lX := xR.lt;have fX := xR.free;go_wp2;have HW := HWf.out;unfold st9 st8 at HW;rw [HW];have cZ := zR.cell;refine bodyPost_ret (v := .tuple #[.agg ixZ, .int .i64 15]) (by simp [results, Tryz.results36, go_sem, cZ]) rfl ?_;rw [<- HR.out, HE.out];exact ⟨_, rfl, IxT.zero _, ZB.out⟩
     | false =>
      by_cases ho : gv = old
      .
       subst ho;have Hcl' : Hid (zaW t ⟨key, false, gv, hasN, new⟩ = false) := zhI (by rw [Hcl.out]; simp);go_wp2_with fail;refine HG.out.mono ?_;rintro e W4 ⟨rfl, hb4⟩;have xc4 := Hxc.out.1.belowAll hb4;have hb34 := btr Hxc.out.2 hb4;have cC := xc4.cell;have lC := xc4.lt;have HBn := zhI (btr HBr.out hb34);clear hb4 hb34 xc4;go_wp2;go_roundw
       case rel => exact ⟨k + 1, by omega, by go_num, HBn.out, zhI (by
        rw [Htk.out.1];intro c hc;rcases zmA.1 hc with h | h
        . exact HK.out c h
        . rw [zmS.1 h]; exact Hcl'.out)⟩
       case measure => simp [intOf]; omega
      .
       have Hcl' : Hid (zaW t ⟨key, false, old, hasN, new⟩ = true) := zhI (by rw [Hcl.out]; simp [ho]);have ho2 : ¬ gv.toList = old.toList := fun e => ho (zaw e);have ho3 : (gv.toList == old.toList) = false := by rw [beq_eq_false_iff_ne]; exact ho2
       clear ho;go_wp2_with fail;refine HG.out.mono ?_;rintro e W4 ⟨rfl, hb4⟩;have xc4 := Hxc.out.1.belowAll hb4;have hb34 := btr Hxc.out.2 hb4;have cC := xc4.cell;have lC := xc4.lt;have HE : Hid (zan x l = (zeroX, 15)) := zhI (zbd Hv.out HEq.out (List.any_eq_true.2 ⟨_, Htk.out.2, Hcl'.out⟩));have xR := (H2.out.2.1.belowAll HBr.out).belowAll hb34;have hB1 := btr HB3.out hb34;clear hb4 hb34 xc4;obtain ⟨Wf, hWf⟩ : ∃ Wf, st9 W4 (N + 1) (.int .i64 0) (.slice none 0 0) (.slice none 0 0) (.int .i64 0) (.int .i64 0) (.int .i64 0) (.int .i64 0) (.int .i64 0) (.slice none 0 0) = Wf := ⟨_, rfl⟩;have hNw := H0.out.2.2.2;have zR : Bx Wf (N + 1) ixZ 33 := by subst hWf; exact xR.set9
       have zB : Below w.heap.size w Wf := by subst hWf; exact zad hB1 (by omega)
       have HWf := zhI hWf;have ZB := zhI zB;clear zB hWf hNw;have cX := xR.cell;have lX := xR.lt;have fX := xR.free;go_wp2;have HW := HWf.out;unfold st9 st8 at HW;rw [HW];have cZ := zR.cell;refine bodyPost_ret (v := .tuple #[.agg ixZ, .int .i64 15]) (by simp [results, Tryz.results36, go_sem, cZ]) rfl ?_;rw [<- HR.out, HE.out];exact ⟨_, rfl, IxT.zero _, ZB.out⟩
   .
    obtain rfl : k = n := by omega
    have hall : ∀ c ∈ l, zaW t c = false := by have := HK.out;rw [List.take_of_length_le (by rw [Hn.out]; exact Nat.le_refl _)] at this;exact this
    have hany : l.any (zaW t) = false := by rw [List.any_eq_false]; intro c hc; rw [hall c hc]; decide
    have Hany := zhI hany;clear hall hany HK;have xN3 := H2.out.1.belowAll hBr;have xR3 := H2.out.2.1.belowAll hBr;have hB3 := btr H2.out.2.2.1 hBr;have hB13 := btr H2.out.2.2.2 hBr
    by_cases hk0 : k = 0
    .
     subst hk0;have hl0 : l = [] := List.eq_nil_of_length_eq_zero Hn.out;have HE : Hid (zan x l = (x, 0)) := zhI (by rw [hl0]; exact zeO Hv.out);obtain ⟨Wf, hWf⟩ : ∃ Wf, st9 wr (N + 1) (.int .i64 x.disk.size) (.slice po x.disk.pages.length pc) (.slice co x.disk.cache.length cc) (.int .i64 x.disk.left) (.int .i64 x.frm) (.int .i64 x.til) (.int .i64 x.ver) (.int .i64 x.root) (.slice fo x.free.length fc) = Wf := ⟨_, rfl⟩;have hNw := H0.out.2.2.2;have zR : Bx Wf (N + 1) (ixC x.disk po co pc cc x.frm x.til x.ver x.root fo x.free.length fc) 33 := by subst hWf; exact xR3.set9
     have zB : Below w.heap.size w Wf := by subst hWf; exact zad hB3 (by omega)
     have HWf := zhI hWf;have ZB := zhI zB;have cX := xN3.cell;have lX := xN3.lt;unfold ixC at cX;have cR := xR3.cell;have lR := xR3.lt;have fR := xR3.free;clear zB hWf hNw xN3 xR3 hB3 hB13 hl0;go_wp2;have HW := HWf.out;unfold st9 st8 at HW;rw [HW];have cZ := zR.cell;unfold ixC at cZ;refine bodyPost_ret (v := .tuple #[.agg (ixC x.disk po co pc cc x.frm x.til x.ver x.root fo x.free.length fc), .int .i64 0]) (by simp [results, Tryz.results36, go_sem, cZ, ixC]) rfl ?_;rw [<- HR.out, HE.out];exact ⟨_, rfl, HX.out.1.below ZB.out, ZB.out⟩
    .
     have hk1 : ((k : Int) == 0) = false := by simp; omega
     have cX := xN3.cell;have lX := xN3.lt;unfold ixC at cX;have hne : l ≠ [] := fun e => by rw [e] at Hn; exact hk0 Hn.out.symm
     have H3 := zhI (zaI xN3 (zaI xR3 (zaI hB3 (zaI hB13 hne))));clear xN3 xR3 hB3 hB13 hne;have hmm := @run_makeMap Tryz.prog;go_upto_region 17 with fail
     obtain ⟨Z, hZ⟩ : ∃ Z, wr.heap.size = Z := ⟨_, rfl⟩;rw [hZ];obtain ⟨W5, hW5⟩ : ∃ W5, ((wr.alloc (.map #[] 0)).alloc (.map #[] 0)).alloc (.cells #[.map (some Z), .slice fo x.free.length fc, .slice none 0 0, .map (some (Z + 1))] 121) = W5 := ⟨_, rfl⟩;rw [hW5];obtain ⟨B1, hB1e⟩ : ∃ B, W0.heap.size = B := ⟨_, rfl⟩;have hz0 := hb1.size;obtain ⟨xN3, xR3, hB3, hB13, hne⟩ := H3.out;have hz13 := hB13.size;have hZB : B1 <= Z := by omega
     have hb35 : Below wr.heap.size wr W5 := by rw [<- hW5]; exact ((Below.one wr _).alloc (by simp) _).alloc (by simp; omega) _
     have hz5 : W5.heap.size = Z + 1 + 1 + 1 := by rw [<- hW5]; simp [hZ]
     have hwB : w.heap.size <= B1 := by have := H0.out.2.2.1.size; omega
     have hB5 := btr hB3 hb35;have hP5 : PlS W5 B1 (Z + 1 + 1) Z (Z + 1) 0 (fun _ => none) fo fc (.slice none 0 0) 0 ⟨x.free, []⟩ [] := by
      refine ⟨?_, ?_, ?_, HX.out.2.2.1, World.ownsRow_nil _ _ _ _, ?_, by omega, by omega, by omega, fun y hy => by cases hy⟩
      . rw [<- hW5]; exact Bx.newAt _ _ _ _ (by simp [hZ])
      . rw [<- hW5, <- hZ];exact ((MapS.made wr).kept (World.grownBy_alloc _ _ none) (by simp)).kept (World.grownBy_alloc _ _ none) (by simp)
      . exact zas.of_row ((HX.out.2.2.2.1.below hB5).row.mono fun b hb => znL hb hwB)
      . rw [<- hW5];have := (MapI.made (wr.alloc (.map #[] 0))).kept (World.grownBy_alloc _ (.cells #[.map (some Z), .slice fo x.free.length fc, .slice none 0 0, .map (some (Z + 1))] 121) none) (by simp);simpa [hZ] using this
     obtain ⟨hLO, hnd, hok, hok2, hp0⟩ := HT.out;rw [hB1e] at hLO;have hb15 := btr hB13 hb35;have hgood := (zd8 Hv.out).good;have hN1 : N + 1 < B1 := by have := H0.out.2.1.lt; omega
     have hC5 : ComS w W5 (ixC x.disk po co pc cc x.frm x.til x.ver x.root fo x.free.length fc) N B1 Z 0 (fun _ => none) fo fc (.slice none 0 0) 0 ⟨x.free, []⟩ [] a :=
      ⟨xN3.belowAll hb35, xR3.belowAll hb35, hB5, hP5, fun t' ht' => ⟨(hLO t' ht').1.staysAll hb15, (hLO t' ht').2.2⟩, by omega, hN1, H0.out.2.2.2, hZB⟩
     have hcont := zhk B1 Z a W5 (fun t' ht' => ⟨(hC5.tr t' ht').1, fun m hm => (hgood.2.2.2.1 t'.nd (by rw [<- hnd, ht']; rfl) m hm).enc hgood.1 hgood.2.1, by
      obtain ⟨⟨th, htm⟩, -⟩ := hok t'.nd (by rw [<- hnd, ht']; rfl);have h1 := htm.cnt1;have h2 := (hok2 t'.nd (by rw [<- hnd, ht']; rfl)).2.2
      omega⟩) hP5.known
     rw [hp0, hnd] at hcont;have Hcont := zhI hcont;have HC5 := zhI hC5;have hbx := hP5.box;have cP := hbx.cell;have lP := hbx.lt;clear cX lX hW5 hB1e hz0 xN3 xR3 hB3 hB13 hne hz13 hb35 hz5 hB5 hP5 hLO hnd hok hok2 hp0 hb15 hcont hC5 hbx hmm;go_wp2_with fail;refine Hcont.out.mono ?_;rintro e W6 ⟨rfl, ⟨km, hM6⟩, hg6⟩;have hC6 : ComS w W6 (ixC x.disk po co pc cc x.frm x.til x.ver x.root fo x.free.length fc) N B1 Z km (zcM t) fo fc (.slice none 0 0) 0 ⟨x.free, []⟩ [] a := by
      have h := HC5.out;have hK : KeepB [Z] W5 W6 := (KeepB.refl _ W5).growL hg6 (fun r hr => .inl (by cases hr; simp));have hNZ : N ∉ [Z] /\ N + 1 ∉ [Z] := by have := h.hN; have := h.hZ; simp; omega
      obtain ⟨-, -, -, -, A5, -, -⟩ : True /\ True /\ True /\ True /\ (Z + 1 + 1 ≠ Z) /\ True /\ True := ⟨trivial, trivial, trivial, trivial, by omega, trivial, trivial⟩;refine ⟨hK.bx h.xN hNZ.1, hK.bx h.xR hNZ.2, hK.below h.below h.below.size (fun b hb => ?_), ⟨hK.bx h.pl.box (by simpa using A5), hM6, h.pl.fr.kept hK (by simpa using h.hZ) h.b1, h.pl.fs, zbK h.pl.tk hK (by simp [Value.ownBlock]), h.pl.us.same (hK.2.2.2.2 _ h.pl.us.lt (by simp)), h.pl.pbB, h.pl.ubB, h.pl.kub, h.pl.sz⟩, fun t' ht' => ⟨(h.tr t' ht').1.grownM ((h.tr t' ht').1.ne_map h.pl.known.obj) hg6, (h.tr t' ht').2⟩, znT h.b1 hg6.size, h.hN, h.hw, h.hZ⟩;have := h.hw; have := h.hN; have := h.hZ;have : b = Z := by simpa using hb
      omega
     have HC6 := zhI hC6;clear hM6 hg6 hC6 HC5 Hcont cP lP;go_wp2
     go_loopw [6, 76] (fun r i wq => ∃ (j : Nat) (o : Option AT), j <= k /\ i = .int .i64 j /\ r = rootV o /\ Hid (ComS w wq (ixC x.disk po co pc cc x.frm x.til x.ver x.root fo x.free.length fc) N B1 Z km (zcM t) fo fc (.slice none 0 0) 0 ⟨x.free, []⟩ [] o /\ o.map (fun s => s.nd.er) = (l.take j).foldl chg1 (t.map Nd.er))) (fun _ i _ => k - (intOf i).toNat)
     case atStart => refine ⟨0, a, by omega, rfl, HT.out.2.2.2.2.symm, zhI ⟨HC6.out, ?_⟩⟩;have hnd := HT.out.2.1;rw [List.take_zero, List.foldl_nil, <- hnd];unfold ndO;rw [Option.map_map]; rfl
     case round =>
      obtain ⟨j, o, hj, rfl, rfl, HS⟩ := hrel;have hkv := zcG HEq.out;have hlaw := fun m => zd9 (l := l.take m) (HT.out.2.2.1.er) (fun c hc => (hkv c (List.mem_of_mem_take hc)).1)
      by_cases hlt2 : j < k
      .
       have hlk : j < l.length := by rw [Hn.out]; exact hlt2
       obtain ⟨g, off, rfl, hg, c0, c1, c2, c3, c4⟩ := (HL.out.2.1.below HS.out.1.below).cell hlk;obtain ⟨c, hc⟩ : ∃ c, l[j] = c := ⟨_, rfl⟩;rw [hc] at c0 c1 c2 c3 c4;have htk : (l.take (j + 1)).foldl chg1 (t.map Nd.er) = chg1 ((l.take j).foldl chg1 (t.map Nd.er)) c := by rw [List.take_succ_eq_append_getElem hlk, hc, List.foldl_append]; rfl
       have hpre : ∀ t', o = some t' -> (∃ h, Tm 1 2 h t'.nd) /\ Asc t'.nd.prs := fun t' ht' => by obtain ⟨⟨h, h1⟩, h2⟩ := (hlaw j).1 t'.nd.er (by rw [<- HS.out.2, ht']; rfl);exact ⟨⟨h, Tm.er_iff.1 h1⟩, by rw [Nd.er_prs] at h2; exact h2⟩
       obtain ⟨key, hasO, old, hasN, new⟩ := c;simp only at c0 c1 c2 c3 c4;have hb3 := Below.one wr (.cells #[.string key, .bool hasO, .bool hasN, .string old, .string new] 71);have hS3 := HS.out.1.next hb3;have Hpre := zhI (zaI hpre htk);have HS3 := zhI hS3;have Her := zhI HS.out.2;clear hkv hlaw hc htk hpre hb3 hS3 HS hlk;cases hasN with
       | true =>
        have hput := zmz B1 (key, new) o _ (fun t' ht' => by obtain ⟨⟨h, h1⟩, h2⟩ := Hpre.out.1 t' ht';exact ⟨(HS3.out.tr t' ht').1, (HS3.out.tr t' ht').2, h1.shp (by decide) (by decide), h2⟩) HS3.out.b1
        have Hput := zhI hput;clear hput;go_wp2_with fail;refine Hput.out.mono ?_;intro e W8 hr;obtain ⟨o', rfl, her, hC8⟩ := HS3.out.root hr;have H8 := zhI (zaI her hC8);clear hr her hC8 Hput HS3;go_wp2;go_roundw
        case rel => refine ⟨j + 1, o', by omega, by go_num, rfl, zhI ⟨H8.out.2, ?_⟩⟩;rw [H8.out.1, Hpre.out.2, <- Her.out];rfl
        case measure => simp [intOf]; omega
       | false =>
        have hput := zi1 B1 key o _ (fun t' ht' => by obtain ⟨h1, h2⟩ := Hpre.out.1 t' ht';exact ⟨(HS3.out.tr t' ht').1, (HS3.out.tr t' ht').2, h1, h2⟩) HS3.out.b1
        have Hput := zhI hput;clear hput;go_wp2_with fail;refine Hput.out.mono ?_;intro e W8 hr;obtain ⟨o', rfl, her, hC8⟩ := HS3.out.root hr;have H8 := zhI (zaI her hC8);clear hr her hC8 Hput HS3;go_wp2;go_roundw
        case rel => refine ⟨j + 1, o', by omega, by go_num, rfl, zhI ⟨H8.out.2, ?_⟩⟩;rw [H8.out.1, Hpre.out.2, <- Her.out];rfl
        case measure => simp [intOf]; omega
      .
       obtain rfl : j = k := by omega
       have hfull : l.take j = l := List.take_of_length_le (by rw [Hn.out]; exact Nat.le_refl _);obtain ⟨hS9, her9⟩ := HS.out;rw [hfull] at her9;have hlawT := hlaw j;rw [hfull] at hlawT;have hplan : planP x t l = match o.map (fun s => s.nd.er) with
         | none => some (none, ⟨x.free, []⟩)
         | some n => (za0 (fun s => zcM t (bs s)) n ⟨x.free, []⟩).map fun y => (some y.1, y.2) := by
        unfold planP; rw [<- her9];cases o <;> rfl
       have Hplan := zhI hplan;have HlawT := zhI (zaI hlawT her9);have HS9 := zhI hS9;have Hne := zhI H3.out.2.2.2.2;have Hl1000 := zhI hl;have hrng := (zd8 Hv.out).good;have hver := (zd8 Hv.out).ver;clear hkv hlaw hfull hS9 her9 hlawT hplan HS HC6 hk hl H3;cases o
       case' none =>
        simp only [rootV];have xR := HS9.out.xR;have hB1 := HS9.out.below;have cN := HS9.out.xN.cell;have lN := HS9.out.xN.lt;unfold ixC at cN;cases hvb : (x.ver == 1099511627776)
        case' true =>
         have HE : Hid (zan x l = (zeroX, 17)) := zhI (zbM Hv.out HEq.out Hany.out Hne.out (.inr (by simpa using hvb)));obtain ⟨Wf, hWf⟩ : ∃ Wf, st9 wr (N + 1) (.int .i64 0) (.slice none 0 0) (.slice none 0 0) (.int .i64 0) (.int .i64 0) (.int .i64 0) (.int .i64 0) (.int .i64 0) (.slice none 0 0) = Wf := ⟨_, rfl⟩;have hNw := H0.out.2.2.2;have zR : Bx Wf (N + 1) ixZ 33 := by subst hWf; exact xR.set9
         have zB : Below w.heap.size w Wf := by subst hWf; exact zad hB1 (by omega)
         have HWf := zhI hWf;have ZB := zhI zB;clear zB hWf hNw;have cX := xR.cell;have lX := xR.lt;have fX := xR.free;go_wp2;have HW := HWf.out;unfold st9 st8 at HW;rw [HW];have cZ := zR.cell;refine bodyPost_ret (v := .tuple #[.agg ixZ, .int .i64 17]) (by simp [results, Tryz.results36, go_sem, cZ]) rfl ?_;rw [<- HR.out, HE.out];exact ⟨_, rfl, IxT.zero _, ZB.out⟩
        clear xR hB1 cN lN;obtain ⟨n2, hn2⟩ : ∃ n : Option Nd, n = none := ⟨_, rfl⟩;obtain ⟨q, hq⟩ : ∃ q : Plc, q = ⟨x.free, []⟩ := ⟨_, rfl⟩;have Hpl : Hid (planP x t l = some (n2, q)) := zhI (by rw [Hplan.out, hn2, hq]; rfl);obtain ⟨fo2, hfo2⟩ : ∃ o : Option Addr, o = fo := ⟨_, rfl⟩;obtain ⟨fc2, hfc2⟩ : ∃ o : Nat, o = fc := ⟨_, rfl⟩;obtain ⟨wo, hwo⟩ : ∃ o : Option Addr, o = none := ⟨_, rfl⟩;obtain ⟨wc, hwc⟩ : ∃ o : Nat, o = 0 := ⟨_, rfl⟩;obtain ⟨rt, hrt⟩ : ∃ o : Int, o = 0 := ⟨_, rfl⟩;have HTl : Hid (TailS w wr (ixC x.disk po co pc cc x.frm x.til x.ver x.root fo x.free.length fc) #[.map (some Z), .slice fo2 q.free.length fc2, .slice wo q.ws.length wc, .map (some (Z + 1))] N (Z + 1 + 1) wo wc q.ws) := zhI (by
         have h := HS9.out;refine ⟨h.xN, h.xR, ?_, h.below, ?_, h.hw⟩
         . rw [hq, hfo2, hfc2, hwo, hwc]; exact h.pl.box
         . rw [hq]; intro i hi; simp at hi)
        have HWs : Hid (SlW wo q.ws.length wc /\ (∀ y ∈ q.ws, y.data.size <= 1000) /\ q.ws.length <= 50000) := zhI (by
         rw [hq, hwo, hwc]; exact ⟨.inl ⟨rfl, rfl, rfl⟩, fun y hy => (by cases hy), Nat.zero_le _⟩)
        have Hrt : Hid (rootN n2 = rt /\ 0 <= rt /\ rt <= 1000000) := zhI (by rw [hn2, hrt]; exact ⟨rfl, by omega, by omega⟩);have Hrt0 := zhI hrt;have Hvn : Hid (x.ver ≠ 1099511627776) := zhI (by simpa using hvb);clear hrt;obtain ⟨un2, hun2⟩ : ∃ n : Nat, n = 0 := ⟨_, rfl⟩;have HU : Hid (MapI wr (Z + 1) un2 (usedN n2)) := zhI (by rw [hun2, hn2]; exact HS9.out.pl.us);clear hwo hwc hfo2 hfc2 hn2 hq hun2;obtain ⟨Wt, rfl⟩ : ∃ Wt, Wt = wr := ⟨_, rfl⟩;have cN := HTl.out.xN.cell;have lN := HTl.out.xN.lt;unfold ixC at cN;have cP := HTl.out.xP.cell;have lP := HTl.out.xP.lt;obtain ⟨FR, hFR⟩ : ∃ L, zap x.frm x.til (usedN n2) = L := ⟨_, rfl⟩;have hfree : ∀ W, Below Wt.heap.size Wt W -> Calls Tryz.prog 77 #[.int .i64 x.frm, .int .i64 x.til, .map (some (Z + 1))] W fun e w' => ∃ o c, e = .returned (.slice o FR.length c) /\ w'.ownsRow W.heap.size 3 1 (.slice o FR.length c) FR.length (intsV FR) /\ Below W.heap.size W w' := fun W hb => by have := zgf x.frm x.til (Z + 1) un2 (usedN n2) W (HU.out.below hb) hrng.1 hrng.2.1 (by omega);rw [hFR] at this;exact this
        have Hfree := zhI hfree;have HFR := zhI hFR;have Hrng := zhI (zaI hrng hver);have hw1 : wrap64 (x.ver + 1) = x.ver + 1 := IntWalk.wrap64_in _ (by omega);have Hw1 := zhI hw1;clear hfree hFR hrng hver hw1;have cQ := Lat.cells Wt;have HBw : Hid (∀ y : Lat Wt, Below Wt.heap.size Wt y.w) := zhI (fun y => y.h);go_upto_region 27 with fail
        refine zal 18 1 #[true, true, true, true, true, true, true, true, true, true, true, true, true, true, true, true, true, true, false] (fun i => if i = 12 then some (annK (.pointer (some ⟨Z + 1 + 1, 0, none⟩))) else if i = 15 then some (annFr FR) else if i = 16 then some (annNx x.frm x.til (x.ver + 1) FR) else if i = 17 then some (zhv 33 ixZ) else none) (by kernel_rfl) (by rfl) (by rfl) (by kernel_rfl) ?_;simp only [List.take_succ_cons, List.take_zero];refine LW.block 12 12 (by rfl) (by kernel_rfl) (by kernel_rfl) ?_;simp only [ztP]
        repeat (first | go_big_quiet_skip | (go_big_quiet_want; go_big_quiet_op; go_big_quiet_on))
        refine wpQuiet_nil ?_;refine LW.lzy _ (by rfl) (by rfl) ?_ ?_
        . intro yL _;exact zaL ((by rfl))
        intro _;simp only [Act.put, zsP]
        (try simp only [annK])
        refine LW.block 2 15 (by rfl) (by kernel_rfl) (by kernel_rfl) ?_;simp only [ztP]
        repeat (first | go_big_quiet_skip | (go_big_quiet_want; go_big_quiet_op; go_big_quiet_on))
        refine wpQuiet_nil ?_;refine LW.lzy _ (by rfl) (by rfl) ?_ ?_
        . intro yL _;unfold lzAt;go_simp;exact lz_fr (Hfree.out _ (HBw.out _))
        intro r15;simp only [Act.put, zsP, annFr];refine LW.lzy _ (by rfl) (by rfl) ?_ ?_
        . intro yL hf;have h15 : SlW (slO (r15.x 0)) FR.length (slC (r15.x 0)) /\ IntsT yL.w (slO (r15.x 0)) FR := (hf 15 (by decide +kernel)).get (by rfl) (by rfl);unfold lzAt;go_simp;rw [Hw1.out];exact ⟨Below.refl _ _, fun _ => .slice (slO (r15.x 0)) FR.length (slC (r15.x 0)), rfl, fun w'' hb => ⟨h15.1, h15.2.below hb⟩⟩
        intro r16;simp only [Act.put, zsP, annNx];refine LW.lzy _ (by rfl) (by rfl) ?_ ?_
        . intro yL _;unfold lzAt;go_simp;exact zmm yL.w
        intro r17;simp only [Act.put, zsP, zhv];refine LW.done ?_;intro W8 hG;have hb8 := hG.below;have xM := hG.get 17 rfl rfl;have h16 := hG.get 16 rfl rfl;have hMr := (hG.range 17 r17 rfl).1;simp only at xM h16;obtain ⟨M, hM⟩ : ∃ M, r17.lo = M := ⟨_, rfl⟩;obtain ⟨go, hgo⟩ : ∃ o, slO (r16.x 0) = o := ⟨_, rfl⟩;obtain ⟨gc, hgc⟩ : ∃ c, slC (r16.x 0) = c := ⟨_, rfl⟩;rw [hM] at xM hMr |-;rw [hgo, hgc] at h16 |-;have hT8 := HTl.out.next hb8;obtain ⟨W9, hW9⟩ : ∃ W9, st9 W8 M (.int .i64 0) (.slice none 0 0) (.slice none 0 0) (.int .i64 0) (.int .i64 x.frm) (.int .i64 x.til) (.int .i64 (x.ver + 1)) (.int .i64 0) (.slice go FR.length gc) = W9 := ⟨_, rfl⟩;have hlN := HTl.out.xR.lt;have hlP := HTl.out.xP.lt;have hMne : M ≠ N /\ M ≠ N + 1 /\ M ≠ Z + 1 + 1 /\ w.heap.size <= M := ⟨by omega, by omega, by omega, by have := HTl.out.hw; omega⟩;have ho9 : Only M W8 W9 := by rw [<- hW9]; exact Only.nine
        have xM9 : Bx W9 M #[.int .i64 0, .slice none 0 0, .slice none 0 0, .int .i64 0, .int .i64 x.frm, .int .i64 x.til, .int .i64 (x.ver + 1), .int .i64 0, .slice go FR.length gc] 33 := by rw [<- hW9]; exact xM.set9
        have hT9 := hT8.only xM (noS9 _ _ _ _ _ _ _ _ _ _ _ _ _ _ _) ho9 (by rw [<- hW9]; exact zad hT8.below hMne.2.2.2) hMne.1 hMne.2.1 hMne.2.2.1;have hF9 := h16.2.only xM (by decide) ho9;have HT9 := zhI (zaI hT9 (zaI xM9 (zaI (zaI h16.1 hF9) hMne)))
        skip
        have cM := xM.cell;have lM := xM.lt;have fM := xM.free;clear hG h16 hMr hM hgo hgc hT8 hlN hlP hMne ho9 xM9 hT9 hF9 cN lN cP lP cQ HBw Hfree hb8;refine wpAny_ready (rs := [18]) (by kernel_rfl) (by simp) ?_;refine AllReady.cons rfl (fun K hK => ?_) AllReady.nil;go_simp;refine hK _ _ ?_;clear hK K;refine wpAny_done (by kernel_rfl) ?_ _;unfold st9 st8 at hW9;rw [hW9];clear hW9 cM lM fM xM;obtain ⟨Wm, rfl⟩ : ∃ Wm, Wm = W9 := ⟨_, rfl⟩;have HT2 : Hid (TailS w Wm (ixC x.disk po co pc cc x.frm x.til x.ver x.root fo x.free.length fc) #[.map (some Z), .slice fo2 q.free.length fc2, .slice wo q.ws.length wc, .map (some (Z + 1))] N (Z + 1 + 1) wo wc q.ws /\ Bx Wm M #[.int .i64 0, .slice none 0 0, .slice none 0 0, .int .i64 0, .int .i64 x.frm, .int .i64 x.til, .int .i64 (x.ver + 1), .int .i64 rt, .slice go FR.length gc] 33 /\ (SlW go FR.length gc /\ IntsT Wm go FR) /\ M ≠ N /\ M ≠ N + 1 /\ M ≠ Z + 1 + 1 /\ w.heap.size <= M) := zhI (by rw [Hrt0.out]; exact HT9.out);clear HT9
       case' some t1 =>
        simp only [rootV, AT.ptr];have hC9 := HS9.out;have hgood := (zd8 Hv.out).good;obtain ⟨⟨hOT, hlenT⟩, her9⟩ := HlawT.out;have hT1 : l.foldl chg1 (t.map Nd.er) = some t1.nd.er := her9.symm;rw [hT1] at hOT hlenT;obtain ⟨⟨th, htm⟩, -⟩ := hOT _ rfl;rw [Tm.er_iff] at htm;have hpl6 : t1.nd.pre.length <= 20000 := by
         have h1 := htm.cnt1;have h2 : (zaf (t.map Nd.er)).length <= 6000 := by
          cases ht : t with
          | none => exact Nat.zero_le _
          | some n => have := (HT.out.2.2.2.1 n ht).2.2;simp only [Option.map_some, zaf, Nd.er_prs];exact this
         have h3 : (zaf (some t1.nd.er)).length = t1.nd.prs.length := by simp only [zaf, Nd.er_prs]
         rw [h3, Hn.out] at hlenT;have := Hl1000.out;omega
        have hPB : PlcB (fun s => zcM t (bs s)) ⟨x.free, []⟩ := by
         refine ⟨fun s g hg => ?_, fun g hg => ?_⟩
         .
          cases ht : t with
          | none => rw [ht] at hg; cases hg
          | some n =>
           rw [ht] at hg;rcases zgW hg with h | ⟨m, hm, -, hmg⟩
           . cases h
           . obtain ⟨-, -, g3, g4, -⟩ := hgood.2.2.2.1 n ht m hm;have := hgood.1;have := hgood.2.1;omega
         . have := hgood.2.2.2.2 g hg;have := hgood.1;have := hgood.2.1;omega
        have hcall := zlZ B1 (Z + 1 + 1) Z (Z + 1) km (zcM t) t1 wr fo fc (.slice none 0 0) 0 ⟨x.free, []⟩ [] 1 2 th (by decide) (by decide) htm (hC9.tr t1 rfl).1 (hC9.tr t1 rfl).2 hC9.pl hPB hC9.b1 (by omega) (by simp only [List.length_nil]; omega);have hpt : t1.ptr = .pointer (some ⟨t1.b, 0, none⟩) := rfl;rw [hpt] at hcall;have Hcall := zhI hcall;have Htm := zhI (zaI htm (zaI hpl6 hPB));obtain ⟨tb, htb⟩ : ∃ b, t1.b = b := ⟨_, rfl⟩;rw [htb] at Hcall |-;have Htb := zhI htb;clear hC9 hgood hOT hlenT her9 hT1 htm hpl6 hPB hcall hpt htb;go_wp2_with fail;refine Hcall.out.mono ?_;rintro e W7 ⟨hK7, hr7⟩;have xN7 : Bx W7 N (ixC x.disk po co pc cc x.frm x.til x.ver x.root fo x.free.length fc) 33 /\ Bx W7 (N + 1) ixZ 33 /\ Below w.heap.size w W7 := by
         have h := HS9.out;have hlt := (h.tr t1 rfl).1.lt;have hN := h.hN;have hZ := h.hZ;have hw := h.hw;have hge : ∀ y ∈ ((Z + 1 + 1) :: (Z + 1) :: ((Value.slice none 0 0).ownBlock.toList ++ t1.fp)), B1 <= y := fun y hy => by
          have hy' : y = Z + 1 + 1 \/ y = Z + 1 \/ y ∈ t1.fp := by simpa [Value.ownBlock] using hy
          rcases hy' with e | e | e
          . omega
          . omega
          . exact (hlt y e).1
         exact ⟨hK7.bx h.xN (fun hm => by have := hge _ hm; omega), hK7.bx h.xR (fun hm => by have := hge _ hm; omega), hK7.below h.below h.below.size (fun b hb => by have := hge b hb; omega)⟩
        have cN := xN7.1.cell;have lN := xN7.1.lt;unfold ixC at cN;have HN7 := zhI xN7;clear xN7 hK7 Hcall;rcases hr7 with ⟨hpn, rfl⟩ | ⟨n', q, t2, fo2, fc2, tv2, hpn, rfl, hb2, hf2, hn2, hL2, hS7, -⟩
        .
         have HE : Hid (zan x l = (zeroX, 17)) := zhI (zbM Hv.out HEq.out Hany.out Hne.out (.inl (by
          rw [Hplan.out];simp only [Option.map_some];rw [zhm, hpn]; rfl)))
         have xR := HN7.out.2.1;have hB1 := HN7.out.2.2;clear hpn;obtain ⟨Wf, hWf⟩ : ∃ Wf, st9 W7 (N + 1) (.int .i64 0) (.slice none 0 0) (.slice none 0 0) (.int .i64 0) (.int .i64 0) (.int .i64 0) (.int .i64 0) (.int .i64 0) (.slice none 0 0) = Wf := ⟨_, rfl⟩;have hNw := H0.out.2.2.2;have zR : Bx Wf (N + 1) ixZ 33 := by subst hWf; exact xR.set9
         have zB : Below w.heap.size w Wf := by subst hWf; exact zad hB1 (by omega)
         have HWf := zhI hWf;have ZB := zhI zB;clear zB hWf hNw;have cX := xR.cell;have lX := xR.lt;have fX := xR.free;go_wp2;have HW := HWf.out;unfold st9 st8 at HW;rw [HW];have cZ := zR.cell;refine bodyPost_ret (v := .tuple #[.agg ixZ, .int .i64 17]) (by simp [results, Tryz.results36, go_sem, cZ]) rfl ?_;rw [<- HR.out, HE.out];exact ⟨_, rfl, IxT.zero _, ZB.out⟩
        cases hvb : (x.ver == 1099511627776)
        case' true =>
         have HE : Hid (zan x l = (zeroX, 17)) := zhI (zbM Hv.out HEq.out Hany.out Hne.out (.inr (by simpa using hvb)));have xR := HN7.out.2.1;have hB1 := HN7.out.2.2;clear hpn hb2 hf2 hn2 hL2 hS7;obtain ⟨Wf, hWf⟩ : ∃ Wf, st9 W7 (N + 1) (.int .i64 0) (.slice none 0 0) (.slice none 0 0) (.int .i64 0) (.int .i64 0) (.int .i64 0) (.int .i64 0) (.int .i64 0) (.slice none 0 0) = Wf := ⟨_, rfl⟩;have hNw := H0.out.2.2.2;have zR : Bx Wf (N + 1) ixZ 33 := by subst hWf; exact xR.set9
         have zB : Below w.heap.size w Wf := by subst hWf; exact zad hB1 (by omega)
         have HWf := zhI hWf;have ZB := zhI zB;clear zB hWf hNw;have cX := xR.cell;have lX := xR.lt;have fX := xR.free;go_wp2;have HW := HWf.out;unfold st9 st8 at HW;rw [HW];have cZ := zR.cell;refine bodyPost_ret (v := .tuple #[.agg ixZ, .int .i64 17]) (by simp [results, Tryz.results36, go_sem, cZ]) rfl ?_;rw [<- HR.out, HE.out];exact ⟨_, rfl, IxT.zero _, ZB.out⟩
        obtain ⟨n2, hn2e⟩ : ∃ n : Option Nd, n = some n' := ⟨_, rfl⟩;have Hpl : Hid (planP x t l = some (n2, q)) := zhI (by
         rw [Hplan.out, hn2e];simp only [Option.map_some];rw [zhm, hpn]; rfl)
        obtain ⟨wo, wc, rfl, hws, hrow, -⟩ := zai hS7.tk;have HTl : Hid (TailS w W7 (ixC x.disk po co pc cc x.frm x.til x.ver x.root fo x.free.length fc) #[.map (some Z), .slice fo2 q.free.length fc2, .slice wo q.ws.length wc, .map (some (Z + 1))] N (Z + 1 + 1) wo wc q.ws) := zhI ⟨HN7.out.1, HN7.out.2.1, hS7.box, HN7.out.2.2, PWsAt.of_row (hrow.mono fun y hy => hy.2), HS9.out.hw⟩;have HWs : Hid (SlW wo q.ws.length wc /\ (∀ y ∈ q.ws, y.data.size <= 1000) /\ q.ws.length <= 50000) := zhI ⟨hws, hS7.sz, by
         have h1 := zdg _ _ _ _ hpn;have h2 := Htm.out.2.1;simp only [List.length_nil] at h1
         omega⟩
        obtain ⟨rt, hrt⟩ : ∃ r, n'.page = r := ⟨_, rfl⟩;have hpof := zeX _ _ _ _ hpn;have Hrt : Hid (rootN n2 = rt /\ 0 <= rt /\ rt <= 1000000) := zhI (by
         rw [hn2e, <- hrt];exact ⟨rfl, hpof.2.2 Htm.out.2.2⟩)
        obtain ⟨un2, hun2⟩ : ∃ n : Nat, 0 + t1.nd.pre.length = n := ⟨_, rfl⟩;have HU : Hid (MapI W7 (Z + 1) un2 (usedN n2)) := zhI (by
         have := hS7.us;rw [hun2] at this;rw [hn2e];exact this)
        have hx2 := hL2.hx;have hpg2 : t2.page = rt := by rw [<- AT.nd_page, hn2]; exact hrt
        rw [hb2, Htb.out, hpg2] at hx2;obtain ⟨pv2, hpv2⟩ : ∃ y, t2.pv = y := ⟨_, rfl⟩;obtain ⟨kv2, hkv2⟩ : ∃ y, t2.kv = y := ⟨_, rfl⟩;obtain ⟨lf2, hlf2⟩ : ∃ y, t2.kids.isEmpty = y := ⟨_, rfl⟩;rw [hpv2, hkv2, hlf2] at hx2;have HRoot := zhI hx2;have Hvn : Hid (x.ver ≠ 1099511627776) := zhI (by simpa using hvb);clear hpn hb2 hf2 hn2 hL2 hS7 hn2e hws hrow hrt hpof hun2 hx2 hpg2 hpv2 hkv2 hlf2;obtain ⟨Wt, rfl⟩ : ∃ Wt, Wt = W7 := ⟨_, rfl⟩;have cN := HTl.out.xN.cell;have lN := HTl.out.xN.lt;unfold ixC at cN;have cP := HTl.out.xP.cell;have lP := HTl.out.xP.lt;obtain ⟨FR, hFR⟩ : ∃ L, zap x.frm x.til (usedN n2) = L := ⟨_, rfl⟩;have hfree : ∀ W, Below Wt.heap.size Wt W -> Calls Tryz.prog 77 #[.int .i64 x.frm, .int .i64 x.til, .map (some (Z + 1))] W fun e w' => ∃ o c, e = .returned (.slice o FR.length c) /\ w'.ownsRow W.heap.size 3 1 (.slice o FR.length c) FR.length (intsV FR) /\ Below W.heap.size W w' := fun W hb => by have := zgf x.frm x.til (Z + 1) un2 (usedN n2) W (HU.out.below hb) hrng.1 hrng.2.1 (by omega);rw [hFR] at this;exact this
        have Hfree := zhI hfree;have HFR := zhI hFR;have Hrng := zhI (zaI hrng hver);have hw1 : wrap64 (x.ver + 1) = x.ver + 1 := IntWalk.wrap64_in _ (by omega);have Hw1 := zhI hw1;clear hfree hFR hrng hver hw1;have cQ := Lat.cells Wt;have HBw : Hid (∀ y : Lat Wt, Below Wt.heap.size Wt y.w) := zhI (fun y => y.h);go_upto_region 27 with fail
        refine zal 18 1 #[true, true, true, true, true, true, true, true, true, true, true, true, true, true, true, true, true, true, false] (fun i => if i = 12 then some (annK (.pointer (some ⟨Z + 1 + 1, 0, none⟩))) else if i = 15 then some (annFr FR) else if i = 16 then some (annNx x.frm x.til (x.ver + 1) FR) else if i = 17 then some (zhv 33 ixZ) else none) (by kernel_rfl) (by rfl) (by rfl) (by kernel_rfl) ?_;simp only [List.take_succ_cons, List.take_zero];refine LW.block 12 12 (by rfl) (by kernel_rfl) (by kernel_rfl) ?_;simp only [ztP]
        repeat (first | go_big_quiet_skip | (go_big_quiet_want; go_big_quiet_op; go_big_quiet_on))
        refine wpQuiet_nil ?_;refine LW.lzy _ (by rfl) (by rfl) ?_ ?_
        . intro yL _;exact zaL ((by rfl))
        intro _;simp only [Act.put, zsP]
        (try simp only [annK])
        refine LW.block 2 15 (by rfl) (by kernel_rfl) (by kernel_rfl) ?_;simp only [ztP]
        repeat (first | go_big_quiet_skip | (go_big_quiet_want; go_big_quiet_op; go_big_quiet_on))
        refine wpQuiet_nil ?_;refine LW.lzy _ (by rfl) (by rfl) ?_ ?_
        . intro yL _;unfold lzAt;go_simp;exact lz_fr (Hfree.out _ (HBw.out _))
        intro r15;simp only [Act.put, zsP, annFr];refine LW.lzy _ (by rfl) (by rfl) ?_ ?_
        . intro yL hf;have h15 : SlW (slO (r15.x 0)) FR.length (slC (r15.x 0)) /\ IntsT yL.w (slO (r15.x 0)) FR := (hf 15 (by decide +kernel)).get (by rfl) (by rfl);unfold lzAt;go_simp;rw [Hw1.out];exact ⟨Below.refl _ _, fun _ => .slice (slO (r15.x 0)) FR.length (slC (r15.x 0)), rfl, fun w'' hb => ⟨h15.1, h15.2.below hb⟩⟩
        intro r16;simp only [Act.put, zsP, annNx];refine LW.lzy _ (by rfl) (by rfl) ?_ ?_
        . intro yL _;unfold lzAt;go_simp;exact zmm yL.w
        intro r17;simp only [Act.put, zsP, zhv];refine LW.done ?_;intro W8 hG;have hb8 := hG.below;have xM := hG.get 17 rfl rfl;have h16 := hG.get 16 rfl rfl;have hMr := (hG.range 17 r17 rfl).1;simp only at xM h16;obtain ⟨M, hM⟩ : ∃ M, r17.lo = M := ⟨_, rfl⟩;obtain ⟨go, hgo⟩ : ∃ o, slO (r16.x 0) = o := ⟨_, rfl⟩;obtain ⟨gc, hgc⟩ : ∃ c, slC (r16.x 0) = c := ⟨_, rfl⟩;rw [hM] at xM hMr |-;rw [hgo, hgc] at h16 |-;have hT8 := HTl.out.next hb8;obtain ⟨W9, hW9⟩ : ∃ W9, st9 W8 M (.int .i64 0) (.slice none 0 0) (.slice none 0 0) (.int .i64 0) (.int .i64 x.frm) (.int .i64 x.til) (.int .i64 (x.ver + 1)) (.int .i64 0) (.slice go FR.length gc) = W9 := ⟨_, rfl⟩;have hlN := HTl.out.xR.lt;have hlP := HTl.out.xP.lt;have hMne : M ≠ N /\ M ≠ N + 1 /\ M ≠ Z + 1 + 1 /\ w.heap.size <= M := ⟨by omega, by omega, by omega, by have := HTl.out.hw; omega⟩;have ho9 : Only M W8 W9 := by rw [<- hW9]; exact Only.nine
        have xM9 : Bx W9 M #[.int .i64 0, .slice none 0 0, .slice none 0 0, .int .i64 0, .int .i64 x.frm, .int .i64 x.til, .int .i64 (x.ver + 1), .int .i64 0, .slice go FR.length gc] 33 := by rw [<- hW9]; exact xM.set9
        have hT9 := hT8.only xM (noS9 _ _ _ _ _ _ _ _ _ _ _ _ _ _ _) ho9 (by rw [<- hW9]; exact zad hT8.below hMne.2.2.2) hMne.1 hMne.2.1 hMne.2.2.1;have hF9 := h16.2.only xM (by decide) ho9;have HT9 := zhI (zaI hT9 (zaI xM9 (zaI (zaI h16.1 hF9) hMne)));have HR9 := zhI ((HRoot.out.belowAll hb8).only ho9 (fun e => by have h1 := HRoot.out.lt; omega));have cM := xM.cell;have lM := xM.lt;have fM := xM.free;clear hG h16 hMr hM hgo hgc hT8 hlN hlP hMne ho9 xM9 hT9 hF9 cN lN cP lP cQ HBw Hfree hb8;refine wpAny_ready (rs := [18]) (by kernel_rfl) (by simp) ?_;refine AllReady.cons rfl (fun K hK => ?_) AllReady.nil;go_simp;refine hK _ _ ?_;clear hK K;refine wpAny_done (by kernel_rfl) ?_ _;unfold st9 st8 at hW9;rw [hW9];clear hW9 cM lM fM xM;have cT := HR9.out.cell;have lT := HR9.out.lt;unfold nodeC at cT;have cM := HT9.out.2.1.cell;have lM := HT9.out.2.1.lt;have fM := HT9.out.2.1.free;go_upto_region 30 with fail
        obtain ⟨Wm, hWm⟩ : ∃ Wm, W9.setCell ⟨M, 7, none⟩ (.int .i64 rt) = Wm := ⟨_, rfl⟩;rw [hWm];have HT2 : Hid (TailS w Wm (ixC x.disk po co pc cc x.frm x.til x.ver x.root fo x.free.length fc) #[.map (some Z), .slice fo2 q.free.length fc2, .slice wo q.ws.length wc, .map (some (Z + 1))] N (Z + 1 + 1) wo wc q.ws /\ Bx Wm M #[.int .i64 0, .slice none 0 0, .slice none 0 0, .int .i64 0, .int .i64 x.frm, .int .i64 x.til, .int .i64 (x.ver + 1), .int .i64 rt, .slice go FR.length gc] 33 /\ (SlW go FR.length gc /\ IntsT Wm go FR) /\ M ≠ N /\ M ≠ N + 1 /\ M ≠ Z + 1 + 1 /\ w.heap.size <= M) := zhI (by
         obtain ⟨h1, h2, ⟨h3, h4⟩, h5⟩ := HT9.out;have ho : Only M W9 Wm := by rw [<- hWm]; exact Only.one
         refine ⟨h1.only h2 (noS9 _ _ _ _ _ _ _ _ _ _ _ _ _ _ _) ho (by rw [<- hWm]; exact zaa h1.below h5.2.2.2) h5.1 h5.2.1 h5.2.2.1, ?_, ⟨h3, h4.only h2 (by decide) ho⟩, h5⟩;rw [<- hWm];exact h2.set 7 _)
        clear HT9 HR9 cT lT cM lM fM hWm
       all_goals
        obtain ⟨nw, hnw⟩ : ∃ m, q.ws.length = m := ⟨_, rfl⟩;have cM := HT2.out.2.1.cell;have lM := HT2.out.2.1.lt;have cN := HT2.out.1.xN.cell;have lN := HT2.out.1.xN.lt;unfold ixC at cN;have cP := HT2.out.1.xP.cell;have lP := HT2.out.1.xP.lt;rw [hnw] at cP;obtain ⟨K, hK⟩ : ∃ k, Wm.heap.size = k := ⟨_, rfl⟩;have hbk := Below.one Wm (.cells (dC x.disk po co pc cc) 25);have xK := Bx.new Wm (dC x.disk po co pc cc) 25;rw [hK] at xK;obtain ⟨hT2, hM2, hF2, hMne⟩ := HT2.out;have hKne : K ≠ N /\ K ≠ N + 1 /\ K ≠ Z + 1 + 1 /\ K ≠ M /\ w.heap.size <= K := by have h1 := hT2.xN.lt; have h2 := hT2.xR.lt; have h3 := hT2.xP.lt; have h4 := hM2.lt; have h5 := hT2.below.size;omega
        obtain ⟨Wd, hWd⟩ : ∃ Wd, Wm.alloc (.cells (dC x.disk po co pc cc) 25) = Wd := ⟨_, rfl⟩;rw [hWd] at xK hbk;have HTk := zhI (zaI (hT2.next hbk) (zaI (hM2.belowAll hbk) (zaI (zaI hF2.1 (hF2.2.below hbk)) hMne)));have HVk := zhI ((HX.out.2.1.below hT2.below).below hbk);have HKk := zhI (zaI xK hKne);have HK0 := zhI hK;have Hnw := zhI hnw;have HWd := zhI hWd;clear hbk xK hT2 hM2 hF2 hMne hKne hWd hK hnw
        by_cases h0 : nw = 0
        case' pos =>
         subst h0;go_upto_region 34 with fail
         rw [HK0.out];have hWd := HWd.out;unfold dC at hWd;rw [hWd];clear hWd cM lM cN lN cP lP;have HDc : Hid (x.disk.cache.length <= 960000) := zhI (by have := HL.out.2.2; omega);have HRES : Hid (∀ D e, perfP x.disk (wrOps [hdW x rt]) = (D, e) -> perfP x.disk (zaz x q.ws rt) = (D, e)) := zhI (fun D e h => by rw [List.eq_nil_of_length_eq_zero Hnw.out, zgc]; exact h)
        case' neg =>
         have hpos : 0 < nw := by omega
         go_upto_region 32 with fail
         rw [HK0.out];have hWd := HWd.out;unfold dC at hWd;rw [hWd];clear hWd cM lM cN lN cP lP;have cK := HKk.out.1.cell;unfold dC at cK;have lK := HKk.out.1.lt;have cP := HTk.out.1.xP.cell;have lP := HTk.out.1.xP.lt;rw [Hnw.out] at cP;obtain ⟨D1, er, hD1⟩ : ∃ D e, perfP x.disk (wrOps q.ws) = (D, e) := ⟨_, _, rfl⟩;have hcache := zcV (wrOps q.ws) x.disk;rw [hD1] at hcache;have HDc : Hid (D1.cache.length <= 960000) := zhI (by
          have h1 := HL.out.2.2;have h2 := HWs.out.2.2;have h3 : (wrOps q.ws).length = q.ws.length + 1 := by unfold wrOps; simp
          simp only at hcache
          omega)
         have HD1 := zhI hD1;have hwsz : ∀ y ∈ q.ws, y.data.size <= 140737488351232 := fun y hy => znT (HWs.out.2.1 y hy) (by decide);have hwcn : x.disk.cache.length + q.ws.length <= 1000000 := znT (Nat.add_le_add HL.out.2.2 HWs.out.2.2) (by decide);have hwr : ∀ W, Below Wd.heap.size Wd W -> Calls Tryz.prog 45 #[.agg (dC x.disk po co pc cc), .slice wo nw wc] W (RetVE W D1 er) := fun W hb => by have hP := zgk x.disk _ q.ws wo wc W (HVk.out.below hb) ((HTk.out.1.pw.below hb).mono fun _ hy => znL hy hb.size) HWs.out.1 hwsz hwcn;rw [HD1.out, Hnw.out] at hP;exact hP
         unfold dC at hwr;have Hwr := zhI hwr;clear hwsz hwcn hwr;have cQ := Lat.cells Wd;have HBw : Hid (∀ y : Lat Wd, Below Wd.heap.size Wd y.w) := zhI (fun y => y.h);clear hD1 hcache;refine zbS 9 8 2 #[true, true, true, true, true, true, true, true, false, false, false] #[true, true, true, true, true, true, true, true, true, false, false] (fun i => if i = 2 then some (annK (.pointer (some ⟨Z + 1 + 1, 0, none⟩))) else if i = 5 then some (annDE D1 er) else none) _ (by kernel_rfl) rfl (by rfl) (by rfl) (by kernel_rfl) (by rfl) rfl (fun _ _ _ _ h => h) (zcr _ _ rfl) ?_;simp only [List.take_succ_cons, List.take_zero];refine LW.block 2 2 (by rfl) (by kernel_rfl) (by kernel_rfl) ?_;simp only [ztP]
         repeat (first | go_big_quiet_skip | (go_big_quiet_want; go_big_quiet_op; go_big_quiet_on))
         refine wpQuiet_nil ?_;refine LW.lzy _ (by rfl) (by rfl) ?_ ?_
         . intro yL _;exact zaL ((by rfl))
         intro _;simp only [Act.put, zsP]
         (try simp only [annK])
         refine LW.block 2 5 (by rfl) (by kernel_rfl) (by kernel_rfl) ?_;simp only [ztP]
         repeat (first | go_big_quiet_skip | (go_big_quiet_want; go_big_quiet_op; go_big_quiet_on))
         refine wpQuiet_nil ?_;refine LW.lzy _ (by rfl) (by rfl) ?_ ?_
         . intro yL _;unfold lzAt;go_simp;exact lz_de (Hwr.out _ (HBw.out yL))
         intro r5;simp only [Act.put, zsP, annDE];refine LW.block 3 9 (by rfl) (by kernel_rfl) (by kernel_rfl) ?_;simp only [ztP]
         repeat (first | go_big_quiet_skip | (go_big_quiet_want; go_big_quiet_op; go_big_quiet_on))
         refine wpQuiet_nil ?_;refine LW.done ?_;intro W3 hG;have hR5 : DskV W3 (r5.x 0) D1 := hG.get 5 rfl rfl;have hG2 := hG.below;have hM1 := hR5;obtain ⟨qo1, qc1, ro1, rc1, e5⟩ := hR5.agg;rw [e5] at hM1 |-;have xK3 := HKk.out.1.belowAll hG2;obtain ⟨W4, hW4⟩ : ∃ W4, st4 W3 K (.int .i64 D1.size) (.slice qo1 D1.pages.length qc1) (.slice ro1 D1.cache.length rc1) (.int .i64 D1.left) = W4 := ⟨_, rfl⟩;have hKne := HKk.out.2;have ho4 : Only K W3 W4 := by rw [<- hW4]; exact zb5
         have xK4 : Bx W4 K (dC D1 qo1 ro1 qc1 rc1) 25 := by rw [<- hW4]; exact xK3.st4
         have hT3 := HTk.out.1.next hG2;have HTd := zhI (zaI (hT3.only xK3 (zfl _ _ _ _ _) ho4 (by rw [<- hW4]; exact zbb hT3.below hKne.2.2.2.2) hKne.1 hKne.2.1 hKne.2.2.1) (zaI ((HTk.out.2.1.belowAll hG2).only ho4 (fun e => hKne.2.2.2.1 e.symm)) (zaI (zaI HTk.out.2.2.1.1 ((HTk.out.2.2.1.2.below hG2).only xK3 (by decide) ho4)) HTk.out.2.2.2)));have HVd := zhI (hM1.only xK3 (zfl _ _ _ _ _) ho4);have cK := xK3.cell;have lK := xK3.lt;have fK := xK3.free;have HK4 := zhI (zaI xK4 hKne);clear hG hG2 hM1 xK3 hKne ho4 xK4 hT3 cP lP cQ HBw;refine wpAny_ready (rs := [9]) (by kernel_rfl) (by simp) ?_;refine AllReady.cons rfl (fun K hK => ?_) AllReady.nil;go_simp;refine hK _ _ ?_;clear hK K;refine wpAny_ready (rs := [10]) (by kernel_rfl) (by simp) ?_;refine AllReady.cons rfl (fun K hK => ?_) AllReady.nil;go_simp;refine hK _ _ ?_;clear hK K;refine wpAny_done (by kernel_rfl) ?_ _;unfold st4 at hW4;rw [hW4];clear hW4 cK lK fK;have hwne : q.ws ≠ [] := fun e => by have := Hnw.out; rw [e] at this; simp at this; omega
         have Hwne := zhI hwne;clear hwne;cases hen : (er != 0)
         case' true =>
          obtain ⟨Wd, rfl⟩ : ∃ Wd, Wd = W4 := ⟨_, rfl⟩;obtain ⟨D, rfl⟩ : ∃ D, D = D1 := ⟨_, rfl⟩;obtain ⟨po1, rfl⟩ : ∃ y, y = qo1 := ⟨_, rfl⟩;obtain ⟨pc1, rfl⟩ : ∃ y, y = qc1 := ⟨_, rfl⟩;obtain ⟨co1, rfl⟩ : ∃ y, y = ro1 := ⟨_, rfl⟩;obtain ⟨cc1, rfl⟩ : ∃ y, y = rc1 := ⟨_, rfl⟩;have cK := HK4.out.1.cell;have lK := HK4.out.1.lt;unfold dC at cK;have HE : Hid (zan x l = ({ x with disk := D }, er)) := zhI (by
           have hne : er ≠ 0 := by simpa using hen
           rw [zbN (D := D) (er := er) Hv.out HEq.out Hany.out Hne.out Hpl.out Hvn.out (by rw [Hrt.out.1]; exact zev rt Hwne.out HD1.out hne), if_pos hne])
          have hen2 : (er == 0) = false := by simpa using hen
          have xNd := HTd.out.1.xN;have xRd := HTd.out.1.xR;have hwN := HTd.out.1.hw;obtain ⟨We, hWe⟩ : ∃ We, st4 Wd N (.int .i64 D.size) (.slice po1 D.pages.length pc1) (.slice co1 D.cache.length cc1) (.int .i64 D.left) = We := ⟨_, rfl⟩;have hoe : Only N Wd We := by rw [<- hWe]; exact zb5
          have xNe : Bx We N (ixC D po1 co1 pc1 cc1 x.frm x.til x.ver x.root fo x.free.length fc) 33 := by rw [<- hWe];have := ((((xNd.set 0 (.int .i64 D.size)).set 1 (.slice po1 D.pages.length pc1)).set 2 (.slice co1 D.cache.length cc1)).set 3 (.int .i64 D.left));simpa [ixC, Go.Proofs.YtlefmmhlpgmbjaaGreat.st4] using this
          have xRe := xRd.only hoe (by omega);have hBe : Below w.heap.size w We := by rw [<- hWe]; exact zbb HTd.out.1.below (by omega)
          have hVe : DskV We (.agg (dC D po1 co1 pc1 cc1)) D := HVd.out.only xNd (noS9 _ _ _ _ _ _ _ _ _ _ _ _ _ _ _) hoe;obtain ⟨Wf, hWf⟩ : ∃ Wf, st9 We (N + 1) (.int .i64 D.size) (.slice po1 D.pages.length pc1) (.slice co1 D.cache.length cc1) (.int .i64 D.left) (.int .i64 x.frm) (.int .i64 x.til) (.int .i64 x.ver) (.int .i64 x.root) (.slice fo x.free.length fc) = Wf := ⟨_, rfl⟩;have zR : Bx Wf (N + 1) (ixC D po1 co1 pc1 cc1 x.frm x.til x.ver x.root fo x.free.length fc) 33 := by rw [<- hWf]; exact xRe.set9
          have zB : Below w.heap.size w Wf := by rw [<- hWf]; exact zad hBe (by omega)
          have zV : DskV Wf (.agg (dC D po1 co1 pc1 cc1)) D := hVe.only xRe (noS9 _ _ _ _ _ _ _ _ _ _ _ _ _ _ _) (by rw [<- hWf]; exact Only.nine);have HZ := zhI (zaI zR (zaI zB zV));have HWe := zhI (zaI hWe hWf);have cN := xNd.cell;have lN := xNd.lt;have fN := xNd.free;unfold ixC at cN;have cR := xRd.cell;have lR := xRd.lt;have fR := xRd.free;clear hWe hoe xNe xRe hBe hVe hWf zR zB zV xNd xRd hwN;go_wp2;obtain ⟨h1, h2⟩ := HWe.out;unfold st4 at h1;unfold st9 st8 at h2;rw [h1, h2];have cZ := HZ.out.1.cell;unfold ixC at cZ;refine bodyPost_ret (v := .tuple #[.agg (ixC D po1 co1 pc1 cc1 x.frm x.til x.ver x.root fo x.free.length fc), .int .i64 er]) (by simp [results, Tryz.results36, go_sem, cZ, ixC]) rfl ?_;rw [<- HR.out, HE.out];exact ⟨_, rfl, ⟨po1, pc1, co1, cc1, fo, fc, rfl, HZ.out.2.2, HX.out.2.2.1, HX.out.2.2.2.2.below HZ.out.2.1⟩, HZ.out.2.1⟩
         obtain rfl : er = 0 := by simpa using hen
         clear hen;go_upto_region 34 with fail
         obtain ⟨Wd, rfl⟩ : ∃ Wd, Wd = W4 := ⟨_, rfl⟩;have HTk := zhI HTd.out;have HVk := zhI HVd.out;have HKk := zhI HK4.out;have HRES : Hid (∀ D e, perfP D1 (wrOps [hdW x rt]) = (D, e) -> perfP x.disk (zaz x q.ws rt) = (D, e)) := zhI (fun D e h => by rw [ze0 rt Hwne.out HD1.out]; exact h)
        all_goals
         have cK := HKk.out.1.cell;unfold dC at cK;have lK := HKk.out.1.lt;have cM := HTk.out.2.1.cell;have lM := HTk.out.2.1.lt;have cN := HTk.out.1.xN.cell;have lN := HTk.out.1.xN.lt;unfold ixC at cN;obtain ⟨H, hH⟩ : ∃ H, bs (hdrL 512 (x.ver + 1).toNat rt.toNat) = H := ⟨_, rfl⟩;obtain ⟨hrng, hver⟩ := Hrng.out;have hhd : ∀ W, Calls Tryz.prog 47 #[.int .i64 (x.ver + 1), .int .i64 rt] W fun e w' => e = .returned (.string H) /\ Below W.heap.size W w' := fun W => by have := zde (x.ver + 1).toNat rt.toNat W;rw [show (((x.ver + 1).toNat : Nat) : Int) = x.ver + 1 by omega, show ((rt.toNat : Nat) : Int) = rt by have := Hrt.out.2.1; omega, hH] at this;exact this
         have hHs : H.size <= 1000 := by rw [<- hH, zaj]; simp [hdrL, num8]
         have hpg : wrap64 (x.frm + (x.ver + 1).tmod 2) = x.frm + (x.ver + 1).tmod 2 := IntWalk.wrap64_in _ (by
          have := Int.tmod_eq_emod_of_nonneg (show (0 : Int) <= x.ver + 1 by omega) (b := 2)
          omega)
         obtain ⟨pg, hpge⟩ : ∃ p, x.frm + (x.ver + 1).tmod 2 = p := ⟨_, rfl⟩;have hhw : hdW x rt = ⟨pg, H⟩ := by unfold hdW; rw [hpge, hH]
         obtain ⟨D2, er, hD2⟩ := zlv HVk.out (hdW x rt);have Hpg := zhI (zaI hpg (zaI hpge (zaI hhw (zaI hD2 hHs))));have Hhd := zhI hhd;clear hpg hpge hhw hD2 hHs hhd hH hrng hver;have cQ := Lat.cells Wd;have HBw : Hid (∀ y : Lat Wd, Below Wd.heap.size Wd y.w) := zhI (fun y => y.h);refine zbS 18 17 2 #[true, true, true, true, true, true, true, true, true, true, true, true, true, true, true, true, true, false, false, false] #[true, true, true, true, true, true, true, true, true, true, true, true, true, true, true, true, true, true, false, false] (fun i => if i = 11 then some (annK (.string H)) else if i = 12 then some (annK (.agg #[.int .i64 pg, .string H])) else if i = 13 then some (zdY 1 [.int .i64 pg, .string H] 80) else if i = 14 then some (annDE D2 er) else none) _ (by kernel_rfl) rfl (by rfl) (by rfl) (by kernel_rfl) (by rfl) rfl (fun _ _ _ _ h => h) (zcr _ _ rfl) ?_;simp only [List.take_succ_cons, List.take_zero];refine LW.block 11 11 (by rfl) (by kernel_rfl) (by kernel_rfl) ?_;simp only [ztP]
         repeat (first | go_big_quiet_skip | (go_big_quiet_want; go_big_quiet_op; go_big_quiet_on))
         refine wpQuiet_nil ?_;refine LW.lzy _ (by rfl) (by rfl) ?_ ?_
         . intro yL _;unfold lzAt;go_simp;exact zaH (Hhd.out _)
         intro _;simp only [Act.put, zsP]
         (try simp only [annK])
         refine LW.lzy _ (by rfl) (by rfl) ?_ ?_
         . intro yL _;exact zaL ((by go_simp; first | rfl | (rw [Hpg.out.1, Hpg.out.2.1]) | (simp only [Hpg.out.1, Hpg.out.2.1])))
         intro _;simp only [Act.put, zsP]
         (try simp only [annK])
         refine LW.lzy _ (by rfl) (by rfl) ?_ ?_
         . intro yL hf;unfold lzAt;go_simp;exact ⟨Below.one _ _, fun _ => undef, rfl, fun w'' hb => (Bx.new yL.w _ _).belowAll hb⟩
         intro r13;simp only [Act.put, zsP];refine LW.lzy _ (by rfl) (by rfl) ?_ ?_
         . intro yL hf;have h13 : Bx yL.w r13.lo #[.int .i64 pg, .string H] 80 := (hf 13 (by decide +kernel)).get (by rfl) (by rfl);unfold lzAt;simp only [zdY];go_simp;have hP := zgk _ _ [⟨pg, H⟩] (some ⟨r13.lo, 0, none⟩) 1 yL.w (HVk.out.below (HBw.out _)) ((PWsAt.of_row (S := fun b => b = r13.lo) (RowAt.bx h13)).mono fun b hb => by rw [hb]; exact h13.lt) (.inr ⟨_, rfl, by simp, by simp [maxLen]⟩) (by intro y hy; rw [zmS.1 hy]; have := Hpg.out.2.2.2.2; simp only; omega) (by have := HDc.out; simp only [zlC, List.length_nil]; omega);rw [<- Hpg.out.2.2.1, Hpg.out.2.2.2.1] at hP;exact lz_de hP
         intro r14;simp only [Act.put, zsP, annDE];refine LW.block 3 18 (by rfl) (by kernel_rfl) (by kernel_rfl) ?_;simp only [ztP]
         repeat (first | go_big_quiet_skip | (go_big_quiet_want; go_big_quiet_op; go_big_quiet_on))
         refine wpQuiet_nil ?_;refine LW.done ?_;intro W3 hG;have hR14 : DskV W3 (r14.x 0) D2 := hG.get 14 rfl rfl;have hG2 := hG.below;have hM1 := hR14;obtain ⟨qo1, qc1, ro1, rc1, e14⟩ := hR14.agg;rw [e14] at hM1 |-;have xK3 := HKk.out.1.belowAll hG2;obtain ⟨W4, hW4⟩ : ∃ W4, st4 W3 K (.int .i64 D2.size) (.slice qo1 D2.pages.length qc1) (.slice ro1 D2.cache.length rc1) (.int .i64 D2.left) = W4 := ⟨_, rfl⟩;have hKne := HKk.out.2;have ho4 : Only K W3 W4 := by rw [<- hW4]; exact zb5
         have xK4 : Bx W4 K (dC D2 qo1 ro1 qc1 rc1) 25 := by rw [<- hW4]; exact xK3.st4
         have hT3 := HTk.out.1.next hG2;have HTd := zhI (zaI (hT3.only xK3 (zfl _ _ _ _ _) ho4 (by rw [<- hW4]; exact zbb hT3.below hKne.2.2.2.2) hKne.1 hKne.2.1 hKne.2.2.1) (zaI ((HTk.out.2.1.belowAll hG2).only ho4 (fun e => hKne.2.2.2.1 e.symm)) (zaI (zaI HTk.out.2.2.1.1 ((HTk.out.2.2.1.2.below hG2).only xK3 (by decide) ho4)) HTk.out.2.2.2)));have HVd := zhI (hM1.only xK3 (zfl _ _ _ _ _) ho4);have cK := xK3.cell;have lK := xK3.lt;have fK := xK3.free;have HK4 := zhI xK4;clear hG hG2 hM1 xK3 hKne ho4 xK4 hT3 cN lN cM lM cQ HBw;refine wpAny_ready (rs := [18]) (by kernel_rfl) (by simp) ?_;refine AllReady.cons rfl (fun K hK => ?_) AllReady.nil;go_simp;refine hK _ _ ?_;clear hK K;refine wpAny_ready (rs := [19]) (by kernel_rfl) (by simp) ?_;refine AllReady.cons rfl (fun K hK => ?_) AllReady.nil;go_simp;refine hK _ _ ?_;clear hK K;refine wpAny_done (by kernel_rfl) ?_ _;unfold st4 at hW4;rw [hW4];clear hW4 cK lK fK;have HRes : Hid (perfP x.disk (zaz x q.ws rt) = (D2, er)) := zhI (HRES.out _ _ Hpg.out.2.2.2.1);obtain ⟨Wd, rfl⟩ : ∃ Wd, Wd = W4 := ⟨_, rfl⟩;obtain ⟨D, rfl⟩ : ∃ D, D = D2 := ⟨_, rfl⟩;obtain ⟨po1, rfl⟩ : ∃ y, y = qo1 := ⟨_, rfl⟩;obtain ⟨pc1, rfl⟩ : ∃ y, y = qc1 := ⟨_, rfl⟩;obtain ⟨co1, rfl⟩ : ∃ y, y = ro1 := ⟨_, rfl⟩;obtain ⟨cc1, rfl⟩ : ∃ y, y = rc1 := ⟨_, rfl⟩;have cK := HK4.out.cell;have lK := HK4.out.lt;unfold dC at cK;cases hen : (er != 0) with
         | true =>
          have HE : Hid (zan x l = ({ x with disk := D }, er)) := zhI (by
           rw [zbN (D := D) (er := er) Hv.out HEq.out Hany.out Hne.out Hpl.out Hvn.out (by rw [Hrt.out.1]; exact HRes.out), if_pos (by simpa using hen)])
          have xNd := HTd.out.1.xN;have xRd := HTd.out.1.xR;have hwN := HTd.out.1.hw;obtain ⟨We, hWe⟩ : ∃ We, st4 Wd N (.int .i64 D.size) (.slice po1 D.pages.length pc1) (.slice co1 D.cache.length cc1) (.int .i64 D.left) = We := ⟨_, rfl⟩;have hoe : Only N Wd We := by rw [<- hWe]; exact zb5
          have xNe : Bx We N (ixC D po1 co1 pc1 cc1 x.frm x.til x.ver x.root fo x.free.length fc) 33 := by rw [<- hWe];have := ((((xNd.set 0 (.int .i64 D.size)).set 1 (.slice po1 D.pages.length pc1)).set 2 (.slice co1 D.cache.length cc1)).set 3 (.int .i64 D.left));simpa [ixC, Go.Proofs.YtlefmmhlpgmbjaaGreat.st4] using this
          have xRe := xRd.only hoe (by omega);have hBe : Below w.heap.size w We := by rw [<- hWe]; exact zbb HTd.out.1.below (by omega)
          have hVe : DskV We (.agg (dC D po1 co1 pc1 cc1)) D := HVd.out.only xNd (noS9 _ _ _ _ _ _ _ _ _ _ _ _ _ _ _) hoe;obtain ⟨Wf, hWf⟩ : ∃ Wf, st9 We (N + 1) (.int .i64 D.size) (.slice po1 D.pages.length pc1) (.slice co1 D.cache.length cc1) (.int .i64 D.left) (.int .i64 x.frm) (.int .i64 x.til) (.int .i64 x.ver) (.int .i64 x.root) (.slice fo x.free.length fc) = Wf := ⟨_, rfl⟩;have zR : Bx Wf (N + 1) (ixC D po1 co1 pc1 cc1 x.frm x.til x.ver x.root fo x.free.length fc) 33 := by rw [<- hWf]; exact xRe.set9
          have zB : Below w.heap.size w Wf := by rw [<- hWf]; exact zad hBe (by omega)
          have zV : DskV Wf (.agg (dC D po1 co1 pc1 cc1)) D := hVe.only xRe (noS9 _ _ _ _ _ _ _ _ _ _ _ _ _ _ _) (by rw [<- hWf]; exact Only.nine);have HZ := zhI (zaI zR (zaI zB zV));have HWe := zhI (zaI hWe hWf);have cN := xNd.cell;have lN := xNd.lt;have fN := xNd.free;unfold ixC at cN;have cR := xRd.cell;have lR := xRd.lt;have fR := xRd.free;clear hWe hoe xNe xRe hBe hVe hWf zR zB zV xNd xRd hwN;go_wp2;obtain ⟨h1, h2⟩ := HWe.out;unfold st4 at h1;unfold st9 st8 at h2;rw [h1, h2];have cZ := HZ.out.1.cell;unfold ixC at cZ;refine bodyPost_ret (v := .tuple #[.agg (ixC D po1 co1 pc1 cc1 x.frm x.til x.ver x.root fo x.free.length fc), .int .i64 er]) (by simp [results, Tryz.results36, go_sem, cZ, ixC]) rfl ?_;rw [<- HR.out, HE.out];exact ⟨_, rfl, ⟨po1, pc1, co1, cc1, fo, fc, rfl, HZ.out.2.2, HX.out.2.2.1, HX.out.2.2.2.2.below HZ.out.2.1⟩, HZ.out.2.1⟩
         | false =>
          obtain rfl : er = 0 := by simpa using hen
          have HE : Hid (zan x l = (⟨D, x.frm, x.til, x.ver + 1, rt, FR⟩, 0)) := zhI (by
           rw [zbN (D := D) (er := 0) Hv.out HEq.out Hany.out Hne.out Hpl.out Hvn.out (by rw [Hrt.out.1]; exact HRes.out), if_neg (by simp), Hrt.out.1, HFR.out])
          clear hen;have xMd := HTd.out.2.1;have xRd := HTd.out.1.xR;have hwN := HTd.out.1.hw;have hMne := HTd.out.2.2.2;obtain ⟨We, hWe⟩ : ∃ We, st4 Wd M (.int .i64 D.size) (.slice po1 D.pages.length pc1) (.slice co1 D.cache.length cc1) (.int .i64 D.left) = We := ⟨_, rfl⟩;have hoe : Only M Wd We := by rw [<- hWe]; exact zb5
          have xRe := xRd.only hoe (fun e => hMne.2.1 e.symm);have hBe : Below w.heap.size w We := by rw [<- hWe]; exact zbb HTd.out.1.below hMne.2.2.2
          have hVe : DskV We (.agg (dC D po1 co1 pc1 cc1)) D := HVd.out.only xMd (noS9 _ _ _ _ _ _ _ _ _ _ _ _ _ _ _) hoe;have hFe : IntsT We go FR := HTd.out.2.2.1.2.only xMd (by decide) hoe;obtain ⟨Wf, hWf⟩ : ∃ Wf, st9 We (N + 1) (.int .i64 D.size) (.slice po1 D.pages.length pc1) (.slice co1 D.cache.length cc1) (.int .i64 D.left) (.int .i64 x.frm) (.int .i64 x.til) (.int .i64 (x.ver + 1)) (.int .i64 rt) (.slice go FR.length gc) = Wf := ⟨_, rfl⟩;have zR : Bx Wf (N + 1) (ixC D po1 co1 pc1 cc1 x.frm x.til (x.ver + 1) rt go FR.length gc) 33 := by rw [<- hWf]; exact xRe.set9
          have zB : Below w.heap.size w Wf := by rw [<- hWf]; exact zad hBe (by omega)
          have zV : DskV Wf (.agg (dC D po1 co1 pc1 cc1)) D := hVe.only xRe (noS9 _ _ _ _ _ _ _ _ _ _ _ _ _ _ _) (by rw [<- hWf]; exact Only.nine);have zF : IntsT Wf go FR := hFe.only xRe (by decide) (by rw [<- hWf]; exact Only.nine);have HZ := zhI (zaI zR (zaI zB (zaI zV zF)));have HWe := zhI (zaI hWe hWf);have cM := xMd.cell;have lM := xMd.lt;have fM := xMd.free;have cR := xRd.cell;have lR := xRd.lt;have fR := xRd.free;have hMN1 : M ≠ N + 1 := hMne.2.1;have hN1M : N + 1 ≠ M := fun e => hMN1 e.symm;clear hWe hoe xRe hBe hVe hWf zR zB zV zF xMd xRd hwN hMne hFe;go_wp2;obtain ⟨h1, h2⟩ := HWe.out;unfold st4 at h1;unfold st9 st8 at h2;rw [h1, h2];have cZ := HZ.out.1.cell;unfold ixC at cZ;refine bodyPost_ret (v := .tuple #[.agg (ixC D po1 co1 pc1 cc1 x.frm x.til (x.ver + 1) rt go FR.length gc), .int .i64 0]) (by simp [results, Tryz.results36, go_sem, cZ, ixC]) rfl ?_;rw [<- HR.out, HE.out];exact ⟨_, rfl, ⟨po1, pc1, co1, cc1, go, gc, rfl, HZ.out.2.2.1, HTd.out.2.2.1.1, HZ.out.2.2.2⟩, HZ.out.2.1⟩
end Go.Proofs.YtlefmmhlpgmbjaaGreat
