/- law PagelogRecords: the walk. An argument of type api.Disk (layer 40), a slice of ints, a string: opened: what it is in plain Lean. -/
import Derived.Test.YtghikgjknhjjgaaDoorQ17
import Derived.Test.YtghikgjknhjjgaaDoorQ03
import Derived.SizedLaws
import Derived.Lib.SmallJoins
import Derived.Deep.SlicePairs
import Derived.SliceStrings
import Derived.Test.YtghikgjknhjjgaaDoorProg
namespace Go.Proofs.YtghikgjknhjjgaaDoor
set_option maxRecDepth 100000
open Go.RowKit Go.Shelf
theorem sl_CloneO {S : Nat → Prop} (l : List ByteArray) (o : Option Addr) (c : Nat) (w : World) (ha : StrsAt S w o l) (hsl : SlW o l.length c) (hl : l.length ≤ 2000000) :
  Calls Tryd.prog 12 #[.slice o l.length c] w fun e w' => ∃ v, e = .returned v ∧ w'.ownsRow w.heap.size 9 1 v l.length (l.map .string) ∧ Below w.heap.size w w' := by
 rcases o with _ | a
 ·
  refine (Tryd.slices_Clone_string_nil l.length c w).mono ?_
  rintro e w' ⟨rfl, rfl⟩
  have h0 : l.length = 0 := (hsl.nil rfl).1
  have hnil : l = [] := List.eq_nil_of_length_eq_zero h0
  subst hnil
  exact ⟨_, rfl, World.ownsRow_nil _ _ _ _, Below.refl _ _⟩
 ·
  by_cases hp : l = []
  ·
   subst hp
   refine (Tryd.slices_Clone_string_zero a c w).mono ?_
   rintro e w' ⟨v', rfl, h1, _, hb⟩
   exact ⟨v', rfl, h1, hb⟩
  ·
   obtain ⟨b, off, e, _⟩ := ha 0 (List.length_pos_iff.2 hp)
   obtain rfl := Option.some.inj e
   refine (Tryd.slices_Clone_string b off l.length c l w (Nat.le_refl _) (by omega) (fun j hj => ?_)).mono ?_
   ·
    obtain ⟨b', off', e, hc, _⟩ := ha j hj
    obtain ⟨rfl, rfl⟩ : b = b' ∧ off = off' := by simpa using e
    rw [hc, List.getD, List.getElem?_eq_getElem hj, Option.getD_some]
   ·
    rintro e w' ⟨v', rfl, h1, _, hb⟩
    refine ⟨v', rfl, ?_, hb⟩
    rw [List.take_length] at h1
    exact h1
def annOwnS (base : Nat) (l : List ByteArray) : Ann := ⟨fun r => r.x 0, fun r W => W.ownsRow base 9 1 (r.x 0) l.length (l.map .string)⟩
theorem SlR.takeK {S : Nat → Prop} {w : World} {o : Option Addr} {c : Nat} {l : List ByteArray} (h1 : SlW o l.length c) (h2 : StrsAt S w o l) {k : Nat} (hk : k ≤ l.length) : SlW o (l.take k).length c ∧ StrsAt S w o (l.take k) := by
 have hl : (l.take k).length = k := by rw [List.length_take]; omega
 refine ⟨?_, fun i hi => ?_⟩
 ·
  rw [hl]
  rcases h1 with ⟨e1, e2, e3⟩ | ⟨a, e1, e2, e3⟩
  ·
   exact .inl ⟨e1, by omega, e3⟩
  ·
   exact .inr ⟨a, e1, by omega, e3⟩
 ·
  rw [hl] at hi
  obtain ⟨b, off, e, hc, hs⟩ := h2 i (by omega)
  exact ⟨b, off, e, by rw [List.getElem_take]; exact hc, hs⟩
set_option maxHeartbeats 8000000 in
theorem law41_records (w : World) (p s frm til : Int) (acts : List ActA) (o : Option Addr) (c : Nat) (hA : ActsAt w o acts) (hsl : SlW o acts.length c) (hT : TabW w) :
  Calls Tryd.prog 3 #[.agg #[.int .i64 p, .int .i64 s, .int .i64 frm, .int .i64 til, .slice o acts.length c]] w fun e w' => e = .returned (.bool true) ∧ Below w.heap.size w w' := by
 obtain ⟨N, hN⟩ : ∃ N, w.heap.size = N := ⟨_, rfl⟩
 obtain ⟨W1, hW1⟩ : ∃ W1, w.alloc (.cells #[.int .i64 p, .int .i64 s, .int .i64 frm, .int .i64 til, .slice o acts.length c] 24) = W1 := ⟨_, rfl⟩
 have x1 : Bx W1 N #[.int .i64 p, .int .i64 s, .int .i64 frm, .int .i64 til, .slice o acts.length c] 24 := by subst hW1 hN; exact Bx.new w _ _
 have hB1 : Below w.heap.size w W1 := by subst hW1; exact Below.one w _
 have hlen := slw_len hsl
 have hfi := rn_Fine p s frm til acts o c W1 (hA.below hB1) hsl
 have c0 := x1.cell
 have l0 := x1.lt
 cases g : fineB p s acts
 ·
  rw [g] at hfi
  go_enter Tryd.func3, Tryd.ntmps3
  go_wp2_with fail
  refine hfi.mono ?_
  rintro e w2 ⟨rfl, hb2⟩
  have hB2 := btr hB1 hb2
  go_wp2_with fail
  refine (law41_awake _ (hT.below hB2)).mono ?_
  rintro e w3 ⟨rfl, hb3⟩
  go_wp2
  go_ret
  exact ⟨rfl, btr hB2 hb3⟩
 ·
  rw [g] at hfi
  obtain ⟨hp, hs, hle, hal⟩ := fineB_parts g
  have HAl := Lib.hid hal
  clear hal g hp hs
  go_enter Tryd.func3, Tryd.ntmps3
  go_wp2_with fail
  refine hfi.mono ?_
  rintro e w2 ⟨rfl, hb2⟩
  have hB2 := btr hB1 hb2
  have x2 := x1.belowAll hb2
  clear c0 l0 x1 hfi hb2 hB1 hW1
  have c0 := x2.cell
  have l0 := x2.lt
  have hbg := rn_begin p s frm til acts.length o c w2
  have hbk := beginL_ok (p := p) (s := s) (frm := frm) (til := til)
  obtain ⟨L, er, hL⟩ : ∃ L er, beginL p s frm til = (L, er) := ⟨_, _, rfl⟩
  rw [hL] at hbg hbk
  simp only at hbk
  have HBk := Lib.hid hbk
  clear hL hbk
  go_wp2_with fail
  refine hbg.mono ?_
  rintro e w3 ⟨v3, rfl, hv3, hb3⟩
  have hv := hv3
  obtain ⟨po, pc, co, cc, ro, rc, rfl, -, -, -⟩ := hv3
  have x3 := x2.belowAll hb3
  have hB3 := btr hB2 hb3
  have hBo := Below.one w3 (.cells (lgC L.disk po co pc cc L.frm L.til L.ver ro L.recs.length rc) 32)
  have xl := Bx.new w3 (lgC L.disk po co pc cc L.frm L.til L.ver ro L.recs.length rc) 32
  have y0 := x3.belowAll hBo
  have hV := hv.below hBo
  have hB := btr hB3 hBo
  have hx3 := x3.lt
  clear c0 l0 x2 hbg hB2 x3 hv hBo
  go_upto_region 4 with fail
  obtain ⟨b, hbe⟩ : ∃ b, w3.heap.size = b := ⟨_, rfl⟩
  have hwb : N < b := by omega
  obtain ⟨W4, hW4⟩ : ∃ W4, w3.alloc (.cells (lgC L.disk po co pc cc L.frm L.til L.ver ro L.recs.length rc) 32) = W4 := ⟨_, rfl⟩
  simp only [hW4, hbe] at *
  clear hW4 hbe hB3 hb3 hx3
  have c0 := y0.cell
  have l0 := y0.lt
  cases g1 : (er != 0)
  rotate_left
  ·
   have hB2 := hB
   go_wp2_with fail
   refine (law41_awake _ (hT.below hB2)).mono ?_
   rintro e w3 ⟨rfl, hb3⟩
   go_wp2
   go_ret
   exact ⟨rfl, btr hB2 hb3⟩
  have he : er = 0 := by simpa using g1
  obtain ⟨hgood, hrec, hleft⟩ := HBk.out he
  subst he
  have hw0 : ∃ vo vc, Value.slice none 0 0 = .slice vo L.recs.length vc ∧ SlW vo L.recs.length vc ∧ StrsAt (· < W4.heap.size) W4 vo L.recs := ⟨none, 0, by rw [hrec]; rfl, by rw [hrec]; exact .inl ⟨rfl, rfl, rfl⟩, by rw [hrec]; intro i hi; exact absurd hi (by simp)⟩
  have HG := Lib.hid hgood
  have HLf := Lib.hid hleft
  have HW0 := Lib.hid hw0
  clear hgood hrec hleft hw0 HBk
  go_wp2
  clear c0 l0
  go_loopw [27, 5] (fun i v wr => ∃ (k : Nat) (l : Lg) (po co ro vo : Option Addr) (pc cc rc vc : Nat), k ≤ acts.length ∧ i = .int .i64 k ∧ v = .slice vo l.recs.length vc ∧ SlW vo l.recs.length vc ∧ StrsAt (· < wr.heap.size) wr vo l.recs ∧ Hid ((∃ U, U ≤ k + 1 ∧ LogG l frm til U) ∧ l.disk.left = -1) ∧ Below w.heap.size w wr ∧ Bx wr N #[.int .i64 p, .int .i64 s, .int .i64 frm, .int .i64 til, .slice o acts.length c] 24 ∧ Bx wr b (lgC l.disk po co pc cc l.frm l.til l.ver ro l.recs.length rc) 32 ∧ LgV wr (.agg (lgC l.disk po co pc cc l.frm l.til l.ver ro l.recs.length rc)) l) (fun i _ _ => acts.length - (intOf i).toNat)
  case atStart =>
   obtain ⟨vo, vc, e1, e2, e3⟩ := HW0.out
   exact ⟨0, L, po, co, ro, vo, pc, cc, rc, vc, Nat.zero_le _, rfl, e1, e2, e3, Lib.hid ⟨⟨1, by omega, HG.out⟩, HLf.out⟩, hB, y0, xl, hV⟩
  case round =>
   clear hB xl hV HG HLf HW0 y0
   obtain ⟨k, l, po, co, ro, vo, pc, cc, rc, vc, hk, rfl, rfl, hvs, hvt, hg, hB, y0, xl, hV⟩ := hrel
   have cr := y0.cell
   have lr := y0.lt
   by_cases hlt : k < acts.length
   ·
    obtain ⟨qb, qoff, so, sc, ko, kc, rfl, k0, k1, k2, k3, ok⟩ := hA k hlt
    have hqb : qb < w.heap.size := World.block_lt_of_cell? w _ k0
    have c0 := (hB.cell hqb).trans k0
    have c1 := (hB.cell hqb).trans k1
    have c2 := (hB.cell hqb).trans k2
    have c3 := (hB.cell hqb).trans k3
    clear k0 k1 k2 k3
    obtain ⟨a, ha⟩ : ∃ a, acts[k] = a := ⟨_, rfl⟩
    rw [ha] at c0 c1 c2 c3 ok
    have haf : actFine a = true := by rw [← ha]; exact List.all_eq_true.1 HAl.out _ (List.getElem_mem hlt)
    have lB : qb < wr.heap.size := Nat.lt_of_lt_of_le hqb hB.size
    have hzb := hB.size
    have hBo := Below.one wr (.cells (actC a so ko sc kc) 38)
    have xa := Bx.new wr (actC a so ko sc kc) 38
    have yl := xl.alloc (.cells (actC a so ko sc kc) 38)
    have yr := y0.alloc (.cells (actC a so ko sc kc) 38)
    have hB1 := btr hB hBo
    have hV1 := hV.below hBo
    have hvt1 : StrsAt (· < (wr.alloc (.cells (actC a so ko sc kc) 38)).heap.size) (wr.alloc (.cells (actC a so ko sc kc) 38)) vo l.recs := (hvt.below hBo).mono fun _ h => Nat.lt_of_lt_of_le h hBo.size
    have lb := xl.lt
    go_upto_region 10 with fail
    obtain ⟨ba, hba⟩ : ∃ ba, wr.heap.size = ba := ⟨_, rfl⟩
    have hbb : b < ba := by omega
    obtain ⟨W5, hW5⟩ : ∃ W5, wr.alloc (.cells (actC a so ko sc kc) 38) = W5 := ⟨_, rfl⟩
    simp only [hW5, hba] at *
    clear hW5 c0 c1 c2 c3 lB hBo lb cr lr hvt hba
    have ca := xa.cell
    have la := xa.lt
    cases g3 : decide (a.kind < 0)
    rotate_left
    ·
     go_wp2
     go_roundw
     case rel => exact ⟨k + 1, l, po, co, ro, vo, pc, cc, rc, vc, by omega, by go_num, rfl, hvs, hvt1, Lib.hid ⟨(by obtain ⟨⟨U, hU, h⟩, _⟩ := hg.out; exact ⟨U, by omega, h⟩), hg.out.2⟩, hB1, yr, yl, hV1⟩
     case measure => simp [intOf]; omega
    cases g4 : decide ((1 : Int) < a.kind)
    rotate_left
    ·
     go_wp2
     go_roundw
     case rel => exact ⟨k + 1, l, po, co, ro, vo, pc, cc, rc, vc, by omega, by go_num, rfl, hvs, hvt1, Lib.hid ⟨(by obtain ⟨⟨U, hU, h⟩, _⟩ := hg.out; exact ⟨U, by omega, h⟩), hg.out.2⟩, hB1, yr, yl, hV1⟩
     case measure => simp [intOf]; omega
    have hk0 := of_decide_eq_false g3
    have hk1 := of_decide_eq_false g4
    have hkk : a.kind = 0 ∨ a.kind = 1 := by omega
    obtain ⟨⟨U, hU, hgood⟩, hl1⟩ := hg.out
    obtain ⟨bd1, bd2, bd3, bd4, bd5⟩ := hgood.bd
    obtain ⟨f1, f2, f3⟩ := act_fine haf
    obtain ⟨U2, hU2, g5, g6, g7⟩ := hgood.full hl1 (by omega) haf hkk
    have htg : target l a = if a.kind = 0 then l.recs ++ a.recs else l.recs.take ((a.n : Int) % ((l.recs.length : Int) + 1)).toNat := rfl
    obtain ⟨F, ef, hF⟩ : ∃ F ef, doL l a = (F, ef) := ⟨_, _, rfl⟩
    have hd1 := rn_Do l _ a so ko sc kc W5 hV1 (ok.below hB1) (by omega) (by omega) (by omega) (hT.below hB1) (by omega) (by omega)
    rw [hF] at hd1 g5 g6 g7
    simp only at g5 g6 g7
    have hop := fun v W (hv : DskV W v F.disk) => pl_Open F.disk v frm til W hv
    rw [g5.opens] at hop
    have Hop := Lib.hid hop
    have HG := Lib.hid (show (∃ U, U ≤ k + 1 + 1 ∧ LogG F frm til U) ∧ F.disk.left = -1 from ⟨⟨U2, by omega, g5⟩, g6⟩)
    have hFb : F.recs.length ≤ 512000 := g5.bd.2.1
    have hcase : (ef = 0 ∧ F.recs = target l a) ∨ (ef = 17 ∧ F.recs = l.recs) := by
     rcases g7 with ⟨_, e1, e2⟩ | ⟨_, e⟩
     ·
      exact .inl ⟨e1, e2⟩
     ·
      obtain ⟨e1, e2⟩ := Prod.mk.inj e
      exact .inr ⟨e2, by rw [e1]⟩
    have HC := Lib.hid hcase
    have Htg := Lib.hid htg
    have Hd1 := Lib.hid hd1
    clear hd1 hop g5 g6 g7 hF hgood hg hcase htg hU2 hU bd1 hl1
    have cl := yl.cell
    have ll := yl.lt
    go_wp2_with fail
    refine Hd1.out.mono ?_
    rintro e w6 ⟨v6, rfl, hv6, hb6⟩
    have hv := hv6
    obtain ⟨p6, m6, q6, k6, r6, t6, rfl, -, -, -⟩ := hv6
    have hBo := Below.one w6 (.cells (lgC F.disk p6 q6 m6 k6 F.frm F.til F.ver r6 F.recs.length t6) 32)
    have xn := Bx.new w6 (lgC F.disk p6 q6 m6 k6 F.frm F.til F.ver r6 F.recs.length t6) 32
    have hb57 := btr hb6 hBo
    have zl := yl.belowAll hb57
    have za := xa.belowAll hb57
    have zr := yr.belowAll hb57
    have hN7 := hv.below hBo
    have hB7 := btr hB1 hb57
    have hwt7 : StrsAt (· < (w6.alloc (.cells (lgC F.disk p6 q6 m6 k6 F.frm F.til F.ver r6 F.recs.length t6) 32)).heap.size) (w6.alloc (.cells (lgC F.disk p6 q6 m6 k6 F.frm F.til F.ver r6 F.recs.length t6) 32)) vo l.recs := (hvt1.below hb57).mono fun _ h => Nat.lt_of_lt_of_le h hb57.size
    have hs6 := hb6.size
    have hb06 : b < w6.heap.size := Nat.lt_of_lt_of_le yl.lt hs6
    clear cl ll ca la xa yl yr hB1 hV1 hv hBo Hd1 hvt1 hb57
    go_upto_region 12 with fail
    obtain ⟨bn, hbn⟩ : ∃ b7, w6.heap.size = b7 := ⟨_, rfl⟩
    have hbn2 : b < bn := by omega
    obtain ⟨W7, hW7⟩ : ∃ W7, w6.alloc (.cells (lgC F.disk p6 q6 m6 k6 F.frm F.til F.ver r6 F.recs.length t6) 32) = W7 := ⟨_, rfl⟩
    simp only [hW7, hbn] at *
    clear hW7 hb6 hs6 hb06
    have ca := za.cell
    have la := za.lt
    rcases HC.out with ⟨rfl, hrec⟩ | ⟨rfl, hrec⟩
    ·
     cases gk : (a.kind == 0)
     ·
      have hk1' : a.kind = 1 := by
       have : a.kind ≠ 0 := by simpa using gk
       omega
      have hrec2 : F.recs = l.recs.take ((a.n : Int) % ((l.recs.length : Int) + 1)).toNat := by rw [hrec, Htg.out, if_neg (by omega)]
      obtain ⟨kk, hkk2⟩ : ∃ kk : Nat, (a.n : Int) % ((l.recs.length : Int) + 1) = kk := ⟨((a.n : Int) % ((l.recs.length : Int) + 1)).toNat, by have := Int.emod_nonneg (a.n : Int) (b := (l.recs.length : Int) + 1) (by omega); omega⟩
      have hkl : kk ≤ l.recs.length := by have := Int.emod_lt_of_pos (a.n : Int) (b := (l.recs.length : Int) + 1) (by omega); omega
      rw [hkk2, Int.toNat_natCast] at hrec2
      have hflen : F.recs.length = kk := by rw [hrec2, List.length_take]; omega
      obtain ⟨hws', hwt'⟩ := SlR.takeK hvs hwt7 hkl
      rw [← hrec2] at hws' hwt'
      have p1 : IntKind.i64.wrap ((l.recs.length : Int) + 1) = (l.recs.length : Int) + 1 := IntWalk.i64_in _ (by omega)
      have p2 : ((l.recs.length : Int) + 1 == 0) = false := by rw [beq_eq_false_iff_ne]; omega
      have p3 : (a.n : Int).tmod ((l.recs.length : Int) + 1) = kk := by rw [Int.tmod_eq_emod_of_nonneg (by omega)]; exact hkk2
      have p4 := ok.n
      have hqc : kk ≤ vc := by
       rcases hvs with ⟨_, h, _⟩ | ⟨_, _, h, _⟩ <;> omega
      have hqc' : ¬ vc < kk := by omega
      have hqi : (kk : Int) ≤ (vc : Int) := by omega
      have Hfl := Lib.hid hflen
      have Hws := Lib.hid hws'
      have Hwt := Lib.hid hwt'
      clear hrec hrec2 hflen hws' hwt' hkk2 hwt7 HC Htg
      have hz0 : kk = 0 ∨ vo ≠ none := by
       by_cases h : vo = none
       ·
        left; have := (hvs.nil h).1; omega
       ·
        exact .inr h
      have hBz := hB7
      have hNz := hN7
      have zn := xn
      clear xn hB7 hN7 hbn
      generalize W7 = Wz at *
      rcases vo with _ | vad
      ·
       go_upto_region 16 with fail
       have hws0 := Hws.out
       have hwtz0 := Hwt.out
       obtain ⟨vo, hvo⟩ : ∃ v : Option Addr, v = none := ⟨_, rfl⟩
       rw [show Value.slice none kk vc = Value.slice vo kk vc by rw [hvo]]
       have hws : SlW vo F.recs.length vc := by rw [hvo]; exact hws0
       have hwtz : StrsAt (· < Wz.heap.size) Wz vo F.recs := by rw [hvo]; exact hwtz0
       rw [← Hfl.out]
       clear hvo hws0 hwtz0 Hws Hwt Hfl hqc hqc' hqi hz0 p1 p2 p3 hkl hvs za ca la
       have cn := zn.cell
       have ln := zn.lt
       have cr := zr.cell
       have lr := zr.lt
       have hDz : DskV Wz (.agg (dC F.disk p6 q6 m6 k6)) F.disk := by
        obtain ⟨_, _, _, _, _, _, e, hD, -, -⟩ := hNz
        simp only [Value.agg.injEq, Array.mk.injEq, List.cons.injEq, Value.slice.injEq, and_true, true_and] at e
        obtain ⟨⟨rfl, rfl⟩, ⟨rfl, rfl⟩, rfl, rfl⟩ := e
        exact hD
       have hopz := Hop.out _ _ hDz
       clear hDz
       go_wp2_with fail
       refine hopz.mono ?_
       rintro e w8 ⟨v8, rfl, hv8, hb8⟩
       have hv := hv8
       obtain ⟨p8, m8, q8, k8, r8, t8, rfl, -, -, -⟩ := hv8
       have hBo := Below.one w8 (.cells (lgC F.disk p8 q8 m8 k8 F.frm F.til F.ver r8 F.recs.length t8) 32)
       have xo := Bx.new w8 (lgC F.disk p8 q8 m8 k8 F.frm F.til F.ver r8 F.recs.length t8) 32
       have hb89 := btr hb8 hBo
       have ul := zl.belowAll hb89
       have ur := zr.belowAll hb89
       have un := zn.belowAll hb89
       have hO9 := hv.below hBo
       have hN9 := hNz.below hb89
       have hB9 := btr hBz hb89
       have hwt9 : StrsAt (· < (w8.alloc (.cells (lgC F.disk p8 q8 m8 k8 F.frm F.til F.ver r8 F.recs.length t8) 32)).heap.size) (w8.alloc (.cells (lgC F.disk p8 q8 m8 k8 F.frm F.til F.ver r8 F.recs.length t8) 32)) vo F.recs := (hwtz.below hb89).mono fun _ h => Nat.lt_of_lt_of_le h hb89.size
       have hs8 := hb8.size
       have hb08 : bn < w8.heap.size := Nat.lt_of_lt_of_le zn.lt hs8
       clear cn ln cr lr zl zr zn hNz hBz hwtz hv hBo hopz hb89
       go_upto_region 17 with fail
       obtain ⟨bo, hbo⟩ : ∃ b7, w8.heap.size = b7 := ⟨_, rfl⟩
       have hbo2 : bn < bo := by omega
       obtain ⟨W9, hW9⟩ : ∃ W7, w8.alloc (.cells (lgC F.disk p8 q8 m8 k8 F.frm F.til F.ver r8 F.recs.length t8) 32) = W7 := ⟨_, rfl⟩
       simp only [hW9, hbo] at *
       clear hW9 hb8 hs8 hb08
       obtain ⟨_, _, _, _, _, _, e, -, s1, t1⟩ := id hO9
       simp only [Value.agg.injEq, Array.mk.injEq, List.cons.injEq, Value.slice.injEq, and_true, true_and] at e
       obtain ⟨-, -, rfl, rfl⟩ := e
       obtain ⟨_, _, _, _, _, _, e, -, s2, t2⟩ := id hN9
       simp only [Value.agg.injEq, Array.mk.injEq, List.cons.injEq, Value.slice.injEq, and_true, true_and] at e
       obtain ⟨-, -, rfl, rfl⟩ := e
       have hq1 := fun W (hb : Below W9.heap.size W9 W) => sl_equal F.recs F.recs r8 vo t8 vc W (t1.below hb) (hwt9.below hb) (slw_len s1) (slw_len s1)
       have hq2 := fun W (hb : Below W9.heap.size W9 W) => sl_equal F.recs F.recs r6 vo t6 vc W (t2.below hb) (hwt9.below hb) (slw_len s1) (slw_len s1)
       simp only [decide_true] at hq1 hq2
       have HQ1 := Lib.hid hq1
       have HQ2 := Lib.hid hq2
       clear hq1 hq2 s1 t1 s2 t2 hO9
       have cn := un.cell
       have ln := un.lt
       have co9 := xo.cell
       have lo9 := xo.lt
       go_wp2_with fail
       refine (HQ1.out _ (Below.refl _ _)).mono ?_
       rintro e wA ⟨rfl, hbA⟩
       have vl := ul.belowAll hbA
       have vr := ur.belowAll hbA
       have vn := un.belowAll hbA
       have vo9 := xo.belowAll hbA
       clear cn ln co9 lo9
       have cn := vn.cell
       have ln := vn.lt
       have co9 := vo9.cell
       have lo9 := vo9.lt
       go_wp2_with fail
       refine (HQ2.out _ hbA).mono ?_
       rintro e wB ⟨rfl, hbB⟩
       have hbB' := btr hbA hbB
       have xl := ul.belowAll hbB'
       have xr := ur.belowAll hbB'
       have xn := un.belowAll hbB'
       have xo9 := xo.belowAll hbB'
       have hNB := hN9.below hbB'
       have hBB := btr hB9 hbB'
       have hwtB : StrsAt (· < wB.heap.size) wB vo F.recs := (hwt9.below hbB').mono fun _ h => Nat.lt_of_lt_of_le h hbB'.size
       clear cn ln co9 lo9 vl vr vn vo9 hbA hbB hbB' ul ur un xo hN9 hB9 hwt9 HQ1 HQ2
       have cn := xn.cell
       have ln := xn.lt
       have cl := xl.cell
       have ll := xl.lt
       have fl := xl.free
       have co9 := xo9.cell
       have lo9 := xo9.lt
       obtain ⟨Wf, hWf⟩ : ∃ Wf, st8 wB b (.int .i64 F.disk.size) (.slice p6 F.disk.pages.length m6) (.slice q6 F.disk.cache.length k6) (.int .i64 F.disk.left) (.int .i64 F.frm) (.int .i64 F.til) (.int .i64 F.ver) (.slice r6 F.recs.length t6) = Wf := ⟨_, rfl⟩
       have ho : Only b wB Wf := by subst hWf; exact Only.eight
       have hnS := noS_lg l.disk.size l.disk.left l.frm l.til l.ver po co ro l.disk.pages.length l.disk.cache.length l.recs.length pc cc rc
       have xf : Bx Wf b (lgC F.disk p6 q6 m6 k6 F.frm F.til F.ver r6 F.recs.length t6) 32 := by subst hWf; exact xl.set8
       have hBf : Below w.heap.size w Wf := by subst hWf; exact below_set8 hBB (by omega)
       have hVf := hNB.only xl hnS ho
       have hrf := xr.only ho (by omega)
       have hwtf := hwtB.only xl hnS ho
       have HR := Lib.hid (And.intro hBf (And.intro hrf (And.intro xf (And.intro hVf hwtf))))
       clear hBf xf hVf hrf hwtf ho hNB xl xr hBB hwtB xn xo9 hnS
       unfold st8 at hWf
       go_wp2
       go_roundw
       case rel => exact ⟨k + 1, F, p6, q6, r6, vo, m6, k6, t6, vc, by omega, by go_num, rfl, hws, HR.out.2.2.2.2, HG, HR.out.1, HR.out.2.1, HR.out.2.2.1, HR.out.2.2.2.1⟩
       case measure => simp [intOf]; omega
      ·
       go_upto_region 16 with fail
       have hws := Hws.out
       have hwtz := Hwt.out
       clear Hws Hwt hz0 hvs
       generalize (some vad : Option Addr) = vo at *
       rw [← Hfl.out]
       clear Hfl hqc hqc' hqi p1 p2 p3 hkl za ca la
       have cn := zn.cell
       have ln := zn.lt
       have cr := zr.cell
       have lr := zr.lt
       have hDz : DskV Wz (.agg (dC F.disk p6 q6 m6 k6)) F.disk := by
        obtain ⟨_, _, _, _, _, _, e, hD, -, -⟩ := hNz
        simp only [Value.agg.injEq, Array.mk.injEq, List.cons.injEq, Value.slice.injEq, and_true, true_and] at e
        obtain ⟨⟨rfl, rfl⟩, ⟨rfl, rfl⟩, rfl, rfl⟩ := e
        exact hD
       have hopz := Hop.out _ _ hDz
       clear hDz
       go_wp2_with fail
       refine hopz.mono ?_
       rintro e w8 ⟨v8, rfl, hv8, hb8⟩
       have hv := hv8
       obtain ⟨p8, m8, q8, k8, r8, t8, rfl, -, -, -⟩ := hv8
       have hBo := Below.one w8 (.cells (lgC F.disk p8 q8 m8 k8 F.frm F.til F.ver r8 F.recs.length t8) 32)
       have xo := Bx.new w8 (lgC F.disk p8 q8 m8 k8 F.frm F.til F.ver r8 F.recs.length t8) 32
       have hb89 := btr hb8 hBo
       have ul := zl.belowAll hb89
       have ur := zr.belowAll hb89
       have un := zn.belowAll hb89
       have hO9 := hv.below hBo
       have hN9 := hNz.below hb89
       have hB9 := btr hBz hb89
       have hwt9 : StrsAt (· < (w8.alloc (.cells (lgC F.disk p8 q8 m8 k8 F.frm F.til F.ver r8 F.recs.length t8) 32)).heap.size) (w8.alloc (.cells (lgC F.disk p8 q8 m8 k8 F.frm F.til F.ver r8 F.recs.length t8) 32)) vo F.recs := (hwtz.below hb89).mono fun _ h => Nat.lt_of_lt_of_le h hb89.size
       have hs8 := hb8.size
       have hb08 : bn < w8.heap.size := Nat.lt_of_lt_of_le zn.lt hs8
       clear cn ln cr lr zl zr zn hNz hBz hwtz hv hBo hopz hb89
       go_upto_region 17 with fail
       obtain ⟨bo, hbo⟩ : ∃ b7, w8.heap.size = b7 := ⟨_, rfl⟩
       have hbo2 : bn < bo := by omega
       obtain ⟨W9, hW9⟩ : ∃ W7, w8.alloc (.cells (lgC F.disk p8 q8 m8 k8 F.frm F.til F.ver r8 F.recs.length t8) 32) = W7 := ⟨_, rfl⟩
       simp only [hW9, hbo] at *
       clear hW9 hb8 hs8 hb08
       obtain ⟨_, _, _, _, _, _, e, -, s1, t1⟩ := id hO9
       simp only [Value.agg.injEq, Array.mk.injEq, List.cons.injEq, Value.slice.injEq, and_true, true_and] at e
       obtain ⟨-, -, rfl, rfl⟩ := e
       obtain ⟨_, _, _, _, _, _, e, -, s2, t2⟩ := id hN9
       simp only [Value.agg.injEq, Array.mk.injEq, List.cons.injEq, Value.slice.injEq, and_true, true_and] at e
       obtain ⟨-, -, rfl, rfl⟩ := e
       have hq1 := fun W (hb : Below W9.heap.size W9 W) => sl_equal F.recs F.recs r8 vo t8 vc W (t1.below hb) (hwt9.below hb) (slw_len s1) (slw_len s1)
       have hq2 := fun W (hb : Below W9.heap.size W9 W) => sl_equal F.recs F.recs r6 vo t6 vc W (t2.below hb) (hwt9.below hb) (slw_len s1) (slw_len s1)
       simp only [decide_true] at hq1 hq2
       have HQ1 := Lib.hid hq1
       have HQ2 := Lib.hid hq2
       clear hq1 hq2 s1 t1 s2 t2 hO9
       have cn := un.cell
       have ln := un.lt
       have co9 := xo.cell
       have lo9 := xo.lt
       go_wp2_with fail
       refine (HQ1.out _ (Below.refl _ _)).mono ?_
       rintro e wA ⟨rfl, hbA⟩
       have vl := ul.belowAll hbA
       have vr := ur.belowAll hbA
       have vn := un.belowAll hbA
       have vo9 := xo.belowAll hbA
       clear cn ln co9 lo9
       have cn := vn.cell
       have ln := vn.lt
       have co9 := vo9.cell
       have lo9 := vo9.lt
       go_wp2_with fail
       refine (HQ2.out _ hbA).mono ?_
       rintro e wB ⟨rfl, hbB⟩
       have hbB' := btr hbA hbB
       have xl := ul.belowAll hbB'
       have xr := ur.belowAll hbB'
       have xn := un.belowAll hbB'
       have xo9 := xo.belowAll hbB'
       have hNB := hN9.below hbB'
       have hBB := btr hB9 hbB'
       have hwtB : StrsAt (· < wB.heap.size) wB vo F.recs := (hwt9.below hbB').mono fun _ h => Nat.lt_of_lt_of_le h hbB'.size
       clear cn ln co9 lo9 vl vr vn vo9 hbA hbB hbB' ul ur un xo hN9 hB9 hwt9 HQ1 HQ2
       have cn := xn.cell
       have ln := xn.lt
       have cl := xl.cell
       have ll := xl.lt
       have fl := xl.free
       have co9 := xo9.cell
       have lo9 := xo9.lt
       obtain ⟨Wf, hWf⟩ : ∃ Wf, st8 wB b (.int .i64 F.disk.size) (.slice p6 F.disk.pages.length m6) (.slice q6 F.disk.cache.length k6) (.int .i64 F.disk.left) (.int .i64 F.frm) (.int .i64 F.til) (.int .i64 F.ver) (.slice r6 F.recs.length t6) = Wf := ⟨_, rfl⟩
       have ho : Only b wB Wf := by subst hWf; exact Only.eight
       have hnS := noS_lg l.disk.size l.disk.left l.frm l.til l.ver po co ro l.disk.pages.length l.disk.cache.length l.recs.length pc cc rc
       have xf : Bx Wf b (lgC F.disk p6 q6 m6 k6 F.frm F.til F.ver r6 F.recs.length t6) 32 := by subst hWf; exact xl.set8
       have hBf : Below w.heap.size w Wf := by subst hWf; exact below_set8 hBB (by omega)
       have hVf := hNB.only xl hnS ho
       have hrf := xr.only ho (by omega)
       have hwtf := hwtB.only xl hnS ho
       have HR := Lib.hid (And.intro hBf (And.intro hrf (And.intro xf (And.intro hVf hwtf))))
       clear hBf xf hVf hrf hwtf ho hNB xl xr hBB hwtB xn xo9 hnS
       unfold st8 at hWf
       go_wp2
       go_roundw
       case rel => exact ⟨k + 1, F, p6, q6, r6, vo, m6, k6, t6, vc, by omega, by go_num, rfl, hws, HR.out.2.2.2.2, HG, HR.out.1, HR.out.2.1, HR.out.2.2.1, HR.out.2.2.2.1⟩
       case measure => simp [intOf]; omega
     ·
      have hk0' : a.kind = 0 := by simpa using gk
      have hrec2 : F.recs = l.recs ++ a.recs := by rw [hrec, Htg.out, if_pos hk0']
      obtain ⟨idg, hidg, hzd, hsd, hbyd⟩ := info_parts infoStrg
      have Hi := Lib.hid (And.intro hidg (And.intro hzd (And.intro hsd hbyd)))
      have hcl := fun W (hb : Below W7.heap.size W7 W) => sl_CloneO l.recs vo vc W (hwt7.below hb) hvs (by omega)
      have Hcl := Lib.hid hcl
      have Hrec2 := Lib.hid hrec2
      clear hcl hrec2 hrec hidg hzd hsd hbyd HC Htg hwt7 hvs
      have cQ := Lat.cells W7
      go_upto_region 13 with fail
      refine wp_region_lz 4 2 #[true, true, true, true, false, false] (fun i => if i = 1 then some (annOwnS W7.heap.size l.recs) else none) (by kernel_rfl) (by rfl) (by rfl) (by kernel_rfl) ?_
      simp only [List.take_succ_cons, List.take_zero]
      refine LW.block 1 1 (by rfl) (by kernel_rfl) (by kernel_rfl) ?_
      simp only [List.take_succ_cons, List.take_zero, List.drop_succ_cons, List.drop_zero]
      repeat (first | go_big_quiet_skip | (go_big_quiet_want; go_big_quiet_op; go_big_quiet_on))
      refine wpQuiet_nil ?_
      refine LW.lzy _ (by rfl) (by rfl) ?_ ?_
      ·
       intro yL _
       unfold lzAt
       go_simp
       exact Calls.mono (Hcl.out _ yL.h) fun e w' ⟨u, he, ho, hb⟩ => ⟨u, he, hb, fun _ => u, rfl, fun w'' hb2 => ownsRow_belowAll (ownsRow_lowerS ho yL.h.size) hb2⟩
      intro r1
      simp only [Act.put, List.setIfInBounds_toArray, List.set_cons_zero, List.set_cons_succ, annOwnS]
      refine LW.block 2 4 (by rfl) (by kernel_rfl) (by kernel_rfl) ?_
      simp only [List.take_succ_cons, List.take_zero, List.drop_succ_cons, List.drop_zero]
      repeat (first | go_big_quiet_skip | (go_big_quiet_want; go_big_quiet_op; go_big_quiet_on))
      refine wpQuiet_nil ?_
      refine LW.done ?_
      intro W8 hG
      have ho8 : W8.ownsRow W7.heap.size 9 1 (r1.x 0) l.recs.length (l.recs.map .string) := hG.get 1 rfl rfl
      have hb8 := hG.below
      obtain ⟨vcl, hvcl⟩ : ∃ v, r1.x 0 = v := ⟨_, rfl⟩
      rw [hvcl] at ho8 ⊢
      have hrr := (ok.recs.below (btr hB7 hb8)).row
      have hn0 := ok.slr.nil
      clear hG cQ ca la hvcl Hcl
      refine wpAny_ready (rs := [4]) (by kernel_rfl) (by simp) ?_
      refine AllReady.cons rfl (fun K hK => ?_) AllReady.nil
      refine wp_app (.tmp 53) (.tmp 55) 27 rfl W7.heap.size 9 idg _ 1 16 Tryd.underlying27 Hi.out.1 Hi.out.2.1 Hi.out.2.2.1 Hi.out.2.2.2 rfl (by decide) vcl l.recs.length (l.recs.map .string) rfl ho8 so a.recs.length sc (a.recs.map .string) rfl hn0 (by simp) hrr (strs_one a.recs) (by unfold maxLen; omega) (by omega) hb8.size ?_
      intro v5 w5 ho5 hg5
      refine hK _ _ ?_
      clear hK K
      have hb5 : Below W7.heap.size W7 w5 := hb8.grown hg5 hb8.size (fun k e => (ho8.lt k e).1)
      have ho6 : w5.ownsRow W7.heap.size 9 1 v5 F.recs.length (F.recs.map .string) := by rw [Hrec2.out, List.length_append, List.map_append]; exact ho5
      obtain ⟨vo, vc, rfl, hws, hwtz⟩ := SlR.owns ho6
      clear ho5 ho6 ho8 hg5 hb8 hrr hn0
      refine wpAny_ready (rs := [5]) (by kernel_rfl) (by simp) ?_
      refine AllReady.cons rfl (fun K hK => ?_) AllReady.nil
      go_simp
      refine hK _ _ ?_
      clear hK K
      refine wpAny_done (by kernel_rfl) ?_ _
      have zl := zl.belowAll hb5
      have zr := zr.belowAll hb5
      have zn := xn.belowAll hb5
      have hNz := hN7.below hb5
      have hBz := btr hB7 hb5
      clear hb5 Hi Hrec2 xn hN7 hB7 za
      generalize w5 = Wz at *
      have cn := zn.cell
      have ln := zn.lt
      have cr := zr.cell
      have lr := zr.lt
      have hDz : DskV Wz (.agg (dC F.disk p6 q6 m6 k6)) F.disk := by
       obtain ⟨_, _, _, _, _, _, e, hD, -, -⟩ := hNz
       simp only [Value.agg.injEq, Array.mk.injEq, List.cons.injEq, Value.slice.injEq, and_true, true_and] at e
       obtain ⟨⟨rfl, rfl⟩, ⟨rfl, rfl⟩, rfl, rfl⟩ := e
       exact hD
      have hopz := Hop.out _ _ hDz
      clear hDz
      go_wp2_with fail
      refine hopz.mono ?_
      rintro e w8 ⟨v8, rfl, hv8, hb8⟩
      have hv := hv8
      obtain ⟨p8, m8, q8, k8, r8, t8, rfl, -, -, -⟩ := hv8
      have hBo := Below.one w8 (.cells (lgC F.disk p8 q8 m8 k8 F.frm F.til F.ver r8 F.recs.length t8) 32)
      have xo := Bx.new w8 (lgC F.disk p8 q8 m8 k8 F.frm F.til F.ver r8 F.recs.length t8) 32
      have hb89 := btr hb8 hBo
      have ul := zl.belowAll hb89
      have ur := zr.belowAll hb89
      have un := zn.belowAll hb89
      have hO9 := hv.below hBo
      have hN9 := hNz.below hb89
      have hB9 := btr hBz hb89
      have hwt9 : StrsAt (· < (w8.alloc (.cells (lgC F.disk p8 q8 m8 k8 F.frm F.til F.ver r8 F.recs.length t8) 32)).heap.size) (w8.alloc (.cells (lgC F.disk p8 q8 m8 k8 F.frm F.til F.ver r8 F.recs.length t8) 32)) vo F.recs := (hwtz.below hb89).mono fun _ h => Nat.lt_of_lt_of_le h hb89.size
      have hs8 := hb8.size
      have hb08 : bn < w8.heap.size := Nat.lt_of_lt_of_le zn.lt hs8
      clear cn ln cr lr zl zr zn hNz hBz hwtz hv hBo hopz hb89
      go_upto_region 17 with fail
      obtain ⟨bo, hbo⟩ : ∃ b7, w8.heap.size = b7 := ⟨_, rfl⟩
      have hbo2 : bn < bo := by omega
      obtain ⟨W9, hW9⟩ : ∃ W7, w8.alloc (.cells (lgC F.disk p8 q8 m8 k8 F.frm F.til F.ver r8 F.recs.length t8) 32) = W7 := ⟨_, rfl⟩
      simp only [hW9, hbo] at *
      clear hW9 hb8 hs8 hb08
      obtain ⟨_, _, _, _, _, _, e, -, s1, t1⟩ := id hO9
      simp only [Value.agg.injEq, Array.mk.injEq, List.cons.injEq, Value.slice.injEq, and_true, true_and] at e
      obtain ⟨-, -, rfl, rfl⟩ := e
      obtain ⟨_, _, _, _, _, _, e, -, s2, t2⟩ := id hN9
      simp only [Value.agg.injEq, Array.mk.injEq, List.cons.injEq, Value.slice.injEq, and_true, true_and] at e
      obtain ⟨-, -, rfl, rfl⟩ := e
      have hq1 := fun W (hb : Below W9.heap.size W9 W) => sl_equal F.recs F.recs r8 vo t8 vc W (t1.below hb) (hwt9.below hb) (slw_len s1) (slw_len s1)
      have hq2 := fun W (hb : Below W9.heap.size W9 W) => sl_equal F.recs F.recs r6 vo t6 vc W (t2.below hb) (hwt9.below hb) (slw_len s1) (slw_len s1)
      simp only [decide_true] at hq1 hq2
      have HQ1 := Lib.hid hq1
      have HQ2 := Lib.hid hq2
      clear hq1 hq2 s1 t1 s2 t2 hO9
      have cn := un.cell
      have ln := un.lt
      have co9 := xo.cell
      have lo9 := xo.lt
      go_wp2_with fail
      refine (HQ1.out _ (Below.refl _ _)).mono ?_
      rintro e wA ⟨rfl, hbA⟩
      have vl := ul.belowAll hbA
      have vr := ur.belowAll hbA
      have vn := un.belowAll hbA
      have vo9 := xo.belowAll hbA
      clear cn ln co9 lo9
      have cn := vn.cell
      have ln := vn.lt
      have co9 := vo9.cell
      have lo9 := vo9.lt
      go_wp2_with fail
      refine (HQ2.out _ hbA).mono ?_
      rintro e wB ⟨rfl, hbB⟩
      have hbB' := btr hbA hbB
      have xl := ul.belowAll hbB'
      have xr := ur.belowAll hbB'
      have xn := un.belowAll hbB'
      have xo9 := xo.belowAll hbB'
      have hNB := hN9.below hbB'
      have hBB := btr hB9 hbB'
      have hwtB : StrsAt (· < wB.heap.size) wB vo F.recs := (hwt9.below hbB').mono fun _ h => Nat.lt_of_lt_of_le h hbB'.size
      clear cn ln co9 lo9 vl vr vn vo9 hbA hbB hbB' ul ur un xo hN9 hB9 hwt9 HQ1 HQ2
      have cn := xn.cell
      have ln := xn.lt
      have cl := xl.cell
      have ll := xl.lt
      have fl := xl.free
      have co9 := xo9.cell
      have lo9 := xo9.lt
      obtain ⟨Wf, hWf⟩ : ∃ Wf, st8 wB b (.int .i64 F.disk.size) (.slice p6 F.disk.pages.length m6) (.slice q6 F.disk.cache.length k6) (.int .i64 F.disk.left) (.int .i64 F.frm) (.int .i64 F.til) (.int .i64 F.ver) (.slice r6 F.recs.length t6) = Wf := ⟨_, rfl⟩
      have ho : Only b wB Wf := by subst hWf; exact Only.eight
      have hnS := noS_lg l.disk.size l.disk.left l.frm l.til l.ver po co ro l.disk.pages.length l.disk.cache.length l.recs.length pc cc rc
      have xf : Bx Wf b (lgC F.disk p6 q6 m6 k6 F.frm F.til F.ver r6 F.recs.length t6) 32 := by subst hWf; exact xl.set8
      have hBf : Below w.heap.size w Wf := by subst hWf; exact below_set8 hBB (by omega)
      have hVf := hNB.only xl hnS ho
      have hrf := xr.only ho (by omega)
      have hwtf := hwtB.only xl hnS ho
      have HR := Lib.hid (And.intro hBf (And.intro hrf (And.intro xf (And.intro hVf hwtf))))
      clear hBf xf hVf hrf hwtf ho hNB xl xr hBB hwtB xn xo9 hnS
      unfold st8 at hWf
      go_wp2
      go_roundw
      case rel => exact ⟨k + 1, F, p6, q6, r6, vo, m6, k6, t6, vc, by omega, by go_num, rfl, hws, HR.out.2.2.2.2, HG, HR.out.1, HR.out.2.1, HR.out.2.2.1, HR.out.2.2.2.1⟩
      case measure => simp [intOf]; omega
    ·
     have hln : l.recs.length = F.recs.length := by rw [hrec]
     have hws := hvs
     have hwtz := hwt7
     rw [← hrec] at hws hwtz
     have hBz := hB7
     have hNz := hN7
     have zn := xn
     clear hvs hwt7 xn hB7 hN7 za hrec HC Htg
     generalize W7 = Wz at *
     rw [hln]
     clear hln
     have cn := zn.cell
     have ln := zn.lt
     have cr := zr.cell
     have lr := zr.lt
     have hDz : DskV Wz (.agg (dC F.disk p6 q6 m6 k6)) F.disk := by
      obtain ⟨_, _, _, _, _, _, e, hD, -, -⟩ := hNz
      simp only [Value.agg.injEq, Array.mk.injEq, List.cons.injEq, Value.slice.injEq, and_true, true_and] at e
      obtain ⟨⟨rfl, rfl⟩, ⟨rfl, rfl⟩, rfl, rfl⟩ := e
      exact hD
     have hopz := Hop.out _ _ hDz
     clear hDz
     go_wp2_with fail
     refine hopz.mono ?_
     rintro e w8 ⟨v8, rfl, hv8, hb8⟩
     have hv := hv8
     obtain ⟨p8, m8, q8, k8, r8, t8, rfl, -, -, -⟩ := hv8
     have hBo := Below.one w8 (.cells (lgC F.disk p8 q8 m8 k8 F.frm F.til F.ver r8 F.recs.length t8) 32)
     have xo := Bx.new w8 (lgC F.disk p8 q8 m8 k8 F.frm F.til F.ver r8 F.recs.length t8) 32
     have hb89 := btr hb8 hBo
     have ul := zl.belowAll hb89
     have ur := zr.belowAll hb89
     have un := zn.belowAll hb89
     have hO9 := hv.below hBo
     have hN9 := hNz.below hb89
     have hB9 := btr hBz hb89
     have hwt9 : StrsAt (· < (w8.alloc (.cells (lgC F.disk p8 q8 m8 k8 F.frm F.til F.ver r8 F.recs.length t8) 32)).heap.size) (w8.alloc (.cells (lgC F.disk p8 q8 m8 k8 F.frm F.til F.ver r8 F.recs.length t8) 32)) vo F.recs := (hwtz.below hb89).mono fun _ h => Nat.lt_of_lt_of_le h hb89.size
     have hs8 := hb8.size
     have hb08 : bn < w8.heap.size := Nat.lt_of_lt_of_le zn.lt hs8
     clear cn ln cr lr zl zr zn hNz hBz hwtz hv hBo hopz hb89
     go_upto_region 17 with fail
     obtain ⟨bo, hbo⟩ : ∃ b7, w8.heap.size = b7 := ⟨_, rfl⟩
     have hbo2 : bn < bo := by omega
     obtain ⟨W9, hW9⟩ : ∃ W7, w8.alloc (.cells (lgC F.disk p8 q8 m8 k8 F.frm F.til F.ver r8 F.recs.length t8) 32) = W7 := ⟨_, rfl⟩
     simp only [hW9, hbo] at *
     clear hW9 hb8 hs8 hb08
     obtain ⟨_, _, _, _, _, _, e, -, s1, t1⟩ := id hO9
     simp only [Value.agg.injEq, Array.mk.injEq, List.cons.injEq, Value.slice.injEq, and_true, true_and] at e
     obtain ⟨-, -, rfl, rfl⟩ := e
     obtain ⟨_, _, _, _, _, _, e, -, s2, t2⟩ := id hN9
     simp only [Value.agg.injEq, Array.mk.injEq, List.cons.injEq, Value.slice.injEq, and_true, true_and] at e
     obtain ⟨-, -, rfl, rfl⟩ := e
     have hq1 := fun W (hb : Below W9.heap.size W9 W) => sl_equal F.recs F.recs r8 vo t8 vc W (t1.below hb) (hwt9.below hb) (slw_len s1) (slw_len s1)
     have hq2 := fun W (hb : Below W9.heap.size W9 W) => sl_equal F.recs F.recs r6 vo t6 vc W (t2.below hb) (hwt9.below hb) (slw_len s1) (slw_len s1)
     simp only [decide_true] at hq1 hq2
     have HQ1 := Lib.hid hq1
     have HQ2 := Lib.hid hq2
     clear hq1 hq2 s1 t1 s2 t2 hO9
     have cn := un.cell
     have ln := un.lt
     have co9 := xo.cell
     have lo9 := xo.lt
     go_wp2_with fail
     refine (HQ1.out _ (Below.refl _ _)).mono ?_
     rintro e wA ⟨rfl, hbA⟩
     have vl := ul.belowAll hbA
     have vr := ur.belowAll hbA
     have vn := un.belowAll hbA
     have vo9 := xo.belowAll hbA
     clear cn ln co9 lo9
     have cn := vn.cell
     have ln := vn.lt
     have co9 := vo9.cell
     have lo9 := vo9.lt
     go_wp2_with fail
     refine (HQ2.out _ hbA).mono ?_
     rintro e wB ⟨rfl, hbB⟩
     have hbB' := btr hbA hbB
     have xl := ul.belowAll hbB'
     have xr := ur.belowAll hbB'
     have xn := un.belowAll hbB'
     have xo9 := xo.belowAll hbB'
     have hNB := hN9.below hbB'
     have hBB := btr hB9 hbB'
     have hwtB : StrsAt (· < wB.heap.size) wB vo F.recs := (hwt9.below hbB').mono fun _ h => Nat.lt_of_lt_of_le h hbB'.size
     clear cn ln co9 lo9 vl vr vn vo9 hbA hbB hbB' ul ur un xo hN9 hB9 hwt9 HQ1 HQ2
     have cn := xn.cell
     have ln := xn.lt
     have cl := xl.cell
     have ll := xl.lt
     have fl := xl.free
     have co9 := xo9.cell
     have lo9 := xo9.lt
     obtain ⟨Wf, hWf⟩ : ∃ Wf, st8 wB b (.int .i64 F.disk.size) (.slice p6 F.disk.pages.length m6) (.slice q6 F.disk.cache.length k6) (.int .i64 F.disk.left) (.int .i64 F.frm) (.int .i64 F.til) (.int .i64 F.ver) (.slice r6 F.recs.length t6) = Wf := ⟨_, rfl⟩
     have ho : Only b wB Wf := by subst hWf; exact Only.eight
     have hnS := noS_lg l.disk.size l.disk.left l.frm l.til l.ver po co ro l.disk.pages.length l.disk.cache.length l.recs.length pc cc rc
     have xf : Bx Wf b (lgC F.disk p6 q6 m6 k6 F.frm F.til F.ver r6 F.recs.length t6) 32 := by subst hWf; exact xl.set8
     have hBf : Below w.heap.size w Wf := by subst hWf; exact below_set8 hBB (by omega)
     have hVf := hNB.only xl hnS ho
     have hrf := xr.only ho (by omega)
     have hwtf := hwtB.only xl hnS ho
     have HR := Lib.hid (And.intro hBf (And.intro hrf (And.intro xf (And.intro hVf hwtf))))
     clear hBf xf hVf hrf hwtf ho hNB xl xr hBB hwtB xn xo9 hnS
     unfold st8 at hWf
     go_wp2
     go_roundw
     case rel => exact ⟨k + 1, F, p6, q6, r6, vo, m6, k6, t6, vc, by omega, by go_num, rfl, hws, HR.out.2.2.2.2, HG, HR.out.1, HR.out.2.1, HR.out.2.2.1, HR.out.2.2.2.1⟩
     case measure => simp [intOf]; omega
   ·
    clear hg hV
    have hB2 := hB
    go_wp2_with fail
    refine (law41_awake _ (hT.below hB2)).mono ?_
    rintro e w3 ⟨rfl, hb3⟩
    go_wp2
    go_ret
    exact ⟨rfl, btr hB2 hb3⟩
end Go.Proofs.YtghikgjknhjjgaaDoor
namespace Go.Proofs.YtghikgjknhjjgaaDoor
set_option maxRecDepth 100000
open Go.RowKit Go.ChangeShapes Go.WideShapes
section
variable {H : Type} {enc : TypeId × Value → H} {W : World} {base : Nat} {sp : Nat → Bool} {held : Bool}
theorem weights_of_all {P : Program} {e : TypeId} : ∀ {l : List (DataW H)} {d : DataW H}, d ∈ l → ∀ n ∈ d.weights P e, n ∈ DataW.weightsAll P e l
 | x :: l, d, h, n, hn => by
  rw [DataW.weightsAll, List.mem_append]
  rcases List.mem_cons.1 h with rfl | h
  ·
   exact .inl hn
  ·
   exact .inr (weights_of_all h n hn)
theorem weights_str {P : Program} {e : TypeId} (bs : List UInt8) : (DataW.lit (.string bs) : DataW H).weights P e = [bs.length] := by rw [DataW.weights]
theorem cellsOf_one9 : Tryd.prog.cellsOf 9 = 1 := by kernel_rfl
theorem cellsOf_int : Tryd.prog.cellsOf 3 = 1 := by kernel_rfl
theorem cellsOf_pw : Tryd.prog.cellsOf 84 = 2 := by kernel_rfl
theorem cellsOf_disk : Tryd.prog.cellsOf 30 = 4 := by kernel_rfl
theorem bytes_str : Tryd.prog.bytesOf 9 = 16 := by kernel_rfl
theorem bytes_pw : Tryd.prog.bytesOf 84 = 24 := by kernel_rfl
theorem bytes_int : Tryd.prog.bytesOf 3 = 8 := by kernel_rfl
theorem addr_form {w : World} {a : Addr} {v : Value} (h : w.cell? a = some v) : ∃ b off, a = ⟨b, off, none⟩ := by
 have := World.cell?_spot h
 cases a; cases this; exact ⟨_, _, rfl⟩
/-- []string -/
theorem open_strs {n : Nat} {v : Value} {y : DataW H × List MemPlace} (h : DataW.trod enc Tryd.prog W base sp held n 27 [v] = some y) (hw : ∀ k ∈ y.1.weights Tryd.prog 27, k ≤ reachBytes) :
  ∃ (o : Option Addr) (l : List ByteArray) (c : Nat), v = .slice o l.length c ∧ SlW o l.length c ∧ StrsAt (· < W.heap.size) W o l ∧ l.length * 16 ≤ 140737488351232 ∧ ∀ s ∈ l, s.size ≤ 140737488351232 := by
 rcases open_strings Tryd.underlying27 Tryd.underlying9 cellsOf_one9 h with ⟨e, _⟩ | ⟨a, len, cap, ss, e, hb, hl, hm, hss, hx, hcell, _⟩
 ·
  cases e
  exact ⟨none, [], 0, rfl, .inl ⟨rfl, rfl, rfl⟩, by intro i hi; simp at hi, by simp, by simp⟩
 ·
  cases e
  have hle : len ≤ ss.length := by rw [hss]; split <;> omega
  have hlen : (ss.take len).length = len := by simp; omega
  rw [hx] at hw
  have e1 := hw _ (by rw [DataW.weights, Tryd.underlying27]; exact List.mem_cons_self)
  rw [bytes_str] at e1
  simp [strs, reachBytes] at e1
  refine ⟨some a, ss.take len, cap, by rw [hlen], .inr ⟨a, rfl, by rw [hlen]; exact hl, hm⟩, ?_, by rw [hlen]; omega, ?_⟩
  ·
   intro i hi
   rw [hlen] at hi
   have h0 := hcell 0 (by omega)
   obtain ⟨b, off, rfl⟩ := addr_form (a := a) (by simpa [Addr.add] using h0)
   have hc := hcell i (by omega)
   rw [Addr.add_lit] at hc
   refine ⟨b, off, rfl, ?_, World.block_lt_of_cell? W _ hc⟩
   rw [hc]
   simp [List.getD, List.getElem?_eq_getElem (show i < ss.length by omega)]
  ·
   intro s hs
   have := hw s.size (by
    rw [DataW.weights, Tryd.underlying27]
    refine List.mem_cons_of_mem _ (List.mem_append.2 (.inl (weights_of_all (d := .lit (.string s.data.toList)) ?_ _ ?_)))
    ·
     exact List.mem_map.2 ⟨s, hs, rfl⟩
    ·
     rw [weights_str]; exact List.mem_singleton.2 (by simp))
   exact this
theorem open_pws {n : Nat} {v : Value} {y : DataW H × List MemPlace} (h : DataW.trod enc Tryd.prog W base sp held n 28 [v] = some y) (hw : ∀ k ∈ y.1.weights Tryd.prog 28, k ≤ reachBytes) :
  ∃ (o : Option Addr) (l : List PW) (c : Nat), v = .slice o l.length c ∧ SlW o l.length c ∧ PWsAt (· < W.heap.size) W o l ∧ l.length * 24 ≤ 140737488351232 ∧ ∀ x ∈ l, x.data.size ≤ 140737488351232 := by
 rcases Deep.open_slice_pairs Tryd.underlying28 Tryd.underlying84 cellsOf_pw rfl rfl cellsOf_int cellsOf_one9 h with ⟨e, _⟩ | ⟨a, len, cap, m, n, V0, V1, D0, D1, P0, P1, e, hb, hl, hm, hmm, hx, hall⟩
 ·
  cases e
  exact ⟨none, [], 0, rfl, .inl ⟨rfl, rfl, rfl⟩, by intro i hi; simp at hi, by simp, by simp⟩
 ·
  cases e
  have hle : len ≤ m := by rw [hmm]; split <;> omega
  rw [hx] at hw
  have e1 := hw _ (by rw [DataW.weights, Tryd.underlying28]; exact List.mem_cons_self)
  rw [bytes_pw] at e1
  simp [reachBytes] at e1
  have each : ∀ i, i < len → ∃ x : Int × ByteArray, W.cell? (a.add (i * 2)) = some (.int .i64 x.1) ∧ W.cell? (a.add (i * 2 + 1)) = some (.string x.2) ∧ D1 i = .lit (.string x.2.data.toList) := by
   intro i hi
   obtain ⟨c0, c1, t0, t1⟩ := hall i (by omega)
   obtain ⟨q, e0, _, _⟩ := DataW.trod_int Tryd.underlying3 t0
   obtain ⟨s, e1, e2, _⟩ := DataW.trod_string Tryd.underlying9 t1
   exact ⟨(q, s), by rw [c0, (List.cons.inj e0).1], by rw [c1, (List.cons.inj e1).1], congrArg Prod.fst e2⟩
  obtain ⟨X, hX⟩ := Deep.choose_lt each
  refine ⟨some a, (List.range len).map (fun i => ⟨(X i).1, (X i).2⟩), cap, by simp, .inr ⟨a, rfl, by simpa using hl, hm⟩, ?_, by simp; omega, ?_⟩
  ·
   intro i hi
   have hi' : i < len := by simpa using hi
   obtain ⟨c0, c1, _⟩ := hX i hi'
   have hz := (hX 0 (by omega)).1
   obtain ⟨b, off, rfl⟩ := addr_form (a := a) (by simpa [Addr.add] using hz)
   rw [Addr.add_lit] at c0 c1
   exact ⟨b, off, rfl, by simpa using c0, by simpa [Nat.add_assoc] using c1, World.block_lt_of_cell? W _ c0⟩
  ·
   intro x hx'
   obtain ⟨i, hi, rfl⟩ := List.mem_map.1 hx'
   have hi' : i < len := by simpa using hi
   have := hw (X i).2.size (by
    rw [DataW.weights, Tryd.underlying28]
    refine List.mem_cons_of_mem _ (List.mem_append.2 (.inl (weights_of_all (d := .agg [D0 i, D1 i]) (List.mem_map.2 ⟨i, hi, rfl⟩) _ ?_)))
    rw [DataW.weights, Tryd.underlying84, (hX i hi').2.2]
    refine DataW.weights_mem_each (j := 1) (t := 9) (d := .lit (.string (X i).2.data.toList)) rfl rfl _ ?_
    rw [weights_str]; exact List.mem_singleton.2 (by simp))
   exact this
set_option maxRecDepth 100000 in
theorem open_disk {r : Reach} {b0 : Nat} {v : Value} {d : DataW H} {p : List MemPlace} (hv : Value.okWide Tryd.prog W r b0 30 v) (h : DataW.Trod enc Tryd.prog W base sp held 30 v d p) (hw : ∀ k ∈ d.weights Tryd.prog 30, k ≤ reachBytes) :
  ∃ x : Dsk, DskR (· < W.heap.size) W v x := by
 obtain ⟨v0, v1, v2, v3, y0, y1, y2, y3, n, rfl, rfl, _, h0, h1, h2, h3⟩ := Go.Joins.open_agg4 Tryd.underlying30 (by kernel_rfl) cellsOf_disk hv h
 rw [DataW.weights, Tryd.underlying30] at hw
 obtain ⟨size, e0, _, _⟩ := DataW.trod_int Tryd.underlying3 h0
 obtain ⟨left, e3, _, wl⟩ := DataW.trod_int Tryd.underlying3 h3
 obtain rfl := (List.cons.inj e0).1
 obtain rfl := (List.cons.inj e3).1
 obtain ⟨po, pages, pc, rfl, s1, a1, l1, z1⟩ := open_strs h1 (fun k hk => hw k (DataW.weights_mem_each (j := 1) (t := 27) rfl rfl k hk))
 obtain ⟨co, cache, cc, rfl, s2, a2, l2, z2⟩ := open_pws h2 (fun k hk => hw k (DataW.weights_mem_each (j := 2) (t := 28) rfl rfl k hk))
 refine ⟨⟨size, pages, cache, left⟩, po, pc, co, cc, rfl, a1, a2, ⟨s1, s2, by simp only; omega, by simp only; omega, z1, z2, ?_⟩⟩
 simpa [Lit.wf, IntKind.min, IntKind.max, IntKind.signed, IntKind.bits] using wl
set_option maxRecDepth 100000 in
theorem open_ints {r : Reach} {b0 : Nat} {v : Value} {d : DataW H} {p : List MemPlace} (hv : Value.okWide Tryd.prog W r b0 36 v) (h : DataW.Trod enc Tryd.prog W base sp held 36 v d p) (hw : ∀ k ∈ d.weights Tryd.prog 36, k ≤ reachBytes) :
  ∃ (o : Option Addr) (l : List Int) (c : Nat), v = .slice o l.length c ∧ SlW o l.length c ∧ IntsAt (· < W.heap.size) W o l ∧ l.length * 8 ≤ 140737488351232 ∧ ∀ x ∈ l, -9223372036854775808 ≤ x ∧ x ≤ 9223372036854775807 := by
 obtain ⟨a0, len0, cap0, rfl⟩ := okWide_slice Tryd.underlying36 hv
 obtain ⟨fuel, hf⟩ := h
 rcases Deep.open_slice1 Tryd.underlying36 cellsOf_int hf with ⟨e, _⟩ | ⟨a, len, cap, m, n, V, D, Pl, e, hb, hl, hm, hmm, hx, hall⟩
 ·
  simp [Value.cells] at e
  obtain ⟨rfl, rfl, rfl⟩ := e
  exact ⟨none, [], 0, rfl, .inl ⟨rfl, rfl, rfl⟩, by intro i hi; simp at hi, by simp, by simp⟩
 ·
  simp [Value.cells] at e
  obtain ⟨rfl, rfl, rfl⟩ := e
  have hle : len0 ≤ m := by rw [hmm]; split <;> omega
  have hd : d = .slice ((List.range len0).map D) ((List.range (m - len0)).map fun j => D (len0 + j)) := congrArg Prod.fst hx
  subst hd
  have e1 := hw _ (by rw [DataW.weights, Tryd.underlying36]; exact List.mem_cons_self)
  rw [bytes_int] at e1
  simp [reachBytes] at e1
  have each : ∀ i, i < len0 → ∃ x : Int, W.cell? (a.add i) = some (.int .i64 x) ∧ -9223372036854775808 ≤ x ∧ x ≤ 9223372036854775807 := by
   intro i hi
   obtain ⟨c0, t0⟩ := hall i (by omega)
   obtain ⟨q, e0, _, wq⟩ := DataW.trod_int Tryd.underlying3 t0
   exact ⟨q, by rw [c0, (List.cons.inj e0).1], by simpa [Lit.wf, IntKind.min, IntKind.max, IntKind.signed, IntKind.bits] using wq⟩
  obtain ⟨X, hX⟩ := Deep.choose_lt each
  refine ⟨some a, (List.range len0).map X, cap0, by simp, .inr ⟨a, rfl, by simpa using hl, hm⟩, ?_, by simp; omega, ?_⟩
  ·
   intro i hi
   have hi' : i < len0 := by simpa using hi
   have c0 := (hX i hi').1
   have hz := (hX 0 (by omega)).1
   obtain ⟨b, off, rfl⟩ := addr_form (a := a) (by simpa [Addr.add] using hz)
   rw [Addr.add_lit] at c0
   exact ⟨b, off, rfl, by simpa using c0, World.block_lt_of_cell? W _ c0⟩
  ·
   intro x hx'
   obtain ⟨i, hi, rfl⟩ := List.mem_map.1 hx'
   exact (hX i (by simpa using hi)).2
end
end Go.Proofs.YtghikgjknhjjgaaDoor
