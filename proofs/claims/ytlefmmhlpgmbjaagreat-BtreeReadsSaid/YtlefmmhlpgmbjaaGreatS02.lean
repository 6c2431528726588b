/- Contracts of Write of layer 40, of the program's and the reference's, and of slices.Clone at lists of writes. DERIVED: THE SHELF's CONTRACTS AT THIS DUMP, IN PLAIN WORDS (tools/lay-plain.mjs out of 'TryzShelf.lean', which tools/lay-shelf.mjs wrote): THE SAME DECLARATIONS UNDER THE SAME NAMES: 'import', 'namespace', 'open', 'def', 'theorem' AND NOTHING ELSE: no command of the shelf's: FOR A HAND-IN. Each laying: the table of numbers ('.._ren') and one theorem, a field a fact of the dump's own or the kernel's comparison; each contract: ONE APPLICATION. Contracts of New of layer 40, of the program's and the reference's. A law for 'for .. := range f' where the body never leaves the loop and the iterator keeps a map of its own between two rounds: the round's word 'Kp' may speak of every block but the loop's own two. 'rangeFunc_run', the iterator knowing that no world between two rounds is smaller than its first. disk.contents (layer 40): the contract of its iterator: all pages of a valid disk with their contents, in order. slices.Backward over a slice of writes (layer 40): the contract of its iterator. -/
import Derived.Test.YtlefmmhlpgmbjaaGreatS01
import Derived.WalkSpells
import Derived.Shelf.Strings.Builder1
import Derived.Shelf.Strings.Builder2
import Derived.Shelf.Small.Bits
import Derived.Shelf.Small.Strs
import Derived.Shelf.Strings.BuilderF
import Derived.Shelf.Strings.BuilderK
import Derived.Shelf.Strings.Builder2Cap
import Derived.Shelf.Strconv.Itoa0
import Derived.Shelf.Strings.Prefix
import Derived.Shelf.Bits.Mul64
import Derived.Shelf.Strings.Repeat
import Derived.Shelf.Strings.BuilderCap
import Derived.Shelf.Slices.Equal
import Derived.Shelf.Slices.Empties2
import Derived.Test.YtlefmmhlpgmbjaaGreatProg
import Derived.Deep.RegionLaw
import Derived.RangeFuncNested
import Derived.RangeFuncBound
import Derived.RangeFuncCalls
import Derived.RangeFuncLeaves
import Derived.Shelf.Abstract
import Derived.WalkKit
import Derived.OwnWalkIn
import Derived.RangeFuncKeeps
import Derived.RangeFuncBox
import Derived.TacticsInMore
import Derived.LoopNIn
import Derived.LoopIn
import Derived.Maps.OwnIn
import Derived.Maps.StringElems
import Derived.Shelf.RegionOpen
namespace Go.Proofs.YtlefmmhlpgmbjaaGreat
set_option maxRecDepth 100000
open Go.RowKit
theorem zg0 : (Tryz.prog.info? 80).map (fun i => (i.zero, i.size, i.bytes)) = some (some (.agg #[.int .i64 0, .string .empty]), 2, 24) := by kernel_rfl
set_option maxHeartbeats 1000000 in
theorem zlo (w : World) {S : Nat -> Prop} (o : Option Addr) (l : List PW) (c : Nat) (hs : SlW o l.length c) (h : PWsAt S w o l) (hl : l.length <= 1000000) :
  Calls Tryz.prog 126 #[.slice o l.length c] w fun e w' => ∃ v, e = .returned v /\ w'.ownsRow w.heap.size 80 2 v l.length (zaP l) /\ Below w.heap.size w w' := by
 obtain ⟨i0, hi, hz0, hz1, hz2⟩ := info_parts zg0;have heql := fun (w : World) (a : Option Addr) (n c : Nat) => Lib.run_eql_slice_nil (P := Tryz.prog) w 23 80 a n c 0 0 Tryz.underlying23;rcases hs with ⟨rfl, hn, rfl⟩ | ⟨a, rfl, hnc, hcm⟩
 . have hl0 : l = [] := List.eq_nil_of_length_eq_zero hn;subst hl0;go_enter Tryz.func126, Tryz.ntmps126;go_wp2;go_ret;exact ⟨_, rfl, World.ownsRow_nil _ _ _ _, Below.refl _ _⟩
 . go_enter Tryz.func126, Tryz.ntmps126;go_wp2_with (at_builtin; refine zau rfl _ _ 23 rfl w.heap.size 80 i0 _ 2 24 Tryz.underlying23 hi hz0 hz1 hz2 rfl (by decide) _ 0 [] rfl (World.ownsRow_made w #[] 0 (Nat.le_refl _) (by simp [maxLen]) rfl) _ l.length c (zaP l) rfl (by intro e; cases e) (zc2 l) (h.row.below ((Below.refl _ _).alloc (Nat.le_refl _) _)) (zhA l) (by unfold maxLen; omega) (by omega) (by simp) ?_; intro v' w1 hown hg);go_ret;simp only [Nat.zero_add, List.nil_append] at hown;exact ⟨_, rfl, hown, ((Below.refl _ _).alloc (Nat.le_refl _) _).grown hg (by simp) (by intro k hk; cases hk; exact Nat.le_refl _)⟩
theorem zm0 : DskOk zeroD none none 0 0 := ⟨.inl ⟨rfl, rfl, rfl⟩, .inl ⟨rfl, rfl, rfl⟩, by simp [zeroD], by simp [zeroD], by simp [zeroD], by simp [zeroD], by simp [zeroD]⟩
theorem zba {S : Nat -> Prop} (w : World) : DskR S w (.agg #[.int .i64 0, .slice none 0 0, .slice none 0 0, .int .i64 0]) zeroD :=
 ⟨none, 0, none, 0, rfl, by intro i h; simp [zeroD] at h, by intro i h; simp [zeroD] at h, zm0⟩
theorem zjF {d : Dsk} {po co : Option Addr} {pc cc : Nat} (h : DskOk d po co pc cc) {co' : Option Addr} {cc' : Nat} {i : Int} {data : ByteArray} (hd : data.size <= 140737488351232) (hc : d.cache.length <= 1000000) (hs : SlW co' (d.cache.length + 1) cc') :
  DskOk { d with cache := d.cache ++ [⟨i, data⟩] } po co' pc cc' := by
 refine ⟨h.slp, by simpa using hs, h.pages, by simp; omega, h.strs, ?_, h.left⟩;intro x hx;simp at hx;rcases hx with hx | rfl
 . exact h.datas x hx
 . exact hd
set_option maxHeartbeats 1000000 in
theorem zfR (d : Dsk) (v : Value) (i : Int) (data : ByteArray) (w : World) {S : Nat -> Prop} (hS : InS S w) (hD : DskR S w v d) (hd : data.size <= 140737488351232) (hn : d.cache.length <= 1000000) (hz : (chk d != 0) = false) (g1 : decide (i < 0) = false) (g2 : decide ((d.pages.length : Int) <= i) = false) (g3 : ((data.size : Int) != d.size) = false) (g4 : (d.left == 0) = false) :
  Calls Tryz.prog 83 #[v, .int .i64 i, .string data] w (RetDE S w { opD d with cache := d.cache ++ [⟨i, data⟩] } 0) := by
 have hD0 := hD;obtain ⟨po, pc, co, cc, rfl, hp, hc, ok⟩ := hD;have ok1 := ok.pages;have okW := zhI ok;clear ok hp hc;obtain ⟨i0, hi, hz0, hz1, hz2⟩ := info_parts zg0;have hbw : ∀ o o', Below w.heap.size w ((w.alloc o).alloc o') := fun o o' => ((Below.refl _ _).alloc (Nat.le_refl _) _).alloc (by simp) _;have hpw : ∀ (W : World) (v : Value), DskR S W v d -> Calls Tryz.prog 125 #[v] W (RetDB S W (opD d) true) := fun W v h => by have := zcC d v W h; rw [if_neg (by simpa using g4), g4] at this; exact this
 go_enter Tryz.func83, Tryz.ntmps83;go_wp2_with fail;refine (zaN d _ _ (hD0.below (hbw _ _))).mono ?_;rintro e w1 ⟨rfl, hb1⟩;have xA := ((Bx.new w _ _).alloc _).belowAll hb1;have xR := (Bx.new (w.alloc _) _ _).belowAll hb1;rw [World.size_alloc] at xR;have cA := xA.cell;have fA := xA.free;have cR := xR.cell;have fR := xR.free;have hB : Below w.heap.size w w1 := (hbw _ _).trans (hb1.mono (by simp; omega));have hlA := xA.lt;have hlR := xR.lt;go_wp2_with fail;refine (hpw _ _ ((hD0.below (hbw _ _)).below hb1)).mono ?_;rintro e w2 ⟨v2, rfl, hD2, hb2⟩;have xA2 := xA.belowAll hb2;have xR2 := xR.belowAll hb2;have hB2 : Below w.heap.size w w2 := hB.trans (hb2.mono (by omega));clear cA fA cR fR;have hE2 := hD2;obtain ⟨po2, pc2, co2, cc2, rfl, hp2, hc2, ok2⟩ := hD2;have cA := xA2.cell;have fA := xA2.free;have cR := xR2.cell;have fR := xR2.free;have hlA2 := xA2.lt;have hlR2 := xR2.lt;have nA : ¬ Gr S w1 w2 w.heap.size := by rintro (h | h); exact absurd (hS _ h) (by omega); omega
 have nR : ¬ Gr S w1 w2 (w.heap.size + 1) := by rintro (h | h); exact absurd (hS _ h) (by omega); omega
 go_wp2_with fail;refine (zlo _ _ d.cache _ ok2.slc (hc2.same ((Same.refl _ _).set4 nA)) hn).mono ?_;rintro e w3 ⟨v3, rfl, hown, hb3⟩;have xA3 := xA2.set4.belowAll hb3;have xR3 := (xR2.setO4 (b' := w.heap.size) (by simp)).belowAll hb3;have hB3 := (zaB (b := w.heap.size) hB2 (Nat.le_refl _)).trans (hb3.mono (by simp; omega));have hp3 := (hp2.same ((Same.refl _ _).set4 nA)).below hb3;clear cA fA cR fR;have cA := xA3.cell;have fA := xA3.free;have cR := xR3.cell;have fR := xR3.free;have hz3 : w2.heap.size <= w3.heap.size := by have := hb3.size; simpa using this
 simp only [World.size_setCell] at hown;go_wp2_with (at_builtin; refine zau rfl _ _ 23 rfl w2.heap.size 80 i0 _ 2 24 Tryz.underlying23 hi hz0 hz1 hz2 rfl (by decide) _ d.cache.length (zaP d.cache) rfl (hown.alloc _) _ 1 1 [.int .i64 i, .string data] rfl (by intro e; cases e) rfl (RowAt.bx (Bx.new w3 _ _)) (by simp [Value.oneCell']) (by unfold maxLen; omega) (by omega) (by simp; omega) ?_; intro v4 w4 hown4 hg4; clear cA fA cR fR; obtain ⟨o4, c4, rfl, hs4, hr4, ho4⟩ := zai hown4; have xA4 := (xA3.alloc _).grown hg4 (by intro e; have := (hown.lt _ e.symm).1; omega); have xR4 := (xR3.alloc _).grown hg4 (by intro e; have := (hown.lt _ e.symm).1; omega); have cA := xA4.cell; have fA := xA4.free; have cR := xR4.cell; have fR := xR4.free);have hz4 : w3.heap.size + 1 <= w4.heap.size := by have := hg4.size; simpa using this
 have hB4 : Below w.heap.size w w4 := ((hB3.alloc (by omega) _).grown hg4 (by simp; omega) (by intro k e; have := (hown.lt _ e).1; omega));refine bodyPost_ret (v := .tuple #[.agg #[.int .i64 (opD d).size, .slice po2 (opD d).pages.length pc2, .slice o4 (d.cache.length + 1) c4, .int .i64 (opD d).left], .int .i64 0]) (by simp [results, Tryz.results83, go_sem, cR]) rfl ?_;refine ⟨_, rfl, ⟨po2, pc2, o4, c4, by simp, ?_, ?_, zjF ok2 hd hn hs4⟩, ?_⟩
 .
  have hI : InS (Gr S w1 w2) w3 := fun b h => by rcases h with h | h; exact znL (hS _ h) (by omega); omega
  have hs : Same (Gr S w1 w2) (w3.alloc _) w4 := Same.of_grown hg4 (fun b h => by have := hI b h; simp; omega) (fun b e h => by have := (hown.lt _ e).1; rcases h with h | h; exact absurd (hS _ h) (by omega); omega);refine zaS.mono (S := Gr S w1 w2) ?_ (fun b h => by rcases h with h | h; exact .inl h; exact Gr.new (by omega) (by simp only [World.size_setCell]; omega));exact (hp3.below ((Below.refl _ _).alloc (Nat.le_refl _) _)).same ((hs.set1 nA).set4 nR)
 . refine PWsAt.mono (S := fun b => w2.heap.size <= b /\ b < w4.heap.size) ?_ (fun b h => Gr.new (by omega) (by simp only [World.size_setCell]; omega));exact (PWsAt.of_row (l := d.cache ++ [⟨i, data⟩]) (by rw [zeR]; exact hr4)).same (((Same.refl _ _).set1 (b := w.heap.size) (by omega)).set4 (b := w.heap.size + 1) (by omega))
 . exact zaB (b := w.heap.size + 1) (zaa (b := w.heap.size) hB4 (Nat.le_refl _)) (by omega)
set_option maxHeartbeats 1000000 in
theorem zer (d : Dsk) (v : Value) (i : Int) (data : ByteArray) (w : World) {S : Nat -> Prop} (hS : InS S w) (hD : DskR S w v d) (_hd : data.size <= 140737488351232) (_hn : d.cache.length <= 1000000) (hz : (chk d != 0) = false) (g1 : decide (i < 0) = false) (g2 : decide ((d.pages.length : Int) <= i) = false) (g3 : ((data.size : Int) != d.size) = false) (g4 : (d.left == 0) = true) :
  Calls Tryz.prog 83 #[v, .int .i64 i, .string data] w (RetDE S w d 18) := by
 have hD0 := hD;obtain ⟨po, pc, co, cc, rfl, hp, hc, ok⟩ := hD;have ok1 := ok.pages;have okW := zhI ok;clear ok hp hc;obtain ⟨i0, hi, hz0, hz1, hz2⟩ := info_parts zg0;have hbw : ∀ o o', Below w.heap.size w ((w.alloc o).alloc o') := fun o o' => ((Below.refl _ _).alloc (Nat.le_refl _) _).alloc (by simp) _;have hpw : ∀ (W : World) (v : Value), DskR S W v d -> Calls Tryz.prog 125 #[v] W (RetDB S W d false) := fun W v h => by have := zcC d v W h; rw [if_pos (by simpa using g4), g4] at this; exact this
 go_enter Tryz.func83, Tryz.ntmps83;go_wp2_with fail;refine (zaN d _ _ (hD0.below (hbw _ _))).mono ?_;rintro e w1 ⟨rfl, hb1⟩;have xA := ((Bx.new w _ _).alloc _).belowAll hb1;have xR := (Bx.new (w.alloc _) _ _).belowAll hb1;rw [World.size_alloc] at xR;have cA := xA.cell;have fA := xA.free;have cR := xR.cell;have fR := xR.free;have hB : Below w.heap.size w w1 := (hbw _ _).trans (hb1.mono (by simp; omega));have hlA := xA.lt;have hlR := xR.lt;go_wp2_with fail;refine (hpw _ _ ((hD0.below (hbw _ _)).below hb1)).mono ?_;rintro e w2 ⟨v2, rfl, hD2, hb2⟩;have xA2 := xA.belowAll hb2;have xR2 := xR.belowAll hb2;have hB2 : Below w.heap.size w w2 := hB.trans (hb2.mono (by omega));clear cA fA cR fR;have hE2 := hD2;obtain ⟨po2, pc2, co2, cc2, rfl, hp2, hc2, ok2⟩ := hD2;have cA := xA2.cell;have fA := xA2.free;have cR := xR2.cell;have fR := xR2.free;have hlA2 := xA2.lt;have hlR2 := xR2.lt;have nA : ¬ Gr S w1 w2 w.heap.size := by rintro (h | h); exact absurd (hS _ h) (by omega); omega
 have nR : ¬ Gr S w1 w2 (w.heap.size + 1) := by rintro (h | h); exact absurd (hS _ h) (by omega); omega
 go_wp2;refine bodyPost_ret (v := .tuple #[.agg #[.int .i64 d.size, .slice po2 d.pages.length pc2, .slice co2 d.cache.length cc2, .int .i64 d.left], .int .i64 18]) (by simp [results, Tryz.results83, go_sem, cR]) rfl ?_;refine ⟨_, rfl, (hE2.same ?_).mono ?_, ?_⟩
 . exact ((Same.refl _ _).set4 nA).set4 nR
 .
  rintro b (h | h)
  . exact .inl h
  . exact .inr (by simp; omega)
 . exact zaB (b := w.heap.size + 1) (zaB (b := w.heap.size) hB2 (Nat.le_refl _)) (by omega)
set_option maxHeartbeats 1000000 in
theorem zje (d : Dsk) (v : Value) (i : Int) (data : ByteArray) (w : World) {S : Nat -> Prop} (hS : InS S w) (hD : DskR S w v d) (hd : data.size <= 140737488351232) (hn : d.cache.length <= 1000000) :
  Calls Tryz.prog 83 #[v, .int .i64 i, .string data] w (RetDE S w (zbc d i data).1 (zbc d i data).2) := by
 have hD0 := hD;obtain ⟨po, pc, co, cc, rfl, hp, hc, ok⟩ := hD;have ok1 := ok.pages;have okW := zhI ok;clear ok hp hc;obtain ⟨i0, hi, hz0, hz1, hz2⟩ := info_parts zg0;have hbw : ∀ o o', Below w.heap.size w ((w.alloc o).alloc o') := fun o o' => ((Below.refl _ _).alloc (Nat.le_refl _) _).alloc (by simp) _;unfold zbc;cases hz : (chk d != 0)
 .
  rw [if_neg (by simpa using hz)];cases g1 : decide (i < 0)
  .
   cases g2 : decide ((d.pages.length : Int) <= i)
   .
    rw [if_neg (by simp at g1 g2; omega)];cases g3 : ((data.size : Int) != d.size)
    .
     rw [if_neg (by simpa using g3)];cases g4 : (d.left == 0)
     . rw [if_neg (by simpa using g4)];exact zfR d _ i data w hS hD0 hd hn hz g1 g2 g3 g4
     . rw [if_pos (by simpa using g4)];exact zer d _ i data w hS hD0 hd hn hz g1 g2 g3 g4
    . rw [if_pos (by simpa using g3)];go_enter Tryz.func83, Tryz.ntmps83;go_wp2_with fail;refine (zaN d _ _ (hD0.below (hbw _ _))).mono ?_;rintro e w1 ⟨rfl, hb1⟩;have xA := ((Bx.new w _ _).alloc _).belowAll hb1;have xR := (Bx.new (w.alloc _) _ _).belowAll hb1;rw [World.size_alloc] at xR;have cA := xA.cell;have fA := xA.free;have cR := xR.cell;have fR := xR.free;have hB : Below w.heap.size w w1 := (hbw _ _).trans (hb1.mono (by simp; omega));have hlA := xA.lt;have hlR := xR.lt;go_wp2;refine bodyPost_ret (v := .tuple #[.agg #[.int .i64 0, .slice none 0 0, .slice none 0 0, .int .i64 0], .int .i64 10]) (by simp [results, Tryz.results83, go_sem, cR]) rfl ?_;exact ⟨_, rfl, zba _, (by repeat (first | exact hB | (refine Below.setCell ?_ (by simp) _) | (refine Below.alloc ?_ (by simp; omega) _) | (refine Below.drewN ?_ _) | (refine Below.drew ?_)))⟩
   . rw [if_pos (by simp at g1 g2; omega)];go_enter Tryz.func83, Tryz.ntmps83;go_wp2_with fail;refine (zaN d _ _ (hD0.below (hbw _ _))).mono ?_;rintro e w1 ⟨rfl, hb1⟩;have xA := ((Bx.new w _ _).alloc _).belowAll hb1;have xR := (Bx.new (w.alloc _) _ _).belowAll hb1;rw [World.size_alloc] at xR;have cA := xA.cell;have fA := xA.free;have cR := xR.cell;have fR := xR.free;have hB : Below w.heap.size w w1 := (hbw _ _).trans (hb1.mono (by simp; omega));have hlA := xA.lt;have hlR := xR.lt;go_wp2;refine bodyPost_ret (v := .tuple #[.agg #[.int .i64 0, .slice none 0 0, .slice none 0 0, .int .i64 0], .int .i64 2]) (by simp [results, Tryz.results83, go_sem, cR]) rfl ?_;exact ⟨_, rfl, zba _, (by repeat (first | exact hB | (refine Below.setCell ?_ (by simp) _) | (refine Below.alloc ?_ (by simp; omega) _) | (refine Below.drewN ?_ _) | (refine Below.drew ?_)))⟩
  . rw [if_pos (by simp at g1; omega)];go_enter Tryz.func83, Tryz.ntmps83;go_wp2_with fail;refine (zaN d _ _ (hD0.below (hbw _ _))).mono ?_;rintro e w1 ⟨rfl, hb1⟩;have xA := ((Bx.new w _ _).alloc _).belowAll hb1;have xR := (Bx.new (w.alloc _) _ _).belowAll hb1;rw [World.size_alloc] at xR;have cA := xA.cell;have fA := xA.free;have cR := xR.cell;have fR := xR.free;have hB : Below w.heap.size w w1 := (hbw _ _).trans (hb1.mono (by simp; omega));have hlA := xA.lt;have hlR := xR.lt;go_wp2;refine bodyPost_ret (v := .tuple #[.agg #[.int .i64 0, .slice none 0 0, .slice none 0 0, .int .i64 0], .int .i64 2]) (by simp [results, Tryz.results83, go_sem, cR]) rfl ?_;exact ⟨_, rfl, zba _, (by repeat (first | exact hB | (refine Below.setCell ?_ (by simp) _) | (refine Below.alloc ?_ (by simp; omega) _) | (refine Below.drewN ?_ _) | (refine Below.drew ?_)))⟩
 . rw [if_pos (by simpa using hz)];go_enter Tryz.func83, Tryz.ntmps83;go_wp2_with fail;refine (zaN d _ _ (hD0.below (hbw _ _))).mono ?_;rintro e w1 ⟨rfl, hb1⟩;have xA := ((Bx.new w _ _).alloc _).belowAll hb1;have xR := (Bx.new (w.alloc _) _ _).belowAll hb1;rw [World.size_alloc] at xR;have cA := xA.cell;have fA := xA.free;have cR := xR.cell;have fR := xR.free;have hB : Below w.heap.size w w1 := (hbw _ _).trans (hb1.mono (by simp; omega));have hlA := xA.lt;have hlR := xR.lt;go_wp2;refine bodyPost_ret (v := .tuple #[.agg #[.int .i64 0, .slice none 0 0, .slice none 0 0, .int .i64 0], .int .i64 1]) (by simp [results, Tryz.results83, go_sem, cR]) rfl ?_;exact ⟨_, rfl, zba _, (by repeat (first | exact hB | (refine Below.setCell ?_ (by simp) _) | (refine Below.alloc ?_ (by simp; omega) _) | (refine Below.drewN ?_ _) | (refine Below.drew ?_)))⟩
end Go.Proofs.YtlefmmhlpgmbjaaGreat
namespace Go.Proofs
open Go.Shelf
def Tryz.lays106_ren : Go.Shelf.Ren := ⟨fun | 106 => 71 | 213 => 118 | 265 => 159 | n => n, fun | 9 => 9 | 3 => 3 | n => n, fun | n => n⟩
theorem Tryz.lays106 : Go.Proofs.Lays.n106 Tryz.prog Tryz.lays106_ren := {
 mixed := by kernel_rfl
 f106 := Tryz.func71.trans (congrArg some (by kernel_rfl))
 f213 := Tryz.func118.trans (congrArg some (by kernel_rfl))
 f265 := Tryz.func159.trans (congrArg some (by kernel_rfl))
 t3 := Tryz.underlying3
 a3 := Tryz.isAgg3
 z3 := Tryz.sizeOf3
 v3 := Tryz.zeroValue3
 t9 := Tryz.underlying9
 a9 := Tryz.isAgg9
 z9 := Tryz.sizeOf9
 v9 := Tryz.zeroValue9 }
open Go.RowKit in
theorem Tryz.strings_Compare (a b : ByteArray) (w : World) :
  Calls Tryz.prog 71 #[.string a, .string b] w fun e w' => e = .returned (.int .i64 (Lib.compareBytes a.data.toList b.data.toList)) /\ w' = w := Any.strings_Compare Tryz.lays106 a b w
def Tryz.lays105_ren : Go.Shelf.Ren := ⟨fun | 105 => 62 | 212 => 104 | 99 => 105 | 165 => 106 | 166 => 107 | 170 => 108 | 169 => 109 | 263 => 140 | 264 => 141 | 206 => 142 | 240 => 143 | 241 => 144 | 276 => 178 | 277 => 179 | n => n, fun | 9 => 9 | 3 => 3 | 4 => 4 | 20 => 20 | 0 => 0 | 46 => 158 | 109 => 159 | 5 => 5 | 72 => 164 | 76 => 168 | 51 => 203 | 146 => 204 | 53 => 206 | 148 => 207 | 70 => 162 | 37 => 139 | 75 => 167 | 127 => 209 | 164 => 237 | 80 => 171 | n => n, fun | n => n⟩
theorem Tryz.lays105 : Go.Proofs.Lays.n105 Tryz.prog Tryz.lays105_ren := {
 mixed := by kernel_rfl
 f99 := Tryz.func105.trans (congrArg some (by kernel_rfl))
 f105 := Tryz.func62.trans (congrArg some (by kernel_rfl))
 f165 := Tryz.func106.trans (congrArg some (by kernel_rfl))
 f166 := Tryz.func107.trans (congrArg some (by kernel_rfl))
 f169 := Tryz.func109.trans (congrArg some (by kernel_rfl))
 f170 := Tryz.func108.trans (congrArg some (by kernel_rfl))
 f206 := Tryz.func142.trans (congrArg some (by kernel_rfl))
 f212 := Tryz.func104.trans (congrArg some (by kernel_rfl))
 f240 := Tryz.func143.trans (congrArg some (by kernel_rfl))
 f241 := Tryz.func144.trans (congrArg some (by kernel_rfl))
 f263 := Tryz.func140.trans (congrArg some (by kernel_rfl))
 f264 := Tryz.func141.trans (congrArg some (by kernel_rfl))
 f276 := Tryz.func178.trans (congrArg some (by kernel_rfl))
 f277 := Tryz.func179.trans (congrArg some (by kernel_rfl))
 t0 := Tryz.underlying0
 a0 := Tryz.isAgg0
 z0 := Tryz.sizeOf0
 v0 := Tryz.zeroValue0
 t3 := Tryz.underlying3
 a3 := Tryz.isAgg3
 z3 := Tryz.sizeOf3
 v3 := Tryz.zeroValue3
 t4 := Tryz.underlying4
 a4 := Tryz.isAgg4
 z4 := Tryz.sizeOf4
 v4 := Tryz.zeroValue4
 t5 := Tryz.underlying5
 a5 := Tryz.isAgg5
 z5 := Tryz.sizeOf5
 v5 := Tryz.zeroValue5
 t9 := Tryz.underlying9
 a9 := Tryz.isAgg9
 z9 := Tryz.sizeOf9
 v9 := Tryz.zeroValue9
 t20 := Tryz.underlying20
 a20 := Tryz.isAgg20
 z20 := Tryz.sizeOf20
 v20 := Tryz.zeroValue20
 t37 := Tryz.underlying139
 a37 := Tryz.isAgg139
 z37 := Tryz.sizeOf139
 v37 := Tryz.zeroValue139
 t46 := Tryz.underlying158
 a46 := Tryz.isAgg158
 z46 := Tryz.sizeOf158
 v46 := Tryz.zeroValue158
 t51 := Tryz.underlying203
 a51 := Tryz.isAgg203
 z51 := Tryz.sizeOf203
 v51 := Tryz.zeroValue203
 t53 := Tryz.underlying206
 a53 := Tryz.isAgg206
 z53 := Tryz.sizeOf206
 v53 := Tryz.zeroValue206
 t70 := Tryz.underlying162
 a70 := Tryz.isAgg162
 z70 := Tryz.sizeOf162
 v70 := Tryz.zeroValue162
 t72 := Tryz.underlying164
 a72 := Tryz.isAgg164
 z72 := Tryz.sizeOf164
 v72 := Tryz.zeroValue164
 t75 := Tryz.underlying167
 a75 := Tryz.isAgg167
 z75 := Tryz.sizeOf167
 v75 := Tryz.zeroValue167
 t76 := Tryz.underlying168
 a76 := Tryz.isAgg168
 z76 := Tryz.sizeOf168
 v76 := Tryz.zeroValue168
 t109 := Tryz.underlying159
 a109 := Tryz.isAgg159
 z109 := Tryz.sizeOf159
 v109 := Tryz.zeroValue159
 t127 := Tryz.underlying209
 a127 := Tryz.isAgg209
 z127 := Tryz.sizeOf209
 v127 := Tryz.zeroValue209
 t146 := Tryz.underlying204
 a146 := Tryz.isAgg204
 z146 := Tryz.sizeOf204
 v146 := Tryz.zeroValue204
 t148 := Tryz.underlying207
 a148 := Tryz.isAgg207
 z148 := Tryz.sizeOf207
 v148 := Tryz.zeroValue207
 t164 := Tryz.underlying237
 a164 := Tryz.isAgg237
 z164 := Tryz.sizeOf237
 v164 := Tryz.zeroValue237 }
theorem Tryz.Builder_Extra_105 : Builder.Extra Tryz.prog Tryz.lays105_ren := {
 sizeBuilder := by kernel_rfl
 liesBuilder := by kernel_rfl
 t5 := Tryz.underlying5
 a5 := Tryz.isAgg5
 z5 := Tryz.sizeOf5
 v5 := Tryz.zeroValue5
 infoByte := by kernel_rfl
 cellsByte := by kernel_rfl
 sizeByte := by kernel_rfl
 neB5 := by decide }
open Go.RowKit Go.Lib in
theorem Tryz.strings_Repeat (s : ByteArray) (c : Nat) (w : World) (hc : c <= 9223372036854775807) (hlen : s.size * c <= 140737488355328) :
  Calls Tryz.prog 62 #[.string s, .int .i64 c] w fun e w' => e = .returned (.string ⟨(Lib.repeatL s.data.toList c).toArray⟩) /\ Below w.heap.size w w' := Any.strings_Repeat Tryz.lays105 Tryz.Builder_Extra_105 s c w hc hlen
def Tryz.lays111_ren : Go.Shelf.Ren := ⟨fun | 111 => 99 | n => n, fun | 28 => 31 | 3 => 3 | 4 => 4 | 0 => 0 | n => n, fun | n => n⟩
theorem Tryz.lays111 : Go.Proofs.Lays.n111 Tryz.prog Tryz.lays111_ren := {
 mixed := by kernel_rfl
 f111 := Tryz.func99.trans (congrArg some (by kernel_rfl))
 t0 := Tryz.underlying0
 a0 := Tryz.isAgg0
 z0 := Tryz.sizeOf0
 v0 := Tryz.zeroValue0
 t3 := Tryz.underlying3
 a3 := Tryz.isAgg3
 z3 := Tryz.sizeOf3
 v3 := Tryz.zeroValue3
 t4 := Tryz.underlying4
 a4 := Tryz.isAgg4
 z4 := Tryz.sizeOf4
 v4 := Tryz.zeroValue4
 t28 := Tryz.underlying31
 a28 := Tryz.isAgg31
 z28 := Tryz.sizeOf31
 v28 := Tryz.zeroValue31 }
open Go.RowKit Go.Lib in
theorem Tryz.slices_Equal_int (b1 o1 n c b2 o2 m d : Nat) (xs ys : List Int) (w : World) (hx : n <= xs.length) (hy : m <= ys.length) (hbig : n <= 9223372036854775807) (hbig2 : m <= 9223372036854775807) (hc1 : ∀ j, j < xs.length -> w.cell? ⟨b1, o1 + j, none⟩ = some (.int .i64 (xs.getD j 0))) (hc2 : ∀ j, j < ys.length -> w.cell? ⟨b2, o2 + j, none⟩ = some (.int .i64 (ys.getD j 0))) :
  Calls Tryz.prog 99 #[.slice (some ⟨b1, o1, none⟩) n c, .slice (some ⟨b2, o2, none⟩) m d] w fun e w' => e = .returned (.bool (xs.take n == ys.take m)) /\ ∃ q, w' = w.drewN q := Any.slices_Equal_int Tryz.lays111 b1 o1 n c b2 o2 m d xs ys w hx hy hbig hbig2 hc1 hc2
open Go.RowKit Go.Lib in
theorem Tryz.slices_Equal_int_empty (a1 a2 : Option Addr) (c m d : Nat) (w : World) (hbig2 : m <= 9223372036854775807) :
  Calls Tryz.prog 99 #[.slice a1 0 c, .slice a2 m d] w fun e w' => e = .returned (.bool (decide (m = 0))) /\ w' = w := Any.slices_Equal_int_empty Tryz.lays111 a1 a2 c m d w hbig2
open Go.RowKit Go.Lib in
theorem Tryz.slices_Equal_int_lens (a1 a2 : Option Addr) (n c m d : Nat) (w : World) (hnm : n ≠ m) :
  Calls Tryz.prog 99 #[.slice a1 n c, .slice a2 m d] w fun e w' => e = .returned (.bool false) /\ w' = w := Any.slices_Equal_int_lens Tryz.lays111 a1 a2 n c m d w hnm
end Go.Proofs
namespace Go.Proofs.YtlefmmhlpgmbjaaGreat
set_option maxRecDepth 100000
open Go.RowKit
theorem zjS : (Tryz.prog.info? 9).map (fun i => (i.zero, i.size, i.bytes)) = some (some (.string .empty), 1, 16) := by kernel_rfl
theorem zkR : (Tryz.prog.info? 5).map (fun i => (i.zero, i.size, i.bytes)) = some (some (.int .u8 0), 1, 1) := by kernel_rfl
def zbO (n : Nat) : ByteArray := ⟨(List.replicate n 0).toArray⟩
theorem zmF {p : Nat} {s : Int} {z : ByteArray} {o : Option Addr} {c : Nat} (hs : SlW o p c) (hp : p <= 2000) (hz : z.size <= 512) : DskOk ⟨s, List.replicate p z, [], -1⟩ o none c 0 := by
 refine ⟨by simpa using hs, .inl ⟨rfl, rfl, rfl⟩, by simp; omega, by simp, ?_, by simp, by simp⟩;intro x hx;simp at hx;rw [hx.2]; omega
theorem zhr (n : Nat) : Lib.repeatL [0] n = List.replicate n 0 := by
 induction n with
 | zero => rfl
 | succ n ih => simp [Lib.repeatL, ih, List.replicate_succ]
theorem zb8 (n : Nat) (hn : n <= 1000000) (w : World) :
  Calls Tryz.prog 62 #[.string { data := #[0] }, .int .i64 n] w fun e w' => e = .returned (.string (zbO n)) /\ Below w.heap.size w w' := by
 have h := Tryz.strings_Repeat { data := #[0] } n w (by omega) (by show 1 * n <= _; omega);rw [show ({ data := #[0] } : ByteArray).data.toList = [0] from rfl, zhr] at h;exact h
set_option maxHeartbeats 1000000 in
theorem zhX (p s : Nat) (w : World) {S : Nat -> Prop} (hr : zaU p s = true) :
  Calls Tryz.prog 28 #[.int .i64 p, .int .i64 s] w (RetDE S w ⟨s, List.replicate p (zbO s), [], -1⟩ 0) := by
 obtain ⟨i0, hi, hz0, hz1, hz2⟩ := info_parts zjS;have hb : p <= 2000 /\ s <= 512 := by simp [zaU] at hr; omega
 rcases zbt hr with ⟨a1, a2, a3, a4, h⟩ | ⟨_, h⟩ | ⟨_, _, h⟩ | ⟨_, _, _, h⟩ | ⟨_, _, _, _, h⟩;rotate_left
 . cases h
 . cases h
 . cases h
 . cases h
 clear h;obtain ⟨z, ez⟩ : ∃ z, zbO s = z := ⟨_, rfl⟩;have hrep : ∀ W : World, Calls Tryz.prog 62 #[.string { data := #[0] }, .int .i64 s] W fun e w' => e = .returned (.string z) /\ Below W.heap.size W w' := fun W => ez ▸ zb8 s (by omega) W;have ezh := zhI ez;clear ez;go_enter Tryz.func28, Tryz.ntmps28;go_wp2;clear a1 a2 a3 a4
 go_loopw [25] (fun i wr => ∃ (k : Nat) (v : Value), k <= p /\ i = .int .i64 k /\ wr.ownsRow (w.heap.size + 2) 9 1 v k (List.replicate k (.string z)) /\ Bx wr w.heap.size #[.int .i64 0, .slice none 0 0, .slice none 0 0, .int .i64 0] 25 /\ Bx wr (w.heap.size + 1) #[.int .i64 s, v, .slice none 0 0, .int .i64 (-1)] 25 /\ Below w.heap.size w wr) (fun i _ => p - (intOf i).toNat)
 case atStart => exact ⟨0, _, Nat.zero_le _, rfl, World.ownsRow_nil _ _ _ _, (Bx.new w _ _).alloc _, by simpa using Bx.new (w.alloc _) _ _, ((Below.refl _ _).alloc (Nat.le_refl _) _).alloc (by simp) _⟩
 case round =>
  obtain ⟨k, v, hk, rfl, hown, xR, xD, hB⟩ := hrel;have hlD := xD.lt;have cR := xR.cell;have fR := xR.free;have cD := xD.cell;have fD := xD.free
  by_cases hlt : k < p
  .
   go_wp2
   go_region_law (first
    | (refine zlI rfl (.tmp 28) (.tmp 31) 22 rfl (w.heap.size + 2) 9 i0 _ 1 16 Tryz.underlying22 hi hz0 hz1 hz2 rfl (by decide) v k _ rfl (hown2.alloc _) _ 1 1 [.string z] rfl (by intro e; cases e) rfl (RowAt.bx (Bx.new w2 _ _)) (by simp [Value.oneCell']) (by unfold maxLen; omega) (by omega) (by simp; omega) ?_; intro v3 w3 hown3 hg3; clear cR2 fR2 cD2 fD2; obtain ⟨o3, c3, rfl, hs3, hr3, ho3⟩ := zai hown3; have xR3 := (xR2.alloc _).grown hg3 (by intro e; have := (hown2.lt _ e.symm).1; omega); have xD3 := (xD2.alloc _).grown hg3 (by intro e; have := (hown2.lt _ e.symm).1; omega); have cR3 := xR3.cell; have fR3 := xR3.free; have cD3 := xD3.cell; have fD3 := xD3.free)
    | (go_simp; go_at_call 62; refine (hrep _).mono ?_; rintro e w2 ⟨rfl, hb2⟩; have xR2 := xR.drew.belowAll hb2; have xD2 := xD.drew.belowAll hb2; have hown2 := zae hown.drew hb2; have hB2 := hB.drew.trans (hb2.mono hB.size); have hl2 := xD2.lt; clear cR fR cD fD; have cR2 := xR2.cell; have fR2 := xR2.free; have cD2 := xD2.cell; have fD2 := xD2.free))
   all_goals
    have hB3 : Below w.heap.size w w3 := (hB2.alloc (by omega) _).grown hg3 (by simp; omega) (by intro j e; have := (hown2.lt _ e).1; omega);go_wp2;go_roundw
    case rel => refine ⟨k + 1, _, by omega, by go_num, by rw [List.replicate_succ']; exact zgQ hown3 (by omega) _, xR3.setO (by simp) _, by simpa using xD3.set 1 _, zaa hB3 (by omega)⟩
    case measure => simp [intOf]; omega
  .
   obtain rfl : k = p := by omega
   obtain ⟨o2, c2, rfl, hs2, hr2, ho2⟩ := zai hown;go_wp2;refine bodyPost_ret (v := .tuple #[.agg #[.int .i64 s, .slice o2 k c2, .slice none 0 0, .int .i64 (-1)], .int .i64 0]) (by simp [results, Tryz.results28, go_sem, cR]) rfl ?_;refine ⟨_, rfl, ⟨o2, c2, none, 0, by simp, ?_, by intro i h; simp at h, zmF (by simpa using hs2) hb.1 (by simp [zbO, ByteArray.size]; exact hb.2)⟩, zaB (b := w.heap.size) hB (Nat.le_refl _)⟩;refine zaS.mono (S := fun b => w.heap.size + 2 <= b /\ b < wr.heap.size) ?_ (fun b h => Gr.new (by omega) (by simp only [World.size_setCell]; omega));exact (zaS.of_row (by rw [show zbO s = z from ezh.out]; simpa using hr2)).same ((Same.refl _ _).set4 (b := w.heap.size) (by omega))
set_option maxHeartbeats 1000000 in
theorem zlG (p s : Int) (w : World) {S : Nat -> Prop} :
  Calls Tryz.prog 28 #[.int .i64 p, .int .i64 s] w (RetDE S w (newD p s).1 (newD p s).2) := by
 unfold newD;cases hr : zaU p s
 .
  rw [if_neg (by simp)];rcases zbt hr with ⟨_, _, _, _, h⟩ | ⟨a1, _⟩ | ⟨a1, a2, _⟩ | ⟨a1, a2, a3, _⟩ | ⟨a1, a2, a3, a4, _⟩
  . cases h
  all_goals
   go_enter Tryz.func28, Tryz.ntmps28;go_wp2;refine bodyPost_ret (v := .tuple #[.agg #[.int .i64 0, .slice none 0 0, .slice none 0 0, .int .i64 0], .int .i64 2]) (by simp [results, Tryz.results28, go_sem]) rfl ?_;exact ⟨_, rfl, zba _, by repeat (first | exact Below.refl _ _ | (refine Below.setCell ?_ (by simp) _) | (refine Below.alloc ?_ (by simp) _))⟩
 .
  rw [if_pos rfl];have hb : 1 <= p /\ 1 <= s := by simp [zaU] at hr; omega
  obtain ⟨p, rfl⟩ := Int.eq_ofNat_of_zero_le (a := p) (by omega);obtain ⟨s, rfl⟩ := Int.eq_ofNat_of_zero_le (a := s) (by omega);exact zhX p s w hr
end Go.Proofs.YtlefmmhlpgmbjaaGreat
namespace Go.Proofs.YtlefmmhlpgmbjaaGreat
set_option maxRecDepth 100000
open Go.RowKit Go.Shelf
def KeepT (T : Nat -> Prop) (W W' : World) : Prop := ∀ k o, T k -> W.heap[k]? = some o -> W'.heap[k]? = some o
theorem KeepT.refl (T : Nat -> Prop) (W : World) : KeepT T W W := fun _ _ _ h => h
theorem KeepT.trans {T : Nat -> Prop} {A B C : World} (h : KeepT T A B) (k : KeepT T B C) : KeepT T A C := fun i o hi ho => k i o hi (h i o hi ho)
theorem KeepT.put {T : Nat -> Prop} (W : World) {l : Nat} (o : Obj) (hl : ¬ T l) : KeepT T W (W.putObj l o) := fun k o' hk ho => (World.putObj_heap_other (by intro e; subst e; exact hl hk)).trans ho
theorem KeepT.set {T : Nat -> Prop} (W : World) {a : Addr} (v : Value) (hl : ¬ T a.block) : KeepT T W (W.setCell a v) := fun k o' hk ho => (Below.heap_setCell W a v k (by intro e; subst e; exact hl hk)).trans ho
variable {F : Fence} {n : Nat} {P : Program}
def zmk {α : Type} (F : Fence) (n : Nat) (P : Program) (gf : Nat) (lb : Array Value) (encs : α -> Array Value) (T : Nat -> Prop) (S : List α -> Prop) (N : Nat) (w : World) : Prop :=
 ∀ (l : Nat) (J : List α -> World -> Prop), (∀ s W W', J s W -> W.grownBy W' none -> J s W') ->
  (∀ pre x W1, J pre W1 -> pre.length < N -> YieldAt F (n - 1) P l (encs x) W1 fun e W' => e = .returned (.bool true) /\ J (pre ++ [x]) W' /\ KeepT T W1 W') ->
  J [] w -> CallsIn F n P gf (#[.func (.yield l) #[] #[]] ++ lb) w fun e W' => (∃ v, e = .returned v) /\ ∃ xs, S xs /\ J xs W'
def zmx {α : Type} (B : Nat) (T : Nat -> Prop) (I : List α -> World -> Prop) (xs : List α) (W : World) : Exit -> Act -> World -> Prop
 | .normal, _, W' => W'.heap[B]? = W.heap[B]? /\ W'.heap[B + 1]? = W.heap[B + 1]? /\ KeepT T W W' /\ I xs W'
 | _, _, _ => False
theorem zgi {α : Type} {g : Operand} {ps : Array Tmp} {assign body : Code} {Q : Exit -> Act -> World -> Prop} {a : Act} {w : World}
  (hro : F.round = none) (h1 : 1 <= n) {gf : Nat} {lb : Array Value} (hg : a.eval g = .func (.func gf) #[] lb) (hFg : F.fn gf) (eg : ∀ args w, (callFunc gf args).run P w = .ok (.enter gf args) w)
  {encs : α -> Array Value} {T : Nat -> Prop} {S : List α -> Prop} {N : Nat}
  (hseq : ∀ W1 : World, W1.heap.size = w.heap.size + 2 -> Below w.heap.size w W1 -> zmk F (n - 1) P gf lb encs T S N W1)
  (hT : ¬ T (w.heap.size + 1)) (hps : ∀ x, (encs x).size = ps.size)
  (I : List α -> World -> Prop) (hI : ∀ s W W' row, I s W -> W.grownBy W' row -> (∀ r, row = some r -> w.heap.size <= r) -> I s W') (h0 : I [] w) (a₁ : α -> Act)
  (hassign : ∀ (l : Nat) (x : α) (W : World) (K : Act -> World -> Prop), K (a₁ x) W ->
   assign.wpIn (F.inRound l) (n - 1 - 1) P (Exit.then K (fun _ _ _ => False)) { tmps := (ps.zip (encs x)).foldl (fun t (p, v) => t.setIfInBounds p v) a.tmps, defers := [] } W)
  (hbody : ∀ (l : Nat) (pre : List α) (x : α) (W : World), I pre W -> pre.length < N -> body.wpIn (F.inRound l) (n - 1 - 1) P (zmx w.heap.size T I (pre ++ [x]) W) (a₁ x) W)
  (hdone : ∀ (xs : List α) (W : World), S xs -> I xs W -> W.heap[w.heap.size]? = some (.deferred (some [])) -> Q .normal { a with defers := { target := .collected w.heap.size, args := #[] } :: a.defers } W) :
  (Code.rangeFunc g ps assign body).wpIn F n P Q a w := by
 refine wpIn_rangeFunc fun fn hfn => ?_;rw [hro]
 let r0 : LoopState -> Loop := fun st => { state := st, pending := none, fn, tmps := a.tmps, params := ps, assign, body, defers := w.heap.size }
 have hW : Below w.heap.size w ((w.alloc (.deferred (some []))).alloc (.loop (r0 .ready))) := ((Below.refl _ w).alloc (Nat.le_refl _) _).alloc (by simp) _;have hz : ((w.alloc (.deferred (some []))).alloc (.loop (r0 .ready))).heap.size = w.heap.size + 2 := by simp
 have hl0 : ((w.alloc (.deferred (some []))).alloc (.loop (r0 .ready))).heap[w.heap.size + 1]? = some (.loop (r0 .ready)) := by have := World.alloc_heap_new (w.alloc (.deferred (some []))) (.loop (r0 .ready)); rwa [World.size_alloc] at this
 have hd0 : ((w.alloc (.deferred (some []))).alloc (.loop (r0 .ready))).heap[w.heap.size]? = some (.deferred (some [])) :=
  (Below.heap_alloc _ _ _ (by simp)).trans (World.alloc_heap_new w _)
 have hi0 : I [] ((w.alloc (.deferred (some []))).alloc (.loop (r0 .ready))) :=
  hI _ _ _ none (hI _ _ _ none h0 (World.grownBy_alloc w _ none) (by simp)) (World.grownBy_alloc _ _ none) (by simp)
 refine ⟨w.heap.size + 1, [{ target := .collected w.heap.size, args := #[] }], (w.alloc (.deferred (some []))).alloc (.loop (r0 .ready)), { target := .fn (.func gf) lb, args := #[.func (.yield (w.heap.size + 1)) #[] #[]] }, (w.alloc (.deferred (some []))).alloc (.loop (r0 .ready)), gf,
  #[.func (.yield (w.heap.size + 1)) #[] #[]] ++ lb, (w.alloc (.deferred (some []))).alloc (.loop (r0 .ready)), run_enterLoop_outer _ _ _ _ _, ?_, ?_, ?_, fun _ => h1, ?_⟩
 . simp only [resolve, hg];simp [go_sem]
 . intro f' hf'; simp [Target.leads] at hf'; subst hf'; exact hFg
 . simp [invoke, go_sem, eg]
 .
  refine (hseq _ hz hW (w.heap.size + 1) (fun pre W => I pre W /\ W.heap[w.heap.size + 1]? = some (.loop (r0 .ready)) /\ W.heap[w.heap.size]? = some (.deferred (some []))) ?_ ?_ ⟨hi0, hl0, hd0⟩).mono ?_
  . rintro s A B ⟨h1, h2, h3⟩ hg';exact ⟨hI _ _ _ none h1 hg' (by simp), (hg'.block _ (Array.getElem?_eq_some_iff.1 h2).1 (by simp)).trans h2, (hg'.block _ (Array.getElem?_eq_some_iff.1 h3).1 (by simp)).trans h3⟩
  .
   rintro pre x W ⟨hi, hl, hd⟩ hlen;have hlt := (Array.getElem?_eq_some_iff.1 hl).1;refine ⟨fn, _, assign, body, run_yield (P := P) (args := encs x) hl (hps x), roundIn_of_wpIn hfn (hassign _ x W _ ?_)⟩;refine ⟨_, run_beginRound hl rfl, ?_⟩;refine wpIn_mono (hbody (w.heap.size + 1) pre x _ (hI _ _ _ _ hi (grownBy_putObj' W (w.heap.size + 1) _) (fun r e => by cases e; omega)) hlen) ?_;rintro e a3 W3 hp;cases e with
   | normal =>
    obtain ⟨h1, h2, h3, h4⟩ := hp;have hl3 : W3.heap[w.heap.size + 1]? = some (.loop (r0 .busy)) := h2.trans (World.putObj_heap_same hlt);have hd3 : W3.heap[w.heap.size]? = some (.deferred (some [])) := h1.trans ((World.putObj_heap_other (by omega)).trans hd);exact ⟨_, _, run_endRound none hl3, rfl, ⟨hI _ _ _ _ h4 (grownBy_putObj' W3 (w.heap.size + 1) _) (fun r e => by cases e; omega), World.putObj_heap_same (Array.getElem?_eq_some_iff.1 hl3).1, (World.putObj_heap_other (by omega)).trans hd3⟩,
     ((KeepT.put W _ hT).trans h3).trans (KeepT.put W3 _ hT)⟩
   | ret => exact hp.elim
   | exit id => exact hp.elim
   | goto t => exact hp.elim
   | panic ch => exact hp.elim
   | outgrown => exact hp.elim
  . rintro e W2 ⟨⟨v, rfl⟩, xs, hS, hi, hl, hd⟩;exact ⟨none, _, run_endLoop (P := P) hl (by simp [r0]), hdone xs _ hS (hI _ _ _ _ hi (grownBy_putObj' W2 (w.heap.size + 1) _) (fun r e => by cases e; omega)) ((World.putObj_heap_other (by omega)).trans hd)⟩
variable {F : Fence} {n : Nat} {P : Program}
theorem zbJ {A B : World} {row : Option Nat} {b : Nat} {cs : Array Value} {t : TypeId} (hs : Bx A b cs t) (hg : A.grownBy B row) (hr : ∀ r, row = some r -> ∃ o : Obj, A.heap[r]? = some o /\ o.isCells = false) : Bx B b cs t := by
 refine hs.grown hg fun e => ?_;obtain ⟨o, ho, hc⟩ := hr b e.symm;unfold Bx at hs;rw [hs] at ho;cases ho;cases hc
end Go.Proofs.YtlefmmhlpgmbjaaGreat
namespace Go.Proofs.YtlefmmhlpgmbjaaGreat
set_option maxRecDepth 100000
open Go.RowKit Go.Shelf
attribute [local go_sem] Oper.semAt_some
theorem KeepT.cell {T : Nat -> Prop} {W W' : World} (h : KeepT T W W') {p : Addr} {v : Value} (hp : T p.block) (hc : W.cell? p = some v) : W'.cell? p = some v := by
 obtain ⟨o, ho, _⟩ := cells_of_cell hc;exact (World.cell?_of_block ((h _ o hp ho).trans ho.symm)).trans hc
def mapD (l : List PW) : DataW Empty := l.foldl (fun D x => D.put (.int .i64 x.page) (.lit (.string x.data.data.toList))) (.map [])
theorem zjX (l : List PW) (x : PW) : mapD (l ++ [x]) = (mapD l).put (.int .i64 x.page) (.lit (.string x.data.data.toList)) := by simp [mapD]
theorem zgD (i : Int) : WideAt.IsKeyLit (.int .i64 i) := by simp [WideAt.IsKeyLit]
theorem zdd (i : Int) : ∀ (l : List PW) (D : DataW Empty) (s : ByteArray), Maps.IsMap D -> D.atKey (.int .i64 i) (.lit (.string [])) = .lit (.string s.data.toList) ->
  Maps.has (l.foldl (fun D x => D.put (.int .i64 x.page) (.lit (.string x.data.data.toList))) D) (.int .i64 i) = (Maps.has D (.int .i64 i) || l.any (fun x => x.page == i)) /\
  (l.foldl (fun D x => D.put (.int .i64 x.page) (.lit (.string x.data.data.toList))) D).atKey (.int .i64 i) (.lit (.string [])) = .lit (.string (lastW i l s).data.toList)
 | [], D, s, hD, h => ⟨by simp, h⟩
 | x :: l, D, s, hD, h => by
  rw [List.foldl_cons, lastW]
  by_cases e : x.page = i
  . rw [if_pos e];obtain ⟨h1, h2⟩ := zdd i l (D.put (.int .i64 x.page) (.lit (.string x.data.data.toList))) x.data (hD.put _ _) (by rw [e]; exact Maps.atKey_put_same hD (zgD i) _ _);refine ⟨?_, h2⟩;rw [h1, e, Maps.has_put_same hD (zgD i)];simp [e]
  .
   rw [if_neg e];have hne : Lit.int .i64 i ≠ .int .i64 x.page := fun h => by injection h with _ h; exact e h.symm
   obtain ⟨h1, h2⟩ := zdd i l (D.put (.int .i64 x.page) (.lit (.string x.data.data.toList))) s (hD.put _ _) (by rw [Maps.atKey_put_other hne]; exact h);refine ⟨?_, h2⟩;rw [h1, Maps.has_put_other hne, List.any_cons, show (x.page == i) = false by simpa using e, Bool.false_or]
theorem ziH (i : Int) (l : List PW) : Maps.has (mapD l) (.int .i64 i) = l.any (fun x => x.page == i) := by
 exact (zdd i l (.map []) ByteArray.empty Maps.isMap_empty rfl).1
theorem zjC (i : Int) (l : List PW) : (mapD l).atKey (.int .i64 i) (.lit (.string [])) = .lit (.string (lastW i l ByteArray.empty).data.toList) :=
 (zdd i l (.map []) ByteArray.empty Maps.isMap_empty rfl).2
theorem zkS {i : Int} {l : List PW} : ∀ (s t : ByteArray), l.any (fun x => x.page == i) = true -> lastW i l s = lastW i l t := by
 induction l with
 | nil => intro s t h; simp at h
 | cons x l ih =>
  intro s t h;rw [lastW, lastW]
  by_cases e : x.page = i
  . rw [if_pos e, if_pos e]
  . rw [if_neg e, if_neg e];exact ih s t (by simpa [e] using h)
theorem zg3 {i : Int} {l : List PW} : ∀ (s : ByteArray), l.any (fun x => x.page == i) = false -> lastW i l s = s := by
 induction l with
 | nil => intro s h; rfl
 | cons x l ih =>
  intro s h;have h' : ¬ x.page = i /\ l.any (fun x => x.page == i) = false := by simpa using h
  rw [lastW, if_neg h'.1];exact ih s h'.2
theorem zbA {F : Fence} {nF : Nat} {P : Program} (w : World) {ops : Array Oper} {rest : List Oper} {o : Oper} {a : Act} {Q : Exit -> Act -> World -> Prop}
  (hg : o.guard = none) (m x : Operand) (t : TypeId) (hop : o.op = Op.lookup t m x true)
  (k e : TypeId) (K : Maps.Keyed P k) (ht : P.underlying t = some (.map k e)) (he : P.underlying e = some .string) (hz : (zeroValue e).run P w = .ok (.string ⟨#[]⟩) w) (b n : Nat) (D : DataW Empty)
  (hm : a.eval m = .map (some b)) (hown : w.ownsMap P k (plainElem P e) b n D) (key : Value) (kl : Lit) (hx : a.eval x = key) (hkey : keyOf P k key = some kl)
  (s : ByteArray) (hat : D.atKey kl (.lit (.string [])) = .lit (.string s.data.toList)) (has : Bool) (hhas : Maps.has D kl = has)
  (hK : wpListIn F nF P ops Q rest (a.put o.dst (.tuple #[.string s, .bool has])) w) :
  wpListIn F nF P ops Q (o :: rest) a w :=
 wpListIn_lookup_own_ok w hg m x t hop k e K ht (plainElem P e) hz (.lit (.string [])) [] (plainElem_string he (s := ⟨#[]⟩) (by decide)) b n D hm hown key kl hx hkey (fun v ps hv => by
  obtain ⟨s', rfl, hc, _⟩ := plainElem_string_inv he hv;have h1 : s'.data.toList = s.data.toList := by have := congrArg Prod.fst hc;rw [hat] at this;simpa using this.symm
  have h2 : s' = s := by cases s'; cases s; simp at h1; rw [h1]
  rw [h2, hhas]; exact hK)
def zdR (N k : Nat) : List (Fin N) := (List.finRange N).take k
theorem zeM {N k : Nat} (h : k < N) : zdR N (k + 1) = zdR N k ++ [⟨k, h⟩] := by
 unfold zdR;rw [List.take_add_one];simp [h]
theorem zi4 {N k : Nat} (h : k <= N) : (zdR N k).length = k := by simp [zdR]; omega
theorem zi3 (N : Nat) : zdR N N = List.finRange N := by unfold zdR; rw [List.take_of_length_le (by simp)]
set_option maxRecDepth 100000 in
set_option maxHeartbeats 4000000 in
theorem zju (F : Fence) (n : Nat) (hF : F.fn 176) (hro : F.round = none) (hn : 1 <= n) (Bs : Nat) (d : Dsk) (po co : Option Addr) (pc cc : Nat) {S : Nat -> Prop} (T : Nat -> Prop) (W : World)
  (hok : DskOk d po co pc cc) (hval : ∀ x ∈ d.cache, 0 <= x.page /\ x.page < d.pages.length)
  (hTS : ∀ b, S b -> T b) (hTW : ∀ b, W.heap.size <= b -> T b)
  (hp : zaS S W po d.pages) (hc : PWsAt S W co d.cache) (hB : Bx W Bs #[.int .i64 d.size, .slice po d.pages.length pc, .slice co d.cache.length cc, .int .i64 d.left] 25) :
  zmk F n Tryz.prog 176 #[.pointer (some ⟨Bs, 0, none⟩)] (fun x : Fin d.pages.length => #[Value.int .i64 (x.1 : Int), .string (zak d x.1 x.2)]) T (fun ys => ys = List.finRange d.pages.length) d.pages.length W := by
 intro l J hJ hY h0;have ok1 := hok.pages;have ok2 := hok.cache;have hmm := @run_makeMap Tryz.prog;have lB := hB.lt;refine callsIn_of_wp Tryz.func176 rfl hF ?_ hro;simp only [Tryz.ntmps176, List.size_toArray, zlC, List.length_nil, Nat.reduceAdd, Nat.reduceSub, Array.replicate_succ, Array.replicate_zero, List.push_toArray, List.append_toArray, List.nil_append, List.cons_append];have hB0 := hB.alloc (.map #[] 0);have c2 := hB0.cell 2;simp at c2;gi_wp2
 gi_loopw [5, 14] (fun _ i wr => ∃ k : Nat, k <= d.cache.length /\ i = .int .i64 k /\ W.grownBy wr none /\ wr.ownsMap Tryz.prog 3 (plainElem Tryz.prog 9) W.heap.size k (mapD (d.cache.take k)))
  (fun _ i _ => d.cache.length - (intOf i).toNat)
 case atStart => exact ⟨0, Nat.zero_le _, rfl, World.grownBy_alloc W _ none, by rw [List.take_zero]; exact World.ownsMap_made W Tryz.prog 3 (plainElem Tryz.prog 9)⟩
 case round =>
  obtain ⟨k, hk, rfl, hg, hown⟩ := hrel;clear c2 hB0;have hBr : Bx wr Bs #[.int .i64 d.size, .slice po d.pages.length pc, .slice co d.cache.length cc, .int .i64 d.left] 25 := hB.grown hg (by simp)
  by_cases hlt : k < d.cache.length
  .
   obtain ⟨b, off, rfl, hc1, hc2, hsb⟩ := hc k hlt;have hcx : wr.cell? ⟨b, off + k * 2, none⟩ = some (.int .i64 d.cache[k].page) := zdJ hg hc1 (by simp);have hcy : wr.cell? ⟨b, off + k * 2 + 1, none⟩ = some (.string d.cache[k].data) := zdJ hg hc2 (by simp);obtain ⟨hv1, hv2⟩ := hval d.cache[k] (List.getElem_mem hlt);have hkey := Maps.keyOf_int_mk Tryz.underlying3 (q := .i64) (a := d.cache[k].page) (by simp [Lit.wf, IntKind.min, IntKind.max, IntKind.signed, IntKind.bits]; omega);have hstr := plainElem_string (H := Empty) Tryz.underlying9 (s := d.cache[k].data) (by have := hok.datas d.cache[k] (List.getElem_mem hlt); simp [maxLen]; omega);have hown' := hown.alloc (.cells #[.int .i64 d.cache[k].page, .string d.cache[k].data] 80);clear hc1 hc2;gi_wp2_with (gi_at_mapUpdate; refine wpListIn_mapUpdate_own _ rfl _ _ _ 234 rfl 3 9 (Maps.int_keyed Tryz.underlying3) Tryz.underlying234 _ W.heap.size k _ rfl hown' (by simp [maxLen]; omega) _ _ _ rfl rfl hkey _ [] hstr ?_; intro w1 hown1 hgrow1);refine ⟨⟨k + 1, by omega, by go_num, ?_, ?_⟩, ?_⟩
   . have h1 : W.grownBy (wr.alloc (.cells #[.int .i64 d.cache[k].page, .string d.cache[k].data] 80)) none := hg.trans (World.grownBy_alloc wr _ none);exact ⟨hgrow1.os.trans h1.os, hgrow1.tape.trans h1.tape, hgrow1.output.trans h1.output, znT h1.size hgrow1.size, fun j hj _ => (hgrow1.block j (znL hj h1.size) (by simp; omega)).trans (h1.block j hj (by simp))⟩
   . rw [List.take_add_one, List.getElem?_eq_getElem hlt, Option.toList_some, zjX]; exact hown1
   . simp [intOf]; omega
  .
   obtain rfl : k = d.cache.length := by omega
   rw [List.take_length] at hown;obtain ⟨Wm, hWm⟩ : ∃ Wm, Wm = wr := ⟨_, rfl⟩;subst hWm;have c1 := hBr.cell 1;simp at c1;gi_wp2
   gi_loopw [6, 7, 8, 9, 27] (fun _ _ _ _ i w2 => ∃ k : Nat, k <= d.pages.length /\ i = .int .i64 k /\ J (zdR _ k) w2 /\ KeepT T Wm w2)
    (fun _ _ _ _ i _ => d.pages.length - (intOf i).toNat)
   case atStart => exact ⟨0, Nat.zero_le _, rfl, hJ _ _ _ h0 hg, KeepT.refl _ _⟩
   case round =>
    obtain ⟨k, hk, rfl, hJk, hKT⟩ := hrel
    by_cases hlt : k < d.pages.length
    .
     obtain ⟨b, off, rfl, hc1, hsb⟩ := hp k hlt;have hcx : wr.cell? ⟨b, off + k, none⟩ = some (.string d.pages[k]) := hKT.cell (hTS b hsb) (zdJ hg hc1 (by simp));have hown2 : wr.ownsMap Tryz.prog 3 (plainElem Tryz.prog 9) W.heap.size d.cache.length (mapD d.cache) := by obtain ⟨es, clock, hb, rest⟩ := hown;exact ⟨es, clock, hKT _ _ (hTW _ (Nat.le_refl _)) hb, rest⟩
     have hkey := Maps.keyOf_int_mk Tryz.underlying3 (q := .i64) (a := (k : Int)) (by simp [Lit.wf, IntKind.min, IntKind.max, IntKind.signed, IntKind.bits]; omega);have hcont : zak d k hlt = lastW k d.cache d.pages[k] := rfl;obtain ⟨fn, tmps, assign, body, hy, hR⟩ := hY _ ⟨k, hlt⟩ wr hJk (by rw [zi4 hk]; exact hlt);dsimp only at hy;clear hc1;cases hh : d.cache.any (fun x => x.page == (k : Int))
     .
      have hlw := zg3 d.pages[k] hh;rw [hcont, hlw] at hy;gi_wp2_with (gi_at_lookup; refine zbA _ rfl _ _ 234 rfl 3 9 (Maps.int_keyed Tryz.underlying3) Tryz.underlying234 Tryz.underlying9 (Tryz.zeroValue9 _) W.heap.size _ _ rfl hown2 _ _ rfl hkey _ (zjC _ _) false ((ziH _ _).trans hh) ?_);refine hR.mono ?_;rintro e W3 ⟨rfl, hJ3, hk3⟩;gi_wp2;go_roundw
      case rel => exact ⟨k + 1, by omega, by go_num, by rw [zeM hlt]; exact hJ3, hKT.trans hk3⟩
      case measure => simp [intOf]; omega
     .
      have hlw := zkS d.pages[k] ByteArray.empty hh;rw [hcont, hlw] at hy;gi_wp2_with (gi_at_lookup; refine zbA _ rfl _ _ 234 rfl 3 9 (Maps.int_keyed Tryz.underlying3) Tryz.underlying234 Tryz.underlying9 (Tryz.zeroValue9 _) W.heap.size _ _ rfl hown2 _ _ rfl hkey _ (zjC _ _) true ((ziH _ _).trans hh) ?_);refine hR.mono ?_;rintro e W3 ⟨rfl, hJ3, hk3⟩;gi_wp2;go_roundw
      case rel => exact ⟨k + 1, by omega, by go_num, by rw [zeM hlt]; exact hJ3, hKT.trans hk3⟩
      case measure => simp [intOf]; omega
    .
     obtain rfl : k = d.pages.length := by omega
     gi_wp2;go_end0;exact ⟨⟨_, rfl⟩, _, rfl, by rw [<- zi3]; exact hJk⟩
set_option maxHeartbeats 1000000 in
theorem zm5 (F : Fence) (n : Nat) (hF : F.fn 127) (hro : F.round = none) (v0 v1 v2 v3 : Value) (w : World) :
  CallsIn F n Tryz.prog 127 #[.agg #[v0, v1, v2, v3]] w fun e w' => e = .returned (.func (.func 176) #[] #[.pointer (some ⟨w.heap.size, 0, none⟩)]) /\ w' = w.alloc (.cells #[v0, v1, v2, v3] 25) := by
 refine callsIn_of_wp Tryz.func127 rfl hF ?_ hro;simp only [Tryz.ntmps127, List.size_toArray, zlC, List.length_nil, Nat.reduceAdd, Nat.reduceSub, Array.replicate_succ, Array.replicate_zero, List.push_toArray, List.append_toArray, List.nil_append, List.cons_append];gi_wp2;go_ret;exact ⟨rfl, rfl⟩
end Go.Proofs.YtlefmmhlpgmbjaaGreat
namespace Go.Proofs.YtlefmmhlpgmbjaaGreat
set_option maxRecDepth 100000
open Go.RowKit Go.Shelf
attribute [local go_sem] Oper.semAt_some
def upto {α : Type} (f : Nat -> α) (k : Nat) : List α := (List.range k).map f
theorem zeK {α : Type} (f : Nat -> α) (k : Nat) : upto f (k + 1) = upto f k ++ [f k] := by simp [upto, List.range_succ]
theorem zhU {α : Type} (f : Nat -> α) (k : Nat) : (upto f k).length = k := by simp [upto]
def bkF (l : List PW) (j : Nat) : Int × PW := ((l.length : Int) - 1 - j, l[l.length - 1 - j]?.getD ⟨0, ByteArray.empty⟩)
set_option maxRecDepth 100000 in
set_option maxHeartbeats 2000000 in
theorem zl3 (F : Fence) (n : Nat) (hF : F.fn 124) (hro : F.round = none) (hn : 1 <= n) (l Bs n₀ cap : Nat) (o : Option Addr) (zs : List PW) (hreach : zs.length <= 140737488351232) {S : Nat -> Prop} (hS : ∀ b, S b -> b < n₀) (J Jx : List (Int × PW) -> World -> Prop)
  (hY : ∀ pre x W, J pre W -> pre.length < zs.length -> YieldAt F (n - 1) Tryz.prog l #[.int .i64 x.1, .agg #[.int .i64 x.2.page, .string x.2.data]] W fun e W' =>
   (e = .returned (.bool true) /\ J (pre ++ [x]) W' /\ Below n₀ W W') \/ (e = .returned (.bool false) /\ Jx (pre ++ [x]) W'))
  (W : World) (hBl : Bs < n₀) (hBs : W.cell? ⟨Bs, 0, none⟩ = some (.slice o zs.length cap))
  (hc : PWsAt S W o zs) (h0 : J [] W) :
  CallsIn F n Tryz.prog 124 #[.func (.yield l) #[] #[], .pointer (some ⟨Bs, 0, none⟩)] W fun e W' => (∃ v, e = .returned v) /\
   ((∃ ys, ys = upto (bkF zs) zs.length /\ J ys W') \/ (∃ pre, (∃ k, k <= zs.length /\ pre = upto (bkF zs) k) /\ Jx pre W')) := by
 refine callsIn_of_wp Tryz.func124 rfl hF ?_ hro;simp only [Tryz.ntmps124, List.size_toArray, zlC, List.length_nil, Nat.reduceAdd, Nat.reduceSub, Array.replicate_succ, Array.replicate_zero, List.push_toArray, List.append_toArray, List.nil_append, List.cons_append];gi_wp2
 gi_loopw [3] (fun i wr => ∃ k : Nat, k <= zs.length /\ i = .int .i64 ((zs.length : Int) - 1 - k) /\ J (upto (bkF zs) k) wr /\ Below n₀ W wr)
  (fun i _ => (intOf i + 1).toNat)
 case atStart => exact ⟨0, Nat.zero_le _, by go_num, h0, Below.refl _ _⟩
 case round =>
  obtain ⟨k, hk, rfl, hJs, hnx⟩ := hrel
  by_cases hlt : k < zs.length
  .
   have hBs' : wr.cell? ⟨Bs, 0, none⟩ = some (.slice o zs.length cap) := (hnx.cell (p := ⟨Bs, 0, none⟩) hBl).trans hBs;obtain ⟨m, hm⟩ : ∃ m : Nat, m = zs.length - 1 - k := ⟨_, rfl⟩;have hmz : m < zs.length := by omega
   have hmi : (zs.length : Int) - 1 - k = m := by omega
   obtain ⟨b, off, rfl, hc1, hc2, hb⟩ := hc m hmz;have hb := hS b hb;have hx : bkF zs k = ((m : Int), zs[m]) := by rw [bkF, <- hm, hmi, List.getElem?_eq_getElem hmz]; rfl
   have hJs' := hJs;obtain ⟨fn, tmps, assign, body, hy, hR⟩ := hY _ (bkF zs k) wr hJs (by rw [zhU]; exact hlt);rw [hx] at hy hR;have hx := zhI hx;dsimp only at hy;have hcx : wr.cell? ⟨b, off + m * 2, none⟩ = some (.int .i64 zs[m].page) := (hnx.cell (p := ⟨b, off + m * 2, none⟩) hb).trans hc1;have hcy : wr.cell? ⟨b, off + m * 2 + 1, none⟩ = some (.string zs[m].data) := (hnx.cell (p := ⟨b, off + m * 2 + 1, none⟩) hb).trans hc2;rw [hmi];have hm' := zhI (zaI hm hmi);clear hm hmi hc1 hc2;gi_wp2;refine hR.mono ?_;rintro e W3 (⟨rfl, hJ3, hk3⟩ | ⟨rfl, hJx3⟩)
   .
    gi_wp2;go_roundw
    case rel => exact ⟨k + 1, by omega, by have := hm'.out.2; go_num, by rw [zeK, hx.out]; exact hJ3, hnx.trans hk3⟩
    case measure => have := hm'.out.2; simp [intOf] <;> (try omega)
   . gi_wp2;refine bodyPost_ret (results_none rfl _ _ _) rfl ?_;exact ⟨⟨_, rfl⟩, .inr ⟨_, ⟨k + 1, by omega, by rw [zeK, hx.out]⟩, hJx3⟩⟩
  .
   obtain rfl : k = zs.length := by omega
   gi_wp2;go_end0;exact ⟨⟨_, rfl⟩, .inl ⟨_, rfl, hJs⟩⟩
set_option maxHeartbeats 1000000 in
theorem zmQ (F : Fence) (n : Nat) (hF : F.fn 82) (hro : F.round = none) (a : Option Addr) (len cap : Nat) (w : World) :
  CallsIn F n Tryz.prog 82 #[.slice a len cap] w fun e w' => e = .returned (.func (.func 124) #[] #[.pointer (some ⟨w.heap.size, 0, none⟩)]) /\ w' = w.alloc (.cells #[.slice a len cap] 23) := by
 refine callsIn_of_wp Tryz.func82 rfl hF ?_ hro;simp only [Tryz.ntmps82, List.size_toArray, zlC, List.length_nil, Nat.reduceAdd, Nat.reduceSub, Array.replicate_succ, Array.replicate_zero, List.push_toArray, List.append_toArray, List.nil_append, List.cons_append];gi_wp2;go_ret;exact ⟨rfl, rfl⟩
theorem zjk (F : Fence) (n : Nat) (hF : F.fn 124) (hro : F.round = none) (hn : 1 <= n) (Bs n₀ cap : Nat) (o : Option Addr) (zs : List PW) (hreach : zs.length <= 140737488351232) {S : Nat -> Prop} (hS : ∀ b, S b -> b < n₀) (w : World) (hBs : Bs < n₀) (hn₀ : n₀ <= w.heap.size)
  (hBc : w.cell? ⟨Bs, 0, none⟩ = some (.slice o zs.length cap)) (hc : PWsAt S w o zs) :
  SeqStopsK F n Tryz.prog 124 #[.pointer (some ⟨Bs, 0, none⟩)] (fun x : Int × PW => #[Value.int .i64 x.1, .agg #[.int .i64 x.2.page, .string x.2.data]]) (Below n₀) (fun ys => ys = upto (bkF zs) zs.length)
   (fun pre => ∃ k, k <= zs.length /\ pre = upto (bkF zs) k) zs.length w := fun l J Jx W hW _ _ hY h0 =>
 zl3 F n hF hro hn l Bs n₀ cap o zs hreach hS J Jx hY W hBs ((hW.cell (p := ⟨Bs, 0, none⟩) (show Bs < w.heap.size by omega)).trans hBc) (hc.below hW) h0
end Go.Proofs.YtlefmmhlpgmbjaaGreat
