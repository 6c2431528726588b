/- disk.Flush (layer 40): the two failing ways, and all together; the reference's Flush. Contract of the reference's Crash of layer 40. Contracts of Same and Great of the reference of layer 40. law 40's 'awake': it returns true. Regions that draw their order, whose operations read what was there before and whose callees may make memory but answer with one value whatever they find above it: walked once, in the order of the text. Two words on worlds that grow. Plain laws on the disks of layer 40: what Write, Flush and Crash leave is valid, and how its pages read. No function of the program is named here. Small lemmas that the walks of layer 40's laws share. Numbers of 8 bytes: pagelog.number, pagelog.value, pagelog.header; the reference's number, value, Header. -/
import Derived.Test.YtlefmmhlpgmbjaaGreatO03
import Derived.Deep.RegionHeld3
import Derived.Deep.DeepCutAuto
import Derived.Test.YtlefmmhlpgmbjaaGreatO01
import Derived.BigQuiet
import Derived.Deep.QuietTactic
import Derived.WalkKit
import Derived.Below
import Derived.Deep.RegionWith
import Derived.Test.YtlefmmhlpgmbjaaGreatO02
namespace Go.Proofs.YtlefmmhlpgmbjaaGreat
set_option maxRecDepth 100000
open Go.RowKit
set_option maxHeartbeats 1000000 in
theorem zi6 (d : Dsk) (v : Value) (w : World) {S : Nat -> Prop} (hS : InS S w) (hD : DskR S w v d) :
  Calls Tryz.prog 84 #[v] w (RetDE S w (zaR d).1 (zaR d).2) := by
 have hbw : ∀ o o', Below w.heap.size w ((w.alloc o).alloc o') := fun o o' => ((Below.refl _ _).alloc (Nat.le_refl _) _).alloc (by simp) _;unfold zaR;cases hz : (chk d != 0)
 .
  rw [if_neg (by simpa using hz)];cases g4 : (d.left == 0)
  . rw [if_neg (by simpa using g4)];exact zfX d v w hS hD hz g4
  .
   rw [if_pos (by simpa using g4)];have hD0 := hD;obtain ⟨po, pc, co, cc, rfl, hp, hc, ok⟩ := hD;clear hp hc ok;have hpw : ∀ (W : World) (v : Value), DskR S W v d -> Calls Tryz.prog 125 #[v] W (RetDB S W d false) := fun W v h => by have := zcy d v W h; rw [if_pos (by simpa using g4), g4] at this; exact this
   go_enter Tryz.func84, Tryz.ntmps84;go_wp2_with fail;refine (zaV d _ _ (hD0.below (hbw _ _))).mono ?_;rintro e w1 ⟨rfl, hb1⟩;have xA := ((Bx.new w _ _).alloc _).belowAll hb1;have xR := (Bx.new (w.alloc _) _ _).belowAll hb1;rw [World.size_alloc] at xR;have cA := xA.cell;have fA := xA.free;have cR := xR.cell;have fR := xR.free;have hB : Below w.heap.size w w1 := (hbw _ _).trans (hb1.mono (by simp; omega));have hlA := xA.lt;have hlR := xR.lt;go_wp2_with fail;refine (hpw _ _ ((hD0.below (hbw _ _)).below hb1)).mono ?_;rintro e w2 ⟨v2, rfl, hD2, hb2⟩;have xA2 := xA.belowAll hb2;have xR2 := xR.belowAll hb2;have hB2 : Below w.heap.size w w2 := hB.trans (hb2.mono (by omega));clear cA fA cR fR;have hE2 := hD2;obtain ⟨po2, pc2, co2, cc2, rfl, hp2, hc2, ok2⟩ := hD2;have cA := xA2.cell;have fA := xA2.free;have cR := xR2.cell;have fR := xR2.free;have hlA2 := xA2.lt;have hlR2 := xR2.lt;have nA : ¬ Gr S w1 w2 w.heap.size := by rintro (h | h); exact absurd (hS _ h) (by omega); omega
   have nR : ¬ Gr S w1 w2 (w.heap.size + 1) := by rintro (h | h); exact absurd (hS _ h) (by omega); omega
   go_wp2;refine bodyPost_ret (v := .tuple #[.agg #[.int .i64 d.size, .slice po2 d.pages.length pc2, .slice co2 d.cache.length cc2, .int .i64 d.left], .int .i64 18]) (by simp [results, Tryz.results84, go_sem, cR]) rfl ?_;refine ⟨_, rfl, (hE2.same ?_).mono ?_, ?_⟩
   . exact ((Same.refl _ _).set4 nA).set4 nR
   .
    rintro b (h | h)
    . exact .inl h
    . exact .inr (by simp; omega)
   . exact zai (b := w.heap.size + 1) (zai (b := w.heap.size) hB2 (Nat.le_refl _)) (by omega)
 . rw [if_pos (by simpa using hz)];have hD0 := hD;obtain ⟨po, pc, co, cc, rfl, hp, hc, ok⟩ := hD;go_enter Tryz.func84, Tryz.ntmps84;go_wp2_with fail;refine (zaV d _ _ (hD0.below (hbw _ _))).mono ?_;rintro e w1 ⟨rfl, hb1⟩;have xR := (Bx.new (w.alloc _) _ _).belowAll hb1;rw [World.size_alloc] at xR;have cR := xR.cell;have fR := xR.free;have hB : Below w.heap.size w w1 := (hbw _ _).trans (hb1.mono (by simp; omega));go_wp2;refine bodyPost_ret (v := .tuple #[.agg #[.int .i64 0, .slice none 0 0, .slice none 0 0, .int .i64 0], .int .i64 1]) (by simp [results, Tryz.results84, go_sem, cR]) rfl ?_;exact ⟨_, rfl, zaD _, zai (b := w.heap.size + 1) hB (by omega)⟩
theorem zkS {d : Dsk} {o : Option Addr} {c : Nat} {l : Int} (hp : ∀ s ∈ d.pages, (s.size : Int) = d.size) (hc : ∀ x ∈ d.cache, (x.data.size : Int) = d.size) (hn : d.pages.length <= 2000) (hs : d.size <= 512) (hl : -9223372036854775808 <= l /\ l <= 9223372036854775807)
  (ho : SlW o d.pages.length c) : DskOk ⟨d.size, zan d, [], l⟩ o none c 0 :=
 ⟨by rw [show (⟨d.size, zan d, [], l⟩ : Dsk).pages.length = d.pages.length from zaM d]; exact ho, .inl ⟨rfl, rfl, rfl⟩, by simp only [zaM]; omega, by simp, fun s h => by have := zb7 hp hc s h; omega, by simp, hl⟩
theorem zgi (d : Dsk) (k : Nat) (h : k < d.pages.length) : (zan d)[k]? = some (zak d k h) := by simp [zan, h]
theorem ze8 (d : Dsk) (k : Nat) (h : k < d.pages.length) : (zan d).take (k + 1) = (zan d).take k ++ [zak d k h] := by
 rw [List.take_add_one, zgi d k h]; rfl
set_option maxHeartbeats 2000000 in
theorem zeZ (d : Dsk) (v : Value) (w : World) {S : Nat -> Prop} (_hS : InS S w) (hD : DskR S w v d) (hz : (chk d != 0) = false) (g4 : (d.left == 0) = false) :
  Calls Tryz.prog 87 #[v] w (RetDE S w ⟨d.size, zan d, [], (opD d).left⟩ 0) := by
 obtain ⟨v1, v2, v3, v4⟩ := zas (by simpa using hz);have hr := zaf v1;have hD0 := hD;obtain ⟨po, pc, co, cc, rfl, hp, hc, ok⟩ := hD;have ok1 := ok.pages;have okW := zhI ok;clear ok hp hc;obtain ⟨i0, hi, hz0, hz1, hz2⟩ := info_parts zhF;have hbw : ∀ o o', Below w.heap.size w ((w.alloc o).alloc o') := fun o o' => ((Below.refl _ _).alloc (Nat.le_refl _) _).alloc (by simp) _;have hpw : ∀ (W : World) (v : Value), DskR S W v d -> Calls Tryz.prog 128 #[v] W (RetDE S W (opD d) 0) := fun W v h => by have := zbu d v W h; rw [if_neg (by simpa using g4), if_neg (by simpa using g4)] at this; exact this
 go_enter Tryz.func87, Tryz.ntmps87;go_wp2_with fail;refine (zav d _ _ (hD0.below (hbw _ _))).mono ?_;rintro e w1 ⟨rfl, hb1⟩;have xA := ((Bx.new w _ _).alloc _).belowAll hb1;have xR := (Bx.new (w.alloc _) _ _).belowAll hb1;rw [World.size_alloc] at xR;have cA := xA.cell;have fA := xA.free;have cR := xR.cell;have fR := xR.free;have hB : Below w.heap.size w w1 := (hbw _ _).trans (hb1.mono (by simp; omega));have hlA := xA.lt;have hlR := xR.lt;go_wp2_with fail;refine (hpw _ _ ((hD0.below (hbw _ _)).below hb1)).mono ?_;rintro e w2 ⟨v2', rfl, hD2, hb2⟩;have xA2 := xA.belowAll hb2;have xR2 := xR.belowAll hb2;have hB2 : Below w.heap.size w w2 := hB.trans (hb2.mono (by omega));clear cA fA cR fR;obtain ⟨po2, pc2, co2, cc2, rfl, _, _, ok2⟩ := hD2;have okl := zhI ok2.left;clear ok2;have cA := xA2.cell;have fA := xA2.free;have cR := xR2.cell;have fR := xR2.free;have hlA2 := xA2.lt;have hlR2 := xR2.lt;have hw12 : w.heap.size + 1 < w2.heap.size := hlR2;have hvh := zhI (zaI v2 v3);have hp2000 : d.pages.length <= 2000 := by omega
 have hs512 : d.size <= 512 := hr.2.2.2;clear v2 v3 hr;go_wp2;clear cA fA cR fR
 go_loopw [6] (fun i wr => ∃ (k : Nat) (v : Value), k <= d.pages.length /\ i = .int .i64 k /\ wr.ownsRow (w2.heap.size + 1) 9 1 v k (((zan d).take k).map .string) /\ Bx wr w.heap.size #[.int .i64 d.size, .slice po d.pages.length pc, .slice co d.cache.length cc, .int .i64 d.left] 25 /\ Bx wr (w.heap.size + 1) #[.int .i64 0, .slice none 0 0, .slice none 0 0, .int .i64 0] 25 /\ Bx wr w2.heap.size #[.int .i64 (opD d).size, v, .slice co2 (opD d).cache.length cc2, .int .i64 (opD d).left] 25 /\ Below w.heap.size w wr) (fun i _ => d.pages.length - (intOf i).toNat)
 case atStart => exact ⟨0, _, Nat.zero_le _, rfl, World.ownsRow_nil _ _ _ _, xA2.alloc _, xR2.alloc _, Bx.new w2 _ _, hB2.alloc (by omega) _⟩
 case round =>
  clear xA2 xR2 hb2 hlA2 hlR2;obtain ⟨k, v, hk, rfl, hown, xA, xR, xN, hB⟩ := hrel;have hlA' := xA.lt;have hlR' := xR.lt;have hlN := xN.lt;have cA := xA.cell;have fA := xA.free;have cR := xR.cell;have fR := xR.free;have cN := xN.cell;have fN := xN.free
  by_cases hlt : k < d.pages.length
  .
   have hcon : ∀ W, Below w.heap.size w W -> Calls Tryz.prog 129 #[.agg #[.int .i64 d.size, .slice po d.pages.length pc, .slice co d.cache.length cc, .int .i64 d.left], .int .i64 k] W fun e w' => e = .returned (.string (zak d k hlt)) /\ Below W.heap.size W w' := fun W h => zc4 d _ k hlt W (hD0.below h);obtain ⟨z, ez⟩ : ∃ z, zak d k hlt = z := ⟨_, rfl⟩;rw [ez] at hcon;have ezh := zhI ez;clear ez;go_wp2
   go_region_law (first
    | (refine zid rfl (.tmp 29) (.tmp 33) 22 rfl (w2.heap.size + 1) 9 i0 _ 1 16 Tryz.underlying22 hi hz0 hz1 hz2 rfl (by decide) v k _ rfl (hown2.alloc _) _ 1 1 [.string z] rfl (by intro e; cases e) rfl (RowAt.bx (Bx.new w3 _ _)) (by simp [Value.oneCell']) (by unfold maxLen; omega) (by omega) (by simp; omega) ?_; intro v4 w4 hown3 hg3; clear cA2 fA2 cR2 fR2 cN2 fN2; obtain ⟨o3, c3, rfl, hs3, hr3, ho3⟩ := zag hown3; have xA4 := (xA3.alloc _).grown hg3 (by intro e; have := (hown2.lt _ e.symm).1; omega); have xR4 := (xR3.alloc _).grown hg3 (by intro e; have := (hown2.lt _ e.symm).1; omega); have xN4 := (xN3.alloc _).grown hg3 (by intro e; have := (hown2.lt _ e.symm).1; omega); have cA3 := xA4.cell; have fA3 := xA4.free; have cR3 := xR4.cell; have fR3 := xR4.free; have cN3 := xN4.cell; have fN3 := xN4.free)
    | (go_simp; go_at_call 129; refine (hcon _ (by first | exact hB.drew | exact hB)).mono ?_; rintro e w3 ⟨rfl, hb3⟩; have xA3 := xA.drew.belowAll hb3; have xR3 := xR.drew.belowAll hb3; have xN3 := xN.drew.belowAll hb3; have hown2 := zae hown.drew hb3; have hB3 := hB.drew.trans (hb3.mono hB.size); have hl2 := xN3.lt; clear cA fA cR fR cN fN; have cA2 := xA3.cell; have fA2 := xA3.free; have cR2 := xR3.cell; have fR2 := xR3.free; have cN2 := xN3.cell; have fN2 := xN3.free))
   all_goals
    have hB4 : Below w.heap.size w w4 := (hB3.alloc (by omega) _).grown hg3 (by simp; omega) (by intro j e; have := (hown2.lt _ e).1; omega);go_wp2;go_roundw
    case rel => refine ⟨k + 1, _, by omega, by go_num, ?_, xA4.setO (by simp; omega) _, xR4.setO (by simp; omega) _, by simpa using xN4.set 1 _, zaa hB4 (by omega)⟩;rw [ze8 d k hlt, ezh.out, List.map_append]; exact zdW hown3 (by omega) _
    case measure => simp [intOf]; omega
  .
   obtain rfl : k = d.pages.length := by omega
   rw [List.take_of_length_le (by rw [zaM]; exact Nat.le_refl _)] at hown;obtain ⟨o2, c2, rfl, hs2, hr2, ho2⟩ := zag hown;go_wp2;refine bodyPost_ret (v := .tuple #[.agg #[.int .i64 (opD d).size, .slice o2 d.pages.length c2, .slice none 0 0, .int .i64 (opD d).left], .int .i64 0]) (by simp [results, Tryz.results87, go_sem, cR]) rfl ?_;refine ⟨_, rfl, ⟨o2, c2, none, 0, by simp only [zaM]; rfl, ?_, by intro i h; simp at h, zkS hvh.out.1 (fun x hx => (hvh.out.2 x hx).2.2) hp2000 hs512 okl.out hs2⟩, zai (b := w.heap.size + 1) (zaa (b := w2.heap.size) hB (by omega)) (by omega)⟩;refine zaP.mono (S := fun b => w2.heap.size + 1 <= b /\ b < wr.heap.size) ?_ (fun b h => Gr.new (by omega) (by simp only [World.size_setCell]; omega));exact (zaP.of_row hr2).same (((Same.refl _ _).set1 (b := w2.heap.size) (by omega)).set4 (b := w.heap.size + 1) (by omega))
set_option maxHeartbeats 1000000 in
theorem zh1 (d : Dsk) (v : Value) (w : World) {S : Nat -> Prop} (hS : InS S w) (hD : DskR S w v d) :
  Calls Tryz.prog 87 #[v] w (RetDE S w (zaR d).1 (zaR d).2) := by
 have hbw : ∀ o o', Below w.heap.size w ((w.alloc o).alloc o') := fun o o' => ((Below.refl _ _).alloc (Nat.le_refl _) _).alloc (by simp) _;unfold zaR;cases hz : (chk d != 0)
 .
  rw [if_neg (by simpa using hz)];cases g4 : (d.left == 0)
  . rw [if_neg (by simpa using g4)];exact zeZ d v w hS hD hz g4
  .
   rw [if_pos (by simpa using g4)];have hD0 := hD;obtain ⟨po, pc, co, cc, rfl, hp, hc, ok⟩ := hD;clear hp hc ok;have hpw : ∀ (W : World) (v : Value), DskR S W v d -> Calls Tryz.prog 128 #[v] W (RetDE S W d 18) := fun W v h => by have := zbu d v W h; rw [if_pos (by simpa using g4), if_pos (by simpa using g4)] at this; exact this
   go_enter Tryz.func87, Tryz.ntmps87;go_wp2_with fail;refine (zav d _ _ (hD0.below (hbw _ _))).mono ?_;rintro e w1 ⟨rfl, hb1⟩;have xA := ((Bx.new w _ _).alloc _).belowAll hb1;have xR := (Bx.new (w.alloc _) _ _).belowAll hb1;rw [World.size_alloc] at xR;have cA := xA.cell;have fA := xA.free;have cR := xR.cell;have fR := xR.free;have hB : Below w.heap.size w w1 := (hbw _ _).trans (hb1.mono (by simp; omega));have hlA := xA.lt;have hlR := xR.lt;go_wp2_with fail;refine (hpw _ _ ((hD0.below (hbw _ _)).below hb1)).mono ?_;rintro e w2 ⟨v2, rfl, hD2, hb2⟩;have xA2 := xA.belowAll hb2;have xR2 := xR.belowAll hb2;have hB2 : Below w.heap.size w w2 := hB.trans (hb2.mono (by omega));clear cA fA cR fR;have hE2 := hD2;obtain ⟨po2, pc2, co2, cc2, rfl, hp2, hc2, ok2⟩ := hD2;have cA := xA2.cell;have fA := xA2.free;have cR := xR2.cell;have fR := xR2.free;have hlA2 := xA2.lt;have hlR2 := xR2.lt;have nA : ¬ Gr S w1 w2 w.heap.size := by rintro (h | h); exact absurd (hS _ h) (by omega); omega
   have nR : ¬ Gr S w1 w2 (w.heap.size + 1) := by rintro (h | h); exact absurd (hS _ h) (by omega); omega
   go_wp2;refine bodyPost_ret (v := .tuple #[.agg #[.int .i64 d.size, .slice po2 d.pages.length pc2, .slice co2 d.cache.length cc2, .int .i64 d.left], .int .i64 18]) (by simp [results, Tryz.results87, go_sem, cR, hlR2]) rfl ?_;have hin : InS (Gr S w1 w2) w2 := fun b h => by rcases h with h | h; exact znL (hS _ h) (by omega); omega
   refine ⟨_, rfl, DskR.mono (S := Gr S w1 w2) ?_ (fun b h => by rcases h with h | h; exact .inl h; exact Gr.new (by omega) (by simp; omega)), ?_⟩
   . exact hE2.same (((Same.refl _ _).set4 nR).alloc (hin.size (by simp)) _)
   . exact (zai (b := w.heap.size + 1) hB2 (by omega)).alloc (by simp; omega) _
 . rw [if_pos (by simpa using hz)];have hD0 := hD;obtain ⟨po, pc, co, cc, rfl, hp, hc, ok⟩ := hD;go_enter Tryz.func87, Tryz.ntmps87;go_wp2_with fail;refine (zav d _ _ (hD0.below (hbw _ _))).mono ?_;rintro e w1 ⟨rfl, hb1⟩;have xR := (Bx.new (w.alloc _) _ _).belowAll hb1;rw [World.size_alloc] at xR;have cR := xR.cell;have fR := xR.free;have hB : Below w.heap.size w w1 := (hbw _ _).trans (hb1.mono (by simp; omega));go_wp2;refine bodyPost_ret (v := .tuple #[.agg #[.int .i64 0, .slice none 0 0, .slice none 0 0, .int .i64 0], .int .i64 1]) (by simp [results, Tryz.results87, go_sem, cR]) rfl ?_;exact ⟨_, rfl, zaD _, zai (b := w.heap.size + 1) hB (by omega)⟩
def eqP : List ByteArray -> List ByteArray -> Bool
 | x :: l, y :: m => (x == y) && eqP l m
 | _, _ => true
def eqC : List PW -> List PW -> Bool
 | x :: l, y :: m => (x.page == y.page) && (x.data == y.data) && eqC l m
 | _, _ => true
def sameW (a b : Dsk) : Bool := (a.size == b.size) && (a.left == b.left) && (a.pages.length == b.pages.length) && (a.cache.length == b.cache.length) && eqP a.pages b.pages && eqC a.cache b.cache
set_option maxHeartbeats 1000000 in
theorem zhU (a b : Dsk) (va vb : Value) (w : World) {S S' : Nat -> Prop} (hD : DskR S w va a) (hE : DskR S' w vb b) :
  Calls Tryz.prog 18 #[va, vb] w fun e w' => e = .returned (.bool (sameW a b)) /\ Below w.heap.size w w' := by
 obtain ⟨po, pc, co, cc, rfl, hp, hc, ok⟩ := hD;obtain ⟨po', pc', co', cc', rfl, hp', hc', ok'⟩ := hE;have ok1 := ok.pages;have ok2 := ok.cache;have ok1' := ok'.pages;have ok2' := ok'.cache;clear ok ok';have hbw : ∀ o o', Below w.heap.size w ((w.alloc o).alloc o') := fun o o' => ((Below.refl _ _).alloc (Nat.le_refl _) _).alloc (by simp) _;cases g1 : (a.size != b.size)
 .
  cases g2 : (a.left != b.left)
  .
   cases g3 : ((a.pages.length : Int) != (b.pages.length : Int))
   .
    cases g4 : ((a.cache.length : Int) != (b.cache.length : Int))
    .
     have g1' := zhI g1;have g2' := zhI g2;go_enter Tryz.func18, Tryz.ntmps18;go_wp2
     go_loopw [5] (fun i wr => ∃ (k : Nat), k <= a.pages.length /\ i = .int .i64 k /\ eqP (a.pages.drop k) (b.pages.drop k) = eqP a.pages b.pages /\ Below w.heap.size w wr /\ w.heap.size + 1 < wr.heap.size /\ BoxD wr w.heap.size a.size a.left po co a.pages.length pc a.cache.length cc /\ BoxD wr (w.heap.size + 1) b.size b.left po' co' b.pages.length pc' b.cache.length cc') (fun i _ => a.pages.length - (intOf i).toNat)
     case atStart => exact ⟨0, Nat.zero_le _, rfl, rfl, hbw _ _, by simp, ⟨by simp [go_sem], by simp [go_sem], by simp [go_sem], by simp [go_sem]⟩, ⟨by simp [go_sem], by simp [go_sem], by simp [go_sem], by simp [go_sem]⟩⟩
     case round =>
      obtain ⟨k, hk, rfl, hq0, hb, hz, hB, hB'⟩ := hrel;have hq := zhI hq0; clear hq0;have hB0 := zhI hB;have hB0' := zhI hB';obtain ⟨h0, h1, h2, h3⟩ := hB;obtain ⟨h0', h1', h2', h3'⟩ := hB';have hl3 : a.pages.length = b.pages.length := by have := g3; simp at this; omega
      have hl4 : a.cache.length = b.cache.length := by have := g4; simp at this; omega
      have hl3h := zhI hl3;have hl4h := zhI hl4
      by_cases hlt : k < a.pages.length
      .
       have hlt' : k < b.pages.length := by omega
       obtain ⟨ba, offa, rfl, hcell0, _⟩ := hp k hlt;obtain ⟨bb, offb, rfl, hcell0', _⟩ := hp' k hlt';have hcell : wr.cell? ⟨ba, offa + k, none⟩ = some (.string a.pages[k]) := by rw [hb.cell (World.block_lt_of_cell? w _ hcell0)]; exact hcell0
       have hcell' : wr.cell? ⟨bb, offb + k, none⟩ = some (.string b.pages[k]) := by rw [hb.cell (World.block_lt_of_cell? w _ hcell0')]; exact hcell0'
       clear hcell0 hcell0' hl3 hl4 g1 g2 g3 g4;cases hs : (a.pages[k].toList == b.pages[k].toList)
       . go_wp2;go_quiet (fail);go_wp2;go_ret;exact ⟨by rw [<- beq_toListBytes] at hs; unfold sameW; rw [<- hq.out, List.drop_eq_getElem_cons hlt, List.drop_eq_getElem_cons hlt']; simp [eqP, hs], Below.drewN hb _⟩
       .
        go_wp2;go_quiet (fail);go_wp2;go_roundw
        case rel => exact ⟨k + 1, by omega, by go_num, by rw [<- hq.out, List.drop_eq_getElem_cons hlt, List.drop_eq_getElem_cons hlt']; rw [<- beq_toListBytes] at hs; simp [eqP, hs], Below.drewN hb _, hz, ⟨h0, h1, h2, h3⟩, ⟨h0', h1', h2', h3'⟩⟩
        case measure => simp [intOf]; omega
      .
       have hkk : Hid (k = a.pages.length) := by unfold Hid; omega
       have hP : Hid (eqP a.pages b.pages = true) := by unfold Hid; rw [<- hq.out, hkk.out, List.drop_length]; simp [eqP]
       clear hl3 hl4 g1 g2 g3 g4;have hge : a.pages.length <= k := by omega
       go_wp2
       go_loopw [6] (fun i wr => ∃ (k : Nat), k <= a.cache.length /\ i = .int .i64 k /\ eqC (a.cache.drop k) (b.cache.drop k) = eqC a.cache b.cache /\ Below w.heap.size w wr /\ w.heap.size + 1 < wr.heap.size /\ BoxD wr w.heap.size a.size a.left po co a.pages.length pc a.cache.length cc /\ BoxD wr (w.heap.size + 1) b.size b.left po' co' b.pages.length pc' b.cache.length cc') (fun i _ => a.cache.length - (intOf i).toNat)
       case atStart => exact ⟨0, Nat.zero_le _, rfl, rfl, hb, hz, hB0.out, hB0'.out⟩
       case round =>
        clear hB0 hB0' h0 h1 h2 h3 h0' h1' h2' h3' hb hz hge hk hlt;obtain ⟨k, hk, rfl, hq0, hb, hz, hB, hB'⟩ := hrel;have hq := zhI hq0; clear hq0;obtain ⟨h0, h1, h2, h3⟩ := hB;obtain ⟨h0', h1', h2', h3'⟩ := hB'
        by_cases hlt : k < a.cache.length
        .
         have hlt' : k < b.cache.length := by have := hl4h.out; omega
         obtain ⟨ba, offa, rfl, hcell0, hcell1, _⟩ := hc k hlt;obtain ⟨bb, offb, rfl, hcell0', hcell1', _⟩ := hc' k hlt';have hcell : wr.cell? ⟨ba, offa + k * 2, none⟩ = some (.int .i64 a.cache[k].page) := by rw [hb.cell (World.block_lt_of_cell? w _ hcell0)]; exact hcell0
         have hcell' : wr.cell? ⟨ba, offa + k * 2 + 1, none⟩ = some (.string a.cache[k].data) := by rw [hb.cell (World.block_lt_of_cell? w _ hcell1)]; exact hcell1
         have gcell : wr.cell? ⟨bb, offb + k * 2, none⟩ = some (.int .i64 b.cache[k].page) := by rw [hb.cell (World.block_lt_of_cell? w _ hcell0')]; exact hcell0'
         have gcell' : wr.cell? ⟨bb, offb + k * 2 + 1, none⟩ = some (.string b.cache[k].data) := by rw [hb.cell (World.block_lt_of_cell? w _ hcell1')]; exact hcell1'
         clear hcell0 hcell0' hcell1 hcell1';cases hs : (a.cache[k].page == b.cache[k].page)
         . go_wp2;go_quiet (fail);go_wp2;go_ret;exact ⟨by unfold sameW; rw [<- hq.out, List.drop_eq_getElem_cons hlt, List.drop_eq_getElem_cons hlt']; simp [eqC, hs], Below.drewN hb _⟩
         .
          cases ht : (a.cache[k].data.toList == b.cache[k].data.toList)
          . go_wp2;go_quiet (fail);go_wp2;go_ret;exact ⟨by rw [<- beq_toListBytes] at ht; unfold sameW; rw [<- hq.out, List.drop_eq_getElem_cons hlt, List.drop_eq_getElem_cons hlt']; simp [eqC, ht], Below.drewN hb _⟩
          .
           go_wp2;go_quiet (fail);go_wp2;go_roundw
           case rel => exact ⟨k + 1, by omega, by go_num, by rw [<- hq.out, List.drop_eq_getElem_cons hlt, List.drop_eq_getElem_cons hlt']; rw [<- beq_toListBytes] at ht; simp [eqC, hs, ht], Below.drewN hb _, hz, ⟨h0, h1, h2, h3⟩, ⟨h0', h1', h2', h3'⟩⟩
           case measure => simp [intOf]; omega
        .
         have hC : Hid (eqC a.cache b.cache = true) := by
          have e : k = a.cache.length := by omega
          unfold Hid; rw [<- hq.out, e, List.drop_length]; simp [eqC]
         go_wp2;go_ret;exact ⟨by have g1 := g1'.out; have g2 := g2'.out; simp at g1 g2; simp [sameW, hP.out, hC.out, hl3h.out, hl4h.out, g1, g2], hb⟩
    . go_enter Tryz.func18, Tryz.ntmps18;go_wp2;go_ret;exact ⟨by simp at g4; simp [sameW]; omega, hbw _ _⟩
   . go_enter Tryz.func18, Tryz.ntmps18;go_wp2;go_ret;exact ⟨by simp at g3; simp [sameW]; omega, hbw _ _⟩
  . go_enter Tryz.func18, Tryz.ntmps18;go_wp2;go_ret;exact ⟨by simp at g2; simp [sameW, g2], hbw _ _⟩
 . go_enter Tryz.func18, Tryz.ntmps18;go_wp2;go_ret;exact ⟨by simp at g1; simp [sameW, g1], hbw _ _⟩
structure Lat (W : World) where
 w : World
 h : Below W.heap.size W w
instance (W : World) : Nonempty (Lat W) := ⟨⟨W, Below.refl _ _⟩⟩
theorem zaE {P : Program} {id : Nat} {Q : Exit -> Act -> World -> Prop} {a : Act} {w : World} {l : List Oper} (hm : P.follows .mixedOrders = true) (hB : Region.lexB .any l.toArray = true)
  (h : wpQuiet P l.toArray (fun w' => ∃ x : Lat w, w' = x.w) (fun a' => ∀ w', (∃ x : Lat w, w' = x.w) -> Q .normal a' w') l a) : (Code.region id l.toArray true).wp P Q a w :=
 wp_region_quiet (C := fun w' => ∃ x : Lat w, w' = x.w) hm hB ⟨⟨_, (Below.refl _ _).drew⟩, rfl⟩ (by simpa using h)
theorem Calls.lat {P : Program} {f : FuncId} {args : Array Value} {W : World} {x : Lat W} {v : Value}
  (h : Calls P f args x.w fun e w' => e = .returned v /\ Below x.w.heap.size x.w w') : Calls P f args x.w fun e w' => e = .returned v /\ ∃ y : Lat W, w' = y.w :=
 h.mono fun _ _ ⟨he, hb⟩ => ⟨he, ⟨_, x.h.trans (hb.mono x.h.size)⟩, rfl⟩
theorem Lat.cells (W : World) : ∀ (x : Lat W) (b o : Nat), b < W.heap.size -> x.w.cell? ⟨b, o, none⟩ = W.cell? ⟨b, o, none⟩ := fun x _ _ h => x.h.cell (p := ⟨_, _, none⟩) h
theorem Below.one (w : World) (o : Obj) : Below w.heap.size w (w.alloc o) := (Below.refl _ _).alloc (Nat.le_refl _) _
theorem Below.then {w w1 w2 : World} {B : Nat} (h : Below B w w1) (k : Below w1.heap.size w1 w2) (hB : B <= w1.heap.size) : Below B w w2 := h.trans (k.mono hB)
theorem zm6 {size : Int} {l : List ByteArray} (h : ∀ s ∈ l, (s.size : Int) = size) : chkP size l = true := by
 induction l with
 | nil => rfl
 | cons x l ih => simp [chkP, h x (by simp), ih (fun s hs => h s (by simp [hs]))]
theorem zm5 {n : Nat} {size : Int} {l : List PW} (h : ∀ x ∈ l, 0 <= x.page /\ x.page < n /\ (x.data.size : Int) = size) : chkC n size l = 0 := by
 induction l with
 | nil => rfl
 | cons x l ih => obtain ⟨a, b, c⟩ := h x (by simp);rw [chkC, if_neg (by omega), if_neg (by simp [c])];exact ih (fun s hs => h s (by simp [hs]))
theorem ziK {d : Dsk} (h1 : za0 d.pages.length d.size = true) (h2 : ∀ s ∈ d.pages, (s.size : Int) = d.size) (h3 : ∀ x ∈ d.cache, 0 <= x.page /\ x.page < d.pages.length /\ (x.data.size : Int) = d.size) (h4 : -1 <= d.left) : chk d = 0 := by
 unfold chk;rw [if_neg (by simp [h1]), if_neg (by simp [zm6 h2]), if_neg (by simp [zm5 h3]), if_neg (by omega)]
theorem zbn {picks : List Int} {size : Int} : ∀ (l : List PW) (k : Nat) (ps : List ByteArray), (zbm picks size k l ps).length = ps.length
 | [], _, _ => rfl
 | x :: r, k, ps => by rw [zbm, zbn r]; simp
theorem zfr {α : Type} {P : α -> Prop} {l : List α} {i : Nat} {x : α} (h : ∀ y ∈ l, P y) (hx : P x) : ∀ y ∈ l.set i x, P y := by
 intro y hy;rcases List.mem_or_eq_of_mem_set hy with h' | rfl
 . exact h y h'
 . exact hx
theorem zeE {z : Int} {ps : List ByteArray} {i : Nat} (h : ∀ s ∈ ps, (s.size : Int) = z) (hi : i < ps.length) : ((ps.getD i ByteArray.empty).size : Int) = z := by
 simp only [List.getD, List.getElem?_eq_getElem hi, Option.getD_some];exact h _ (List.getElem_mem _)
theorem zd5 {picks : List Int} {k : Nat} {z : Int} {s : ByteArray} (hz : 0 <= z) (h : (s.size : Int) = z) : (zeF picks k z).toNat <= s.size := by
 have := (zjI picks k z hz).2;omega
theorem zcf {picks : List Int} {z : Int} (hz : 0 <= z) : ∀ (l : List PW) (k : Nat) (ps : List ByteArray), (∀ s ∈ ps, (s.size : Int) = z) -> (∀ x ∈ l, 0 <= x.page /\ x.page < ps.length /\ (x.data.size : Int) = z) -> ∀ s ∈ zbm picks z k l ps, (s.size : Int) = z
 | [], _, _, hp, _ => hp
 | x :: r, k, ps, hp, hl => by obtain ⟨h1, h2, h3⟩ := hl x (by simp);rw [zbm];refine zcf hz r (k + 1) _ (zfr hp ?_) (fun y hy => by have := hl y (by simp [hy]); simpa using this);have hg := zeE (i := x.page.toNat) hp (by omega);rw [zgS (zd5 hz h3) (by omega)];exact hg
theorem zjG {d : Dsk} (h : chk d = 0) (picks : List Int) : chk (zaT d picks) = 0 := by
 obtain ⟨h1, h2, h3, h4⟩ := zas h;have hr := zaf h1;unfold zaT;rw [if_neg (by simp [h])];refine ziK ?_ ?_ (by simp) (by simp)
 . simpa [zbn] using h1
 . exact zcf (by omega) d.cache 0 d.pages h2 h3
theorem zeG {d : Dsk} (h : chk d = 0) (picks : List Int) : (zaT d picks).pages.length = d.pages.length := by
 unfold zaT;rw [if_neg (by simp [h])];exact zbn _ _ _
theorem zjj {d : Dsk} (h : chk d = 0) (picks : List Int) : (zaT d picks).size = d.size := by
 unfold zaT;rw [if_neg (by simp [h])]
theorem zjx {d : Dsk} (h : chk d = 0) (l : Int) (hl : -1 <= l) : chk ⟨d.size, zan d, [], l⟩ = 0 := by
 obtain ⟨h1, h2, h3, h4⟩ := zas h;refine ziK ?_ ?_ (by simp) hl
 . simpa [zaM] using h1
 . exact zb7 h2 (fun x hx => (h3 x hx).2.2)
theorem ziB {d : Dsk} (h : -1 <= d.left) : -1 <= (opD d).left := by unfold opD; simp only; split <;> omega
theorem zkB {d : Dsk} (h : chk d = 0) {i : Int} {data : ByteArray} (h1 : 0 <= i) (h2 : i < d.pages.length) (h3 : (data.size : Int) = d.size) : chk { opD d with cache := d.cache ++ [⟨i, data⟩] } = 0 := by
 obtain ⟨g1, g2, g3, g4⟩ := zas h;refine ziK g1 g2 ?_ (ziB g4);intro x hx;rcases zmA.1 hx with hx | hx
 . exact g3 x hx
 . obtain rfl := zmS.1 hx;exact ⟨h1, h2, h3⟩
theorem zgg {d : Dsk} (h : chk d = 0) {k : Nat} (hk : k < d.pages.length) : readD d k = (zak d k hk, 0) := by
 unfold readD;rw [if_neg (by simp [h]), if_neg (by omega)];simp [hk]
theorem zh3 (d : Dsk) : ((zaR d).2 = 1 /\ chk d ≠ 0 /\ (zaR d).1 = zeroD) \/ ((zaR d).2 = 18 /\ chk d = 0 /\ d.left = 0 /\ (zaR d).1 = d) \/ ((zaR d).2 = 0 /\ chk d = 0 /\ d.left ≠ 0 /\ (zaR d).1 = ⟨d.size, zan d, [], (opD d).left⟩) := by
 unfold zaR
 by_cases h : chk d ≠ 0
 . simp [h]
 . by_cases h' : d.left = 0 <;> simp [h, h'] <;> simpa using h
theorem zh7 (d : Dsk) (i : Int) (data : ByteArray) : ((zaK d i data).2 ≠ 0 /\ (zaK d i data).2 ≠ 18 /\ (zaK d i data).1 = zeroD) \/
  (chk d = 0 /\ 0 <= i /\ i < d.pages.length /\ (data.size : Int) = d.size /\ (((zaK d i data).2 = 18 /\ d.left = 0 /\ (zaK d i data).1 = d) \/ ((zaK d i data).2 = 0 /\ d.left ≠ 0 /\ (zaK d i data).1 = { opD d with cache := d.cache ++ [⟨i, data⟩] }))) := by
 unfold zaK
 by_cases h : chk d ≠ 0
 . simp [h]
 .
  by_cases h1 : i < 0 \/ (d.pages.length : Int) <= i
  . simp [h, h1]
  .
   by_cases h2 : (data.size : Int) ≠ d.size
   . rw [if_neg h, if_neg h1, if_pos h2]; simp
   .
    right;refine ⟨by simpa using h, by omega, by omega, by simpa using h2, ?_⟩;rw [if_neg h, if_neg h1, if_neg h2]
    by_cases h3 : d.left = 0 <;> simp [h3]
theorem zfZ {d : Dsk} {i : Int} {data : ByteArray} {k : Nat} (hk : k < d.pages.length) (e : Dsk) (he : e = { opD d with cache := d.cache ++ [⟨i, data⟩] }) (hk' : k < e.pages.length) :
  zak e k hk' = if i = k then data else zak d k hk := by
 subst he;unfold zak;simp only [opD];rw [zg4];rfl
theorem zgm {d : Dsk} {l : Int} {k : Nat} (hk : k < d.pages.length) (e : Dsk) (he : e = ⟨d.size, zan d, [], l⟩) (hk' : k < e.pages.length) : zak e k hk' = zak d k hk := by
 subst he;simp [zak, zan, lastW]
theorem ziZ {picks : List Int} {z : Int} {ps : List ByteArray} : zbm picks z 0 [] ps = ps := rfl
theorem zf5 {d : Dsk} (h : chk d = 0) (picks : List Int) {k : Nat} (hk' : k < (zaT d picks).pages.length) :
  zak (zaT d picks) k hk' = (zbm picks d.size 0 d.cache d.pages)[k]'(by rw [zbn]; rwa [zeG h] at hk') := by
 have e : zaT d picks = ⟨d.size, zbm picks d.size 0 d.cache d.pages, [], -1⟩ := by unfold zaT; rw [if_neg (by simp [h])]
 have : ∀ (e' : Dsk) (hk'' : k < e'.pages.length), e' = ⟨d.size, zbm picks d.size 0 d.cache d.pages, [], -1⟩ -> zak e' k hk'' = (zbm picks d.size 0 d.cache d.pages)[k]'(by rw [zbn]; rwa [zeG h] at hk') := by rintro e' hk'' rfl;simp [zak, lastW]
 exact this _ hk' e
def zb9 (s : ByteArray) (i : Nat) : UInt8 := s.data[i]?.getD 0
theorem zh0 {n : Nat} {a b : ByteArray} (h : n <= a.size) (i : Nat) : zb9 (tear n a b) i = zb9 (if i < n then a else b) i \/ b.size < n := by
 by_cases hb : b.size < n
 . exact .inr hb
 .
  left;unfold zb9 tear;rw [ByteArray.data_append, ByteArray.data_extract, ByteArray.data_extract];rw [Array.getElem?_append];have e1 : (a.data.extract 0 n).size = n := by simp; omega
  rw [e1]
  by_cases hi : i < n
  . rw [if_pos hi, if_pos hi, Array.getElem?_extract];simp;rw [if_pos (by omega)]
  .
   rw [if_neg hi, if_neg hi, Array.getElem?_extract];simp;have hz : b.data.size = b.size := rfl
   by_cases hib : i < b.size
   . rw [if_pos (by omega)];rw [show n + (i - n) = i from by omega]
   . rw [if_neg (by omega), Array.getElem?_eq_none (by omega)]
theorem zex {picks : List Int} {z : Int} (hz : 0 <= z) (j i : Nat) : ∀ (l : List PW) (k : Nat) (ps : List ByteArray), (∀ s ∈ ps, (s.size : Int) = z) -> (∀ x ∈ l, 0 <= x.page /\ x.page < ps.length /\ (x.data.size : Int) = z) -> (hj : j < ps.length) ->
  zb9 ((zbm picks z k l ps).getD j ByteArray.empty) i = zb9 ps[j] i \/ ∃ x ∈ l, x.page = j /\ zb9 ((zbm picks z k l ps).getD j ByteArray.empty) i = zb9 x.data i
 | [], _, ps, _, _, hj => by left; simp [zbm, List.getD, hj]
 | x :: r, k, ps, hp, hl, hj => by
  obtain ⟨h1, h2, h3⟩ := hl x (by simp);have hg := zeE (i := x.page.toNat) hp (by omega);rw [zbm];rcases zex (picks := picks) hz j i r (k + 1) (ps.set x.page.toNat (tear (zeF picks k z).toNat x.data (ps.getD x.page.toNat ByteArray.empty))) (zfr hp (by rw [zgS (zd5 hz h3) (by omega)]; exact hg)) (fun y hy => by have := hl y (by simp [hy]); simpa using this) (by simpa using hj) with h | ⟨y, hy, h⟩
  .
   rw [h, List.getElem_set]
   by_cases hx : x.page.toNat = j
   .
    rw [if_pos hx];have hbz : (ps.getD x.page.toNat ByteArray.empty).size = x.data.size := by omega
    rcases zh0 (b := ps.getD x.page.toNat ByteArray.empty) (zd5 (picks := picks) (k := k) hz h3) i with h' | h'
    .
     rw [h'];split
     . exact .inr ⟨x, by simp, by omega, rfl⟩
     . left;rw [hx];simp [List.getD, hj]
    . exact absurd (zd5 (picks := picks) (k := k) hz h3) (by omega)
   . rw [if_neg hx]; exact .inl rfl
  . exact .inr ⟨y, by simp [hy], h⟩
theorem zix : ∀ l, eqP l l = true
 | [] => rfl
 | x :: l => by rw [eqP, zix l, beq_toListBytes]; simp
theorem ziR : ∀ l, eqC l l = true
 | [] => rfl
 | x :: l => by rw [eqC, ziR l, beq_toListBytes]; simp
theorem zjg (d : Dsk) : sameW d d = true := by simp [sameW, zix, ziR]
theorem zjZ (a : Dsk) (va vb : Value) (w : World) {S S' : Nat -> Prop} (hD : DskR S w va a) (hE : DskR S' w vb a) :
  Calls Tryz.prog 18 #[va, vb] w fun e w' => e = .returned (.bool true) /\ Below w.heap.size w w' := by
 rw [<- zjg a]; exact zhU a a va vb w hD hE
theorem btr {w w1 w2 : World} (h : Below w.heap.size w w1) (k : Below w1.heap.size w1 w2) : Below w.heap.size w w2 := Below.then h k h.size
def numC (n k : Nat) : List UInt8 := List.replicate (8 - k) 0 ++ (num8 n).drop (8 - k)
theorem zly (n k : Nat) (hk : k < 8) : (zao (numC n k)).toArray[7 - k]? = some (.int .u8 0) := by
 have h : (numC n k)[7 - k]? = some 0 := by unfold numC;rw [List.getElem?_append_left (by rw [List.length_replicate]; omega), List.getElem?_replicate, if_pos (by omega)]
 simp [zao, h]
theorem zlw (n k : Nat) (hk : k < 8) : (zao (numC n k)).toArray.setIfInBounds (7 - k) (.int .u8 ((n : Int) / 2 ^ (8 * k) % 256)) = (zao (numC n (k + 1))).toArray := by
 have e : ((n : Int) / 2 ^ (8 * k) % 256) = ((n / 2 ^ (8 * k) % 256 : Nat) : Int) := by rw [Int.natCast_emod, Int.natCast_ediv, Int.natCast_pow]; rfl
 rw [e];rcases k with _ | _ | _ | _ | _ | _ | _ | _ | k
 case succ => omega
 all_goals simp [zao, numC, num8]
theorem zli (n : Nat) : numC n 8 = num8 n := by simp [numC]
theorem or8 (m c : Nat) (hm : m < 72057594037927936) (hc : c < 256) : bits .or .i64 (wrap64 ((m : Int) * 256)) (wrap64 (c : Int)) = wrap64 ((m : Int) * 256 + c) := by
 have h1 : (BitVec.ofInt 64 (wrap64 ((m : Int) * 256))).toNat = m * 256 := by rw [BitVec.toNat_ofInt]; unfold wrap64; omega
 have h2 : (BitVec.ofInt 64 (wrap64 (c : Int))).toNat = c := by rw [BitVec.toNat_ofInt]; unfold wrap64; omega
 have h3 : m * 256 ||| c = m * 256 + c := by have := Nat.shiftLeft_add_eq_or_of_lt (b := c) (i := 8) (by omega) m;rw [Nat.shiftLeft_eq] at this;simpa using this.symm
 show IntKind.i64.wrap ((BitVec.ofInt 64 (wrap64 ((m : Int) * 256)) ||| BitVec.ofInt 64 (wrap64 (c : Int))).toNat : Int) = _;rw [BitVec.toNat_or, h1, h2, h3];simp [IntKind.wrap, IntKind.bits, IntKind.signed, wrap64];split <;> omega
theorem zmm (x : Int) : -9223372036854775808 <= wrap64 x /\ wrap64 x <= 9223372036854775807 := by unfold wrap64; omega
theorem or8s (m : Nat) (c : UInt8) (hm : m <= 281474976710656) : bits .or .i64 ((m : Int) * 256) (wrap64 (c.toNat : Int)) = ((m * 256 + c.toNat : Nat) : Int) := by
 have hc := c.toNat_lt;have := or8 m c.toNat (by omega) (by omega);rw [IntWalk.wrap64_in ((m : Int) * 256) (by omega), IntWalk.wrap64_in ((m : Int) * 256 + c.toNat) (by omega)] at this;rw [this];simp
end Go.Proofs.YtlefmmhlpgmbjaaGreat
