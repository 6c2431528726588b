/- disk.Flush (layer 40): the two failing ways, and all together; the reference's Flush. Contracts of Same and Great of the reference of layer 40. law 40's 'awake': it returns true. Regions that draw their order, whose operations read what was there before and whose callees may make memory but answer with one value whatever they find above it: walked once, in the order of the text. Two words on worlds that grow. Small lemmas that the walks of layer 40's laws share. Numbers of 8 bytes: pagelog.number, pagelog.value, pagelog.header; the reference's number, value, Header. A header read: pagelog.read; quiltref41.header's own part is in PReadR. -/
import Derived.Test.YtghikgjknhjjgaaGreatDoorQ04
import Derived.Test.YtghikgjknhjjgaaGreatDoorQ01
import Derived.BigQuiet
import Derived.Deep.QuietTactic
import Derived.WalkKit
import Derived.Below
import Derived.Deep.RegionWith
import Derived.Test.YtghikgjknhjjgaaGreatDoorQ03
namespace Go.Proofs.YtghikgjknhjjgaaGreatDoor
set_option maxRecDepth 100000
open Go.RowKit
set_option maxHeartbeats 1000000 in
theorem disk_flush (d : Dsk) (v : Value) (w : World) {S : Nat → Prop} (hS : InS S w) (hD : DskR S w v d) :
  Calls Tryz.prog 32 #[v] w (RetDE S w (flushD d).1 (flushD d).2) := by
 have hbw : ∀ o o', Below w.heap.size w ((w.alloc o).alloc o') := fun o o' => ((Below.refl _ _).alloc (Nat.le_refl _) _).alloc (by simp) _
 unfold flushD
 cases hz : (chk d != 0)
 ·
  rw [if_neg (by simpa using hz)]
  cases g4 : (d.left == 0)
  ·
   rw [if_neg (by simpa using g4)]
   exact disk_flush_ok d v w hS hD hz g4
  ·
   rw [if_pos (by simpa using g4)]
   have hD0 := hD
   obtain ⟨po, pc, co, cc, rfl, hp, hc, ok⟩ := hD
   clear hp hc ok
   have hpw : ∀ (W : World) (v : Value), DskR S W v d → Calls Tryz.prog 66 #[v] W (RetDB S W d false) := fun W v h => by have := disk_power d v W h; rw [if_pos (by simpa using g4), g4] at this; exact this
   go_enter Tryz.func32, Tryz.ntmps32
   go_wp2_with fail
   refine (disk_check d _ _ (hD0.below (hbw _ _))).mono ?_
   rintro e w1 ⟨rfl, hb1⟩
   have xA := ((Bx.new w _ _).alloc _).belowAll hb1
   have xR := (Bx.new (w.alloc _) _ _).belowAll hb1
   rw [World.size_alloc] at xR
   have cA := xA.cell
   have fA := xA.free
   have cR := xR.cell
   have fR := xR.free
   have hB : Below w.heap.size w w1 := (hbw _ _).trans (hb1.mono (by simp; omega))
   have hlA := xA.lt
   have hlR := xR.lt
   go_wp2_with fail
   refine (hpw _ _ ((hD0.below (hbw _ _)).below hb1)).mono ?_
   rintro e w2 ⟨v2, rfl, hD2, hb2⟩
   have xA2 := xA.belowAll hb2
   have xR2 := xR.belowAll hb2
   have hB2 : Below w.heap.size w w2 := hB.trans (hb2.mono (by omega))
   clear cA fA cR fR
   have hE2 := hD2
   obtain ⟨po2, pc2, co2, cc2, rfl, hp2, hc2, ok2⟩ := hD2
   have cA := xA2.cell
   have fA := xA2.free
   have cR := xR2.cell
   have fR := xR2.free
   have hlA2 := xA2.lt
   have hlR2 := xR2.lt
   have nA : ¬ Gr S w1 w2 w.heap.size := by rintro (h | h); exact absurd (hS _ h) (by omega); omega
   have nR : ¬ Gr S w1 w2 (w.heap.size + 1) := by rintro (h | h); exact absurd (hS _ h) (by omega); omega
   go_wp2
   refine bodyPost_ret (v := .tuple #[.agg #[.int .i64 d.size, .slice po2 d.pages.length pc2, .slice co2 d.cache.length cc2, .int .i64 d.left], .int .i64 18]) (by simp [results, Tryz.results32, go_sem, cR]) rfl ?_
   refine ⟨_, rfl, (hE2.same ?_).mono ?_, ?_⟩
   ·
    exact ((Same.refl _ _).set4 nA).set4 nR
   ·
    rintro b (h | h)
    ·
     exact .inl h
    ·
     exact .inr (by simp; omega)
   ·
    exact below_set4 (b := w.heap.size + 1) (below_set4 (b := w.heap.size) hB2 (Nat.le_refl _)) (by omega)
 ·
  rw [if_pos (by simpa using hz)]
  have hD0 := hD
  obtain ⟨po, pc, co, cc, rfl, hp, hc, ok⟩ := hD
  go_enter Tryz.func32, Tryz.ntmps32
  go_wp2_with fail
  refine (disk_check d _ _ (hD0.below (hbw _ _))).mono ?_
  rintro e w1 ⟨rfl, hb1⟩
  have xR := (Bx.new (w.alloc _) _ _).belowAll hb1
  rw [World.size_alloc] at xR
  have cR := xR.cell
  have fR := xR.free
  have hB : Below w.heap.size w w1 := (hbw _ _).trans (hb1.mono (by simp; omega))
  go_wp2
  refine bodyPost_ret (v := .tuple #[.agg #[.int .i64 0, .slice none 0 0, .slice none 0 0, .int .i64 0], .int .i64 1]) (by simp [results, Tryz.results32, go_sem, cR]) rfl ?_
  exact ⟨_, rfl, zero_DskR _, below_set4 (b := w.heap.size + 1) hB (by omega)⟩
theorem flush_ok2 {d : Dsk} {o : Option Addr} {c : Nat} {l : Int} (hp : ∀ s ∈ d.pages, (s.size : Int) = d.size) (hc : ∀ x ∈ d.cache, (x.data.size : Int) = d.size) (hn : d.pages.length ≤ 2000) (hs : d.size ≤ 512) (hl : -9223372036854775808 ≤ l ∧ l ≤ 9223372036854775807)
  (ho : SlW o d.pages.length c) : DskOk ⟨d.size, contentsD d, [], l⟩ o none c 0 :=
 ⟨by rw [show (⟨d.size, contentsD d, [], l⟩ : Dsk).pages.length = d.pages.length from contentsD_len d]; exact ho, .inl ⟨rfl, rfl, rfl⟩, by simp only [contentsD_len]; omega, by simp, fun s h => by have := contents_size hp hc s h; omega, by simp, hl⟩
theorem contentsD_get (d : Dsk) (k : Nat) (h : k < d.pages.length) : (contentsD d)[k]? = some (contentD d k h) := by simp [contentsD, h]
theorem contentsD_take (d : Dsk) (k : Nat) (h : k < d.pages.length) : (contentsD d).take (k + 1) = (contentsD d).take k ++ [contentD d k h] := by
 rw [List.take_add_one, contentsD_get d k h]; rfl
set_option maxHeartbeats 2000000 in
theorem ref40_flush_ok (d : Dsk) (v : Value) (w : World) {S : Nat → Prop} (_hS : InS S w) (hD : DskR S w v d) (hz : (chk d != 0) = false) (g4 : (d.left == 0) = false) :
  Calls Tryz.prog 40 #[v] w (RetDE S w ⟨d.size, contentsD d, [], (opD d).left⟩ 0) := by
 obtain ⟨v1, v2, v3, v4⟩ := chk_zero (by simpa using hz)
 have hr := rangedB_true v1
 have hD0 := hD
 obtain ⟨po, pc, co, cc, rfl, hp, hc, ok⟩ := hD
 have ok1 := ok.pages
 have okW := Lib.hid ok
 clear ok hp hc
 obtain ⟨i0, hi, hz0, hz1, hz2⟩ := info_parts infoStr
 have hbw : ∀ o o', Below w.heap.size w ((w.alloc o).alloc o') := fun o o' => ((Below.refl _ _).alloc (Nat.le_refl _) _).alloc (by simp) _
 have hpw : ∀ (W : World) (v : Value), DskR S W v d → Calls Tryz.prog 71 #[v] W (RetDE S W (opD d) 0) := fun W v h => by have := ref40_operate d v W h; rw [if_neg (by simpa using g4), if_neg (by simpa using g4)] at this; exact this
 go_enter Tryz.func40, Tryz.ntmps40
 go_wp2_with fail
 refine (ref40_check d _ _ (hD0.below (hbw _ _))).mono ?_
 rintro e w1 ⟨rfl, hb1⟩
 have xA := ((Bx.new w _ _).alloc _).belowAll hb1
 have xR := (Bx.new (w.alloc _) _ _).belowAll hb1
 rw [World.size_alloc] at xR
 have cA := xA.cell
 have fA := xA.free
 have cR := xR.cell
 have fR := xR.free
 have hB : Below w.heap.size w w1 := (hbw _ _).trans (hb1.mono (by simp; omega))
 have hlA := xA.lt
 have hlR := xR.lt
 go_wp2_with fail
 refine (hpw _ _ ((hD0.below (hbw _ _)).below hb1)).mono ?_
 rintro e w2 ⟨v2', rfl, hD2, hb2⟩
 have xA2 := xA.belowAll hb2
 have xR2 := xR.belowAll hb2
 have hB2 : Below w.heap.size w w2 := hB.trans (hb2.mono (by omega))
 clear cA fA cR fR
 obtain ⟨po2, pc2, co2, cc2, rfl, _, _, ok2⟩ := hD2
 have okl := Lib.hid ok2.left
 clear ok2
 have cA := xA2.cell
 have fA := xA2.free
 have cR := xR2.cell
 have fR := xR2.free
 have hlA2 := xA2.lt
 have hlR2 := xR2.lt
 have hw12 : w.heap.size + 1 < w2.heap.size := hlR2
 have hvh := Lib.hid (And.intro v2 v3)
 have hp2000 : d.pages.length ≤ 2000 := by omega
 have hs512 : d.size ≤ 512 := hr.2.2.2
 clear v2 v3 hr
 go_wp2
 clear cA fA cR fR
 go_loopw [6] (fun i wr => ∃ (k : Nat) (v : Value), k ≤ d.pages.length ∧ i = .int .i64 k ∧ wr.ownsRow (w2.heap.size + 1) 9 1 v k (((contentsD d).take k).map .string) ∧ Bx wr w.heap.size #[.int .i64 d.size, .slice po d.pages.length pc, .slice co d.cache.length cc, .int .i64 d.left] 25 ∧ Bx wr (w.heap.size + 1) #[.int .i64 0, .slice none 0 0, .slice none 0 0, .int .i64 0] 25 ∧ Bx wr w2.heap.size #[.int .i64 (opD d).size, v, .slice co2 (opD d).cache.length cc2, .int .i64 (opD d).left] 25 ∧ Below w.heap.size w wr) (fun i _ => d.pages.length - (intOf i).toNat)
 case atStart =>
  exact ⟨0, _, Nat.zero_le _, rfl, World.ownsRow_nil _ _ _ _, xA2.alloc _, xR2.alloc _, Bx.new w2 _ _, hB2.alloc (by omega) _⟩
 case round =>
  clear xA2 xR2 hb2 hlA2 hlR2
  obtain ⟨k, v, hk, rfl, hown, xA, xR, xN, hB⟩ := hrel
  have hlA' := xA.lt
  have hlR' := xR.lt
  have hlN := xN.lt
  have cA := xA.cell
  have fA := xA.free
  have cR := xR.cell
  have fR := xR.free
  have cN := xN.cell
  have fN := xN.free
  by_cases hlt : k < d.pages.length
  ·
   have hcon : ∀ W, Below w.heap.size w W → Calls Tryz.prog 72 #[.agg #[.int .i64 d.size, .slice po d.pages.length pc, .slice co d.cache.length cc, .int .i64 d.left], .int .i64 k] W fun e w' => e = .returned (.string (contentD d k hlt)) ∧ Below W.heap.size W w' := fun W h => ref40_content d _ k hlt W (hD0.below h)
   obtain ⟨z, ez⟩ : ∃ z, contentD d k hlt = z := ⟨_, rfl⟩
   rw [ez] at hcon
   have ezh := Lib.hid ez
   clear ez
   go_wp2
   go_region_law (first
    | (refine step_app rfl (.tmp 29) (.tmp 33) 22 rfl (w2.heap.size + 1) 9 i0 _ 1 16 Tryz.underlying22 hi hz0 hz1 hz2 rfl (by decide) v k _ rfl (hown2.alloc _) _ 1 1 [.string z] rfl (by intro e; cases e) rfl (RowAt.bx (Bx.new w3 _ _)) (by simp [Value.oneCell']) (by unfold maxLen; omega) (by omega) (by simp; omega) ?_; intro v4 w4 hown3 hg3; clear cA2 fA2 cR2 fR2 cN2 fN2; obtain ⟨o3, c3, rfl, hs3, hr3, ho3⟩ := ownsRow_at hown3; have xA4 := (xA3.alloc _).grown hg3 (by intro e; have := (hown2.lt _ e.symm).1; omega); have xR4 := (xR3.alloc _).grown hg3 (by intro e; have := (hown2.lt _ e.symm).1; omega); have xN4 := (xN3.alloc _).grown hg3 (by intro e; have := (hown2.lt _ e.symm).1; omega); have cA3 := xA4.cell; have fA3 := xA4.free; have cR3 := xR4.cell; have fR3 := xR4.free; have cN3 := xN4.cell; have fN3 := xN4.free)
    | (go_simp; go_at_call 72; refine (hcon _ (by first | exact hB.drew | exact hB)).mono ?_; rintro e w3 ⟨rfl, hb3⟩; have xA3 := xA.drew.belowAll hb3; have xR3 := xR.drew.belowAll hb3; have xN3 := xN.drew.belowAll hb3; have hown2 := ownsRow_belowAll hown.drew hb3; have hB3 := hB.drew.trans (hb3.mono hB.size); have hl2 := xN3.lt; clear cA fA cR fR cN fN; have cA2 := xA3.cell; have fA2 := xA3.free; have cR2 := xR3.cell; have fR2 := xR3.free; have cN2 := xN3.cell; have fN2 := xN3.free))
   all_goals
    have hB4 : Below w.heap.size w w4 := (hB3.alloc (by omega) _).grown hg3 (by simp; omega) (by intro j e; have := (hown2.lt _ e).1; omega)
    go_wp2
    go_roundw
    case rel =>
     refine ⟨k + 1, _, by omega, by go_num, ?_, xA4.setO (by simp; omega) _, xR4.setO (by simp; omega) _, by simpa using xN4.set 1 _, below_set1 hB4 (by omega)⟩
     rw [contentsD_take d k hlt, ezh.out, List.map_append]; exact ownsRow_setB hown3 (by omega) _
    case measure => simp [intOf]; omega
  ·
   obtain rfl : k = d.pages.length := by omega
   rw [List.take_of_length_le (by rw [contentsD_len]; exact Nat.le_refl _)] at hown
   obtain ⟨o2, c2, rfl, hs2, hr2, ho2⟩ := ownsRow_at hown
   go_wp2
   refine bodyPost_ret (v := .tuple #[.agg #[.int .i64 (opD d).size, .slice o2 d.pages.length c2, .slice none 0 0, .int .i64 (opD d).left], .int .i64 0]) (by simp [results, Tryz.results40, go_sem, cR]) rfl ?_
   refine ⟨_, rfl, ⟨o2, c2, none, 0, by simp only [contentsD_len]; rfl, ?_, by intro i h; simp at h, flush_ok2 hvh.out.1 (fun x hx => (hvh.out.2 x hx).2.2) hp2000 hs512 okl.out hs2⟩, below_set4 (b := w.heap.size + 1) (below_set1 (b := w2.heap.size) hB (by omega)) (by omega)⟩
   refine StrsAt.mono (S := fun b => w2.heap.size + 1 ≤ b ∧ b < wr.heap.size) ?_ (fun b h => Gr.new (by omega) (by simp only [World.size_setCell]; omega))
   exact (StrsAt.of_row hr2).same (((Same.refl _ _).set1 (b := w2.heap.size) (by omega)).set4 (b := w.heap.size + 1) (by omega))
set_option maxHeartbeats 1000000 in
theorem ref40_flush (d : Dsk) (v : Value) (w : World) {S : Nat → Prop} (hS : InS S w) (hD : DskR S w v d) :
  Calls Tryz.prog 40 #[v] w (RetDE S w (flushD d).1 (flushD d).2) := by
 have hbw : ∀ o o', Below w.heap.size w ((w.alloc o).alloc o') := fun o o' => ((Below.refl _ _).alloc (Nat.le_refl _) _).alloc (by simp) _
 unfold flushD
 cases hz : (chk d != 0)
 ·
  rw [if_neg (by simpa using hz)]
  cases g4 : (d.left == 0)
  ·
   rw [if_neg (by simpa using g4)]
   exact ref40_flush_ok d v w hS hD hz g4
  ·
   rw [if_pos (by simpa using g4)]
   have hD0 := hD
   obtain ⟨po, pc, co, cc, rfl, hp, hc, ok⟩ := hD
   clear hp hc ok
   have hpw : ∀ (W : World) (v : Value), DskR S W v d → Calls Tryz.prog 71 #[v] W (RetDE S W d 18) := fun W v h => by have := ref40_operate d v W h; rw [if_pos (by simpa using g4), if_pos (by simpa using g4)] at this; exact this
   go_enter Tryz.func40, Tryz.ntmps40
   go_wp2_with fail
   refine (ref40_check d _ _ (hD0.below (hbw _ _))).mono ?_
   rintro e w1 ⟨rfl, hb1⟩
   have xA := ((Bx.new w _ _).alloc _).belowAll hb1
   have xR := (Bx.new (w.alloc _) _ _).belowAll hb1
   rw [World.size_alloc] at xR
   have cA := xA.cell
   have fA := xA.free
   have cR := xR.cell
   have fR := xR.free
   have hB : Below w.heap.size w w1 := (hbw _ _).trans (hb1.mono (by simp; omega))
   have hlA := xA.lt
   have hlR := xR.lt
   go_wp2_with fail
   refine (hpw _ _ ((hD0.below (hbw _ _)).below hb1)).mono ?_
   rintro e w2 ⟨v2, rfl, hD2, hb2⟩
   have xA2 := xA.belowAll hb2
   have xR2 := xR.belowAll hb2
   have hB2 : Below w.heap.size w w2 := hB.trans (hb2.mono (by omega))
   clear cA fA cR fR
   have hE2 := hD2
   obtain ⟨po2, pc2, co2, cc2, rfl, hp2, hc2, ok2⟩ := hD2
   have cA := xA2.cell
   have fA := xA2.free
   have cR := xR2.cell
   have fR := xR2.free
   have hlA2 := xA2.lt
   have hlR2 := xR2.lt
   have nA : ¬ Gr S w1 w2 w.heap.size := by rintro (h | h); exact absurd (hS _ h) (by omega); omega
   have nR : ¬ Gr S w1 w2 (w.heap.size + 1) := by rintro (h | h); exact absurd (hS _ h) (by omega); omega
   go_wp2
   refine bodyPost_ret (v := .tuple #[.agg #[.int .i64 d.size, .slice po2 d.pages.length pc2, .slice co2 d.cache.length cc2, .int .i64 d.left], .int .i64 18]) (by simp [results, Tryz.results40, go_sem, cR, hlR2]) rfl ?_
   have hin : InS (Gr S w1 w2) w2 := fun b h => by rcases h with h | h; exact Nat.lt_of_lt_of_le (hS _ h) (by omega); omega
   refine ⟨_, rfl, DskR.mono (S := Gr S w1 w2) ?_ (fun b h => by rcases h with h | h; exact .inl h; exact Gr.new (by omega) (by simp; omega)), ?_⟩
   ·
    exact hE2.same (((Same.refl _ _).set4 nR).alloc (hin.size (by simp)) _)
   ·
    exact (below_set4 (b := w.heap.size + 1) hB2 (by omega)).alloc (by simp; omega) _
 ·
  rw [if_pos (by simpa using hz)]
  have hD0 := hD
  obtain ⟨po, pc, co, cc, rfl, hp, hc, ok⟩ := hD
  go_enter Tryz.func40, Tryz.ntmps40
  go_wp2_with fail
  refine (ref40_check d _ _ (hD0.below (hbw _ _))).mono ?_
  rintro e w1 ⟨rfl, hb1⟩
  have xR := (Bx.new (w.alloc _) _ _).belowAll hb1
  rw [World.size_alloc] at xR
  have cR := xR.cell
  have fR := xR.free
  have hB : Below w.heap.size w w1 := (hbw _ _).trans (hb1.mono (by simp; omega))
  go_wp2
  refine bodyPost_ret (v := .tuple #[.agg #[.int .i64 0, .slice none 0 0, .slice none 0 0, .int .i64 0], .int .i64 1]) (by simp [results, Tryz.results40, go_sem, cR]) rfl ?_
  exact ⟨_, rfl, zero_DskR _, below_set4 (b := w.heap.size + 1) hB (by omega)⟩
end Go.Proofs.YtghikgjknhjjgaaGreatDoor
namespace Go.Proofs.YtghikgjknhjjgaaGreatDoor
set_option maxRecDepth 100000
open Go.RowKit
def wsum : List ByteArray → Int → Int
 | [], n => n
 | s :: r, n => wsum r (wrap64 (n + s.size))
theorem wsum_step {l : List ByteArray} {k : Nat} (h : k < l.length) (n : Int) : wsum (l.drop k) n = wsum (l.drop (k+1)) (wrap64 (n + l[k].size)) := by
 rw [List.drop_eq_getElem_cons h, wsum]
def greatW (pages : List ByteArray) (cache : List PW) : Bool := decide (12 < pages.length) || decide (20 < cache.length) || decide (4000 < wsum (cache.map (·.data)) (wsum pages 0))
set_option maxHeartbeats 1000000 in
theorem ref40_great0 (d : Dsk) (v : Value) (w : World) {S : Nat → Prop} (hD : DskR S w v d) :
  Calls Tryz.prog 20 #[v] w fun e w' => e = .returned (.bool (greatW d.pages d.cache)) ∧ Below w.heap.size w w' := by
 obtain ⟨po, pc, co, cc, rfl, hp, hc, ok⟩ := hD
 have ok1 := ok.pages
 have ok2 := ok.cache
 have oks := ok.strs
 have okd := ok.datas
 clear ok
 go_enter Tryz.func20, Tryz.ntmps20
 go_wp2
 go_loopw [3, 4] (fun n i wr => ∃ (k : Nat) (m : Int), k ≤ d.pages.length ∧ n = .int .i64 m ∧ i = .int .i64 k ∧ wsum (d.pages.drop k) m = wsum d.pages 0 ∧ Below w.heap.size w wr ∧ w.heap.size < wr.heap.size ∧ BoxD wr w.heap.size d.size d.left po co d.pages.length pc d.cache.length cc) (fun _ i _ => d.pages.length - (intOf i).toNat)
 case atStart => exact ⟨0, 0, Nat.zero_le _, rfl, rfl, rfl, (Below.refl _ _).alloc (Nat.le_refl _) _, by simp, by simp, by simp, by simp, by simp⟩
 case round =>
  obtain ⟨k, m, hk, rfl, rfl, hq0, hb, hz, hB⟩ := hrel
  have hq := Lib.hid hq0; clear hq0
  have hB0 := Lib.hid hB
  obtain ⟨h0, h1, h2, h3⟩ := hB
  by_cases hlt : k < d.pages.length
  ·
   obtain ⟨b, off, rfl, hcell0, _⟩ := hp k hlt
   have hcell : wr.cell? ⟨b, off + k, none⟩ = some (.string d.pages[k]) := by rw [hb.cell (World.block_lt_of_cell? w _ hcell0)]; exact hcell0
   clear hcell0
   go_wp2
   go_roundw
   case rel => exact ⟨k + 1, _, by omega, rfl, by go_num, by rw [← wsum_step hlt m]; exact hq.out, hb, hz, h0, h1, h2, h3⟩
   case measure => simp [intOf]; omega
  ·
   obtain rfl : k = d.pages.length := by omega
   have hP : Hid (m = wsum d.pages 0) := by rw [← hq.out]; simp [wsum, Hid]
   clear hlt hk hq
   go_wp2
   go_loopw [3, 5] (fun n i wr => ∃ (k : Nat) (q : Int), k ≤ d.cache.length ∧ n = .int .i64 q ∧ i = .int .i64 k ∧ wsum ((d.cache.map (·.data)).drop k) q = wsum (d.cache.map (·.data)) m ∧ Below w.heap.size w wr ∧ w.heap.size < wr.heap.size ∧ BoxD wr w.heap.size d.size d.left po co d.pages.length pc d.cache.length cc) (fun _ i _ => d.cache.length - (intOf i).toNat)
   case atStart => exact ⟨0, m, Nat.zero_le _, rfl, rfl, rfl, hb, hz, hB0.out⟩
   case round =>
    clear hB0 h0 h1 h2 h3 hb hz
    obtain ⟨k, q, hk, rfl, rfl, hq0, hb, hz, hB⟩ := hrel
    have hq := Lib.hid hq0; clear hq0
    obtain ⟨h0, h1, h2, h3⟩ := hB
    by_cases hlt : k < d.cache.length
    ·
     obtain ⟨b, off, rfl, hcell0, hcell1, _⟩ := hc k hlt
     have hcell' : wr.cell? ⟨b, off + k * 2 + 1, none⟩ = some (.string d.cache[k].data) := by rw [hb.cell (World.block_lt_of_cell? w _ hcell1)]; exact hcell1
     clear hcell0 hcell1
     have hst := Lib.hid (wsum_step (l := d.cache.map (·.data)) (k := k) (by simpa using hlt) q)
     go_wp2
     go_roundw
     case rel => exact ⟨k + 1, _, by omega, rfl, by go_num, by have := hst.out; simp only [List.getElem_map] at this; rw [← this]; exact hq.out, hb, hz, h0, h1, h2, h3⟩
     case measure => simp [intOf]; omega
    ·
     obtain rfl : k = d.cache.length := by omega
     have hQ : Hid (greatW d.pages d.cache = (decide (12 < (d.pages.length : Int)) || decide (20 < (d.cache.length : Int)) || decide (4000 < q))) := by
      have e : q = wsum (d.cache.map (·.data)) m := by rw [← hq.out, List.drop_of_length_le (by simp)]; simp [wsum]
      have e1 : decide (12 < d.pages.length) = decide (12 < (d.pages.length : Int)) := by apply decide_eq_decide.2; omega
      have e2 : decide (20 < d.cache.length) = decide (20 < (d.cache.length : Int)) := by apply decide_eq_decide.2; omega
      unfold Hid greatW
      rw [e, hP.out, e1, e2]
     cases g1 : decide (12 < (d.pages.length : Int))
     ·
      cases g2 : decide (20 < (d.cache.length : Int))
      ·
       go_wp2
       go_ret
       exact ⟨by rw [hQ.out, g1, g2]; simp, hb⟩
      ·
       go_wp2
       go_ret
       exact ⟨by rw [hQ.out, g1, g2]; simp, hb⟩
     ·
      go_wp2
      go_ret
      exact ⟨by rw [hQ.out, g1]; simp, hb⟩
/-- two disks are equal, as the reference compares them -/
def eqP : List ByteArray → List ByteArray → Bool
 | x :: l, y :: m => (x == y) && eqP l m
 | _, _ => true
def eqC : List PW → List PW → Bool
 | x :: l, y :: m => (x.page == y.page) && (x.data == y.data) && eqC l m
 | _, _ => true
def sameW (a b : Dsk) : Bool := (a.size == b.size) && (a.left == b.left) && (a.pages.length == b.pages.length) && (a.cache.length == b.cache.length) && eqP a.pages b.pages && eqC a.cache b.cache
set_option maxHeartbeats 1000000 in
theorem ref40_same0 (a b : Dsk) (va vb : Value) (w : World) {S S' : Nat → Prop} (hD : DskR S w va a) (hE : DskR S' w vb b) :
  Calls Tryz.prog 43 #[va, vb] w fun e w' => e = .returned (.bool (sameW a b)) ∧ Below w.heap.size w w' := by
 obtain ⟨po, pc, co, cc, rfl, hp, hc, ok⟩ := hD
 obtain ⟨po', pc', co', cc', rfl, hp', hc', ok'⟩ := hE
 have ok1 := ok.pages
 have ok2 := ok.cache
 have ok1' := ok'.pages
 have ok2' := ok'.cache
 clear ok ok'
 have hbw : ∀ o o', Below w.heap.size w ((w.alloc o).alloc o') := fun o o' => ((Below.refl _ _).alloc (Nat.le_refl _) _).alloc (by simp) _
 cases g1 : (a.size != b.size)
 ·
  cases g2 : (a.left != b.left)
  ·
   cases g3 : ((a.pages.length : Int) != (b.pages.length : Int))
   ·
    cases g4 : ((a.cache.length : Int) != (b.cache.length : Int))
    ·
     have g1' := Lib.hid g1
     have g2' := Lib.hid g2
     go_enter Tryz.func43, Tryz.ntmps43
     go_wp2
     go_loopw [5] (fun i wr => ∃ (k : Nat), k ≤ a.pages.length ∧ i = .int .i64 k ∧ eqP (a.pages.drop k) (b.pages.drop k) = eqP a.pages b.pages ∧ Below w.heap.size w wr ∧ w.heap.size + 1 < wr.heap.size ∧ BoxD wr w.heap.size a.size a.left po co a.pages.length pc a.cache.length cc ∧ BoxD wr (w.heap.size + 1) b.size b.left po' co' b.pages.length pc' b.cache.length cc') (fun i _ => a.pages.length - (intOf i).toNat)
     case atStart => exact ⟨0, Nat.zero_le _, rfl, rfl, hbw _ _, by simp, ⟨by simp [go_sem], by simp [go_sem], by simp [go_sem], by simp [go_sem]⟩, ⟨by simp [go_sem], by simp [go_sem], by simp [go_sem], by simp [go_sem]⟩⟩
     case round =>
      obtain ⟨k, hk, rfl, hq0, hb, hz, hB, hB'⟩ := hrel
      have hq := Lib.hid hq0; clear hq0
      have hB0 := Lib.hid hB
      have hB0' := Lib.hid hB'
      obtain ⟨h0, h1, h2, h3⟩ := hB
      obtain ⟨h0', h1', h2', h3'⟩ := hB'
      have hl3 : a.pages.length = b.pages.length := by have := g3; simp at this; omega
      have hl4 : a.cache.length = b.cache.length := by have := g4; simp at this; omega
      have hl3h := Lib.hid hl3
      have hl4h := Lib.hid hl4
      by_cases hlt : k < a.pages.length
      ·
       have hlt' : k < b.pages.length := by omega
       obtain ⟨ba, offa, rfl, hcell0, _⟩ := hp k hlt
       obtain ⟨bb, offb, rfl, hcell0', _⟩ := hp' k hlt'
       have hcell : wr.cell? ⟨ba, offa + k, none⟩ = some (.string a.pages[k]) := by rw [hb.cell (World.block_lt_of_cell? w _ hcell0)]; exact hcell0
       have hcell' : wr.cell? ⟨bb, offb + k, none⟩ = some (.string b.pages[k]) := by rw [hb.cell (World.block_lt_of_cell? w _ hcell0')]; exact hcell0'
       clear hcell0 hcell0' hl3 hl4 g1 g2 g3 g4
       cases hs : (a.pages[k].toList == b.pages[k].toList)
       ·
        go_wp2
        go_quiet (fail)
        go_wp2
        go_ret
        exact ⟨by rw [← beq_toListBytes] at hs; unfold sameW; rw [← hq.out, List.drop_eq_getElem_cons hlt, List.drop_eq_getElem_cons hlt']; simp [eqP, hs], Below.drewN hb _⟩
       ·
        go_wp2
        go_quiet (fail)
        go_wp2
        go_roundw
        case rel => exact ⟨k + 1, by omega, by go_num, by rw [← hq.out, List.drop_eq_getElem_cons hlt, List.drop_eq_getElem_cons hlt']; rw [← beq_toListBytes] at hs; simp [eqP, hs], Below.drewN hb _, hz, ⟨h0, h1, h2, h3⟩, ⟨h0', h1', h2', h3'⟩⟩
        case measure => simp [intOf]; omega
      ·
       have hkk : Hid (k = a.pages.length) := by unfold Hid; omega
       have hP : Hid (eqP a.pages b.pages = true) := by unfold Hid; rw [← hq.out, hkk.out, List.drop_length]; simp [eqP]
       clear hl3 hl4 g1 g2 g3 g4
       have hge : a.pages.length ≤ k := by omega
       go_wp2
       go_loopw [6] (fun i wr => ∃ (k : Nat), k ≤ a.cache.length ∧ i = .int .i64 k ∧ eqC (a.cache.drop k) (b.cache.drop k) = eqC a.cache b.cache ∧ Below w.heap.size w wr ∧ w.heap.size + 1 < wr.heap.size ∧ BoxD wr w.heap.size a.size a.left po co a.pages.length pc a.cache.length cc ∧ BoxD wr (w.heap.size + 1) b.size b.left po' co' b.pages.length pc' b.cache.length cc') (fun i _ => a.cache.length - (intOf i).toNat)
       case atStart => exact ⟨0, Nat.zero_le _, rfl, rfl, hb, hz, hB0.out, hB0'.out⟩
       case round =>
        clear hB0 hB0' h0 h1 h2 h3 h0' h1' h2' h3' hb hz hge hk hlt
        obtain ⟨k, hk, rfl, hq0, hb, hz, hB, hB'⟩ := hrel
        have hq := Lib.hid hq0; clear hq0
        obtain ⟨h0, h1, h2, h3⟩ := hB
        obtain ⟨h0', h1', h2', h3'⟩ := hB'
        by_cases hlt : k < a.cache.length
        ·
         have hlt' : k < b.cache.length := by have := hl4h.out; omega
         obtain ⟨ba, offa, rfl, hcell0, hcell1, _⟩ := hc k hlt
         obtain ⟨bb, offb, rfl, hcell0', hcell1', _⟩ := hc' k hlt'
         have hcell : wr.cell? ⟨ba, offa + k * 2, none⟩ = some (.int .i64 a.cache[k].page) := by rw [hb.cell (World.block_lt_of_cell? w _ hcell0)]; exact hcell0
         have hcell' : wr.cell? ⟨ba, offa + k * 2 + 1, none⟩ = some (.string a.cache[k].data) := by rw [hb.cell (World.block_lt_of_cell? w _ hcell1)]; exact hcell1
         have gcell : wr.cell? ⟨bb, offb + k * 2, none⟩ = some (.int .i64 b.cache[k].page) := by rw [hb.cell (World.block_lt_of_cell? w _ hcell0')]; exact hcell0'
         have gcell' : wr.cell? ⟨bb, offb + k * 2 + 1, none⟩ = some (.string b.cache[k].data) := by rw [hb.cell (World.block_lt_of_cell? w _ hcell1')]; exact hcell1'
         clear hcell0 hcell0' hcell1 hcell1'
         cases hs : (a.cache[k].page == b.cache[k].page)
         ·
          go_wp2
          go_quiet (fail)
          go_wp2
          go_ret
          exact ⟨by unfold sameW; rw [← hq.out, List.drop_eq_getElem_cons hlt, List.drop_eq_getElem_cons hlt']; simp [eqC, hs], Below.drewN hb _⟩
         ·
          cases ht : (a.cache[k].data.toList == b.cache[k].data.toList)
          ·
           go_wp2
           go_quiet (fail)
           go_wp2
           go_ret
           exact ⟨by rw [← beq_toListBytes] at ht; unfold sameW; rw [← hq.out, List.drop_eq_getElem_cons hlt, List.drop_eq_getElem_cons hlt']; simp [eqC, ht], Below.drewN hb _⟩
          ·
           go_wp2
           go_quiet (fail)
           go_wp2
           go_roundw
           case rel => exact ⟨k + 1, by omega, by go_num, by rw [← hq.out, List.drop_eq_getElem_cons hlt, List.drop_eq_getElem_cons hlt']; rw [← beq_toListBytes] at ht; simp [eqC, hs, ht], Below.drewN hb _, hz, ⟨h0, h1, h2, h3⟩, ⟨h0', h1', h2', h3'⟩⟩
           case measure => simp [intOf]; omega
        ·
         have hC : Hid (eqC a.cache b.cache = true) := by
          have e : k = a.cache.length := by omega
          unfold Hid; rw [← hq.out, e, List.drop_length]; simp [eqC]
         go_wp2
         go_ret
         exact ⟨by have g1 := g1'.out; have g2 := g2'.out; simp at g1 g2; simp [sameW, hP.out, hC.out, hl3h.out, hl4h.out, g1, g2], hb⟩
    ·
     go_enter Tryz.func43, Tryz.ntmps43
     go_wp2
     go_ret
     exact ⟨by simp at g4; simp [sameW]; omega, hbw _ _⟩
   ·
    go_enter Tryz.func43, Tryz.ntmps43
    go_wp2
    go_ret
    exact ⟨by simp at g3; simp [sameW]; omega, hbw _ _⟩
  ·
   go_enter Tryz.func43, Tryz.ntmps43
   go_wp2
   go_ret
   exact ⟨by simp at g2; simp [sameW, g2], hbw _ _⟩
 ·
  go_enter Tryz.func43, Tryz.ntmps43
  go_wp2
  go_ret
  exact ⟨by simp at g1; simp [sameW, g1], hbw _ _⟩
end Go.Proofs.YtghikgjknhjjgaaGreatDoor
namespace Go.Proofs.YtghikgjknhjjgaaGreatDoor
set_option maxRecDepth 100000
open Go.RowKit
/-- all blocks but those of X -/
def NB (X : Nat → Prop) (w : World) (b : Nat) : Prop := ¬ X b ∧ b < w.heap.size
theorem NB.inS (X : Nat → Prop) (w : World) : InS (NB X w) w := fun _ h => h.2
theorem NB.same {X : Nat → Prop} {w w' : World} {b : Nat} {v0 v1 v2 v3 : Value} (h : Same (NB X w) w w') (hb : X b) : Same (NB X w) w ((((w'.setCell ⟨b, 0, none⟩ v0).setCell ⟨b, 1, none⟩ v1).setCell ⟨b, 2, none⟩ v2).setCell ⟨b, 3, none⟩ v3) := h.set4 (fun h => h.1 hb)
end Go.Proofs.YtghikgjknhjjgaaGreatDoor
namespace Go.Proofs.YtghikgjknhjjgaaGreatDoor
set_option maxRecDepth 100000
open Go.RowKit
/-- a world that has come out of W by making memory -/
structure Lat (W : World) where
 w : World
 h : Below W.heap.size W w
instance (W : World) : Nonempty (Lat W) := ⟨⟨W, Below.refl _ _⟩⟩
theorem wp_region_lat {P : Program} {id : Nat} {Q : Exit → Act → World → Prop} {a : Act} {w : World} {l : List Oper} (hm : P.follows .mixedOrders = true) (hB : Region.lexB .any l.toArray = true)
  (h : wpQuiet P l.toArray (fun w' => ∃ x : Lat w, w' = x.w) (fun a' => ∀ w', (∃ x : Lat w, w' = x.w) → Q .normal a' w') l a) : (Code.region id l.toArray true).wp P Q a w :=
 wp_region_quiet (C := fun w' => ∃ x : Lat w, w' = x.w) hm hB ⟨⟨_, (Below.refl _ _).drew⟩, rfl⟩ (by simpa using h)
theorem Calls.lat {P : Program} {f : FuncId} {args : Array Value} {W : World} {x : Lat W} {v : Value}
  (h : Calls P f args x.w fun e w' => e = .returned v ∧ Below x.w.heap.size x.w w') : Calls P f args x.w fun e w' => e = .returned v ∧ ∃ y : Lat W, w' = y.w :=
 h.mono fun _ _ ⟨he, hb⟩ => ⟨he, ⟨_, x.h.trans (hb.mono x.h.size)⟩, rfl⟩
/-- what was there reads as before -/
theorem Lat.cells (W : World) : ∀ (x : Lat W) (b o : Nat), b < W.heap.size → x.w.cell? ⟨b, o, none⟩ = W.cell? ⟨b, o, none⟩ := fun x _ _ h => x.h.cell (p := ⟨_, _, none⟩) h
end Go.Proofs.YtghikgjknhjjgaaGreatDoor
namespace Go.Proofs.YtghikgjknhjjgaaGreatDoor
open Go.RowKit
theorem Below.one (w : World) (o : Obj) : Below w.heap.size w (w.alloc o) := (Below.refl _ _).alloc (Nat.le_refl _) _
theorem Below.then {w w1 w2 : World} {B : Nat} (h : Below B w w1) (k : Below w1.heap.size w1 w2) (hB : B ≤ w1.heap.size) : Below B w w2 := h.trans (k.mono hB)
end Go.Proofs.YtghikgjknhjjgaaGreatDoor
namespace Go.Proofs.YtghikgjknhjjgaaGreatDoor
set_option maxRecDepth 100000
open Go.RowKit
theorem eqP_refl : ∀ l, eqP l l = true
 | [] => rfl
 | x :: l => by rw [eqP, eqP_refl l, beq_toListBytes]; simp
theorem eqC_refl : ∀ l, eqC l l = true
 | [] => rfl
 | x :: l => by rw [eqC, eqC_refl l, beq_toListBytes]; simp
theorem sameW_refl (d : Dsk) : sameW d d = true := by simp [sameW, eqP_refl, eqC_refl]
theorem same_refl (a : Dsk) (va vb : Value) (w : World) {S S' : Nat → Prop} (hD : DskR S w va a) (hE : DskR S' w vb a) :
  Calls Tryz.prog 43 #[va, vb] w fun e w' => e = .returned (.bool true) ∧ Below w.heap.size w w' := by
 rw [← sameW_refl a]; exact ref40_same0 a a va vb w hD hE
theorem great_b {b : Bool} (d : Dsk) (v : Value) (w : World) {S : Nat → Prop} (hD : DskR S w v d) (hg : greatW d.pages d.cache = b) :
  Calls Tryz.prog 20 #[v] w fun e w' => e = .returned (.bool b) ∧ Below w.heap.size w w' := hg ▸ ref40_great0 d v w hD
theorem Bx.at {w w' : World} {b : Nat} {cs : Array Value} {t : TypeId} (h : Bx w b cs t) (hb : Below w.heap.size w w') : Bx w' b cs t := h.belowAll hb
theorem great_false {p : List ByteArray} {c : List PW} (h : greatW p c = false) : p.length ≤ 12 ∧ c.length ≤ 20 := by
 unfold greatW at h; simp at h; omega
end Go.Proofs.YtghikgjknhjjgaaGreatDoor
namespace Go.Proofs.YtghikgjknhjjgaaGreatDoor
set_option maxRecDepth 100000
open Go.RowKit
theorem btr {w w1 w2 : World} (h : Below w.heap.size w w1) (k : Below w1.heap.size w1 w2) : Below w.heap.size w w2 := Below.then h k h.size
/-- the cells of the array after k rounds -/
def numC (n k : Nat) : List UInt8 := List.replicate (8 - k) 0 ++ (num8 n).drop (8 - k)
theorem numC_get (n k : Nat) (hk : k < 8) : (bytesV (numC n k)).toArray[7 - k]? = some (.int .u8 0) := by
 have h : (numC n k)[7 - k]? = some 0 := by
  unfold numC
  rw [List.getElem?_append_left (by rw [List.length_replicate]; omega), List.getElem?_replicate, if_pos (by omega)]
 simp [bytesV, h]
theorem numC_set (n k : Nat) (hk : k < 8) : (bytesV (numC n k)).toArray.setIfInBounds (7 - k) (.int .u8 ((n : Int) / 2 ^ (8 * k) % 256)) = (bytesV (numC n (k + 1))).toArray := by
 have e : ((n : Int) / 2 ^ (8 * k) % 256) = ((n / 2 ^ (8 * k) % 256 : Nat) : Int) := by rw [Int.natCast_emod, Int.natCast_ediv, Int.natCast_pow]; rfl
 rw [e]
 rcases k with _ | _ | _ | _ | _ | _ | _ | _ | k
 case succ => omega
 all_goals simp [bytesV, numC, num8]
theorem numC_all (n : Nat) : numC n 8 = num8 n := by simp [numC]
set_option maxHeartbeats 1000000 in
theorem pl_number (n : Nat) (w : World) :
  Calls Tryz.prog 85 #[.int .i64 n] w fun e w' => e = .returned (.string (bs (num8 n))) ∧ Below w.heap.size w w' := by
 go_enter Tryz.func85, Tryz.ntmps85
 go_wp2
 go_loopw [4, 5] (fun _ i wr => ∃ k : Nat, k ≤ 8 ∧ i = .int .i64 k ∧ Bx wr w.heap.size (bytesV (numC n k)).toArray 140 ∧ Below w.heap.size w wr) (fun _ i _ => 8 - (intOf i).toNat)
 case atStart => exact ⟨0, by omega, rfl, Bx.new w _ _, Below.one _ _⟩
 case round =>
  obtain ⟨k, hk, rfl, x, hB⟩ := hrel
  by_cases hlt : k < 8
  ·
   have fX := x.free (7 - k)
   have cX : wr.cell? ⟨w.heap.size, 7 - k, none⟩ = some (.int .u8 0) := by rw [x.cell, numC_get n k hlt]
   go_wp2
   go_roundw
   case rel => exact ⟨k + 1, by omega, by go_num, by rw [← numC_set n k hlt]; exact x.set _ _, below_set1 hB (Nat.le_refl _)⟩
   case measure => simp [intOf]; omega
  ·
   obtain rfl : k = 8 := by omega
   go_wp2_with (refine wpList_str rfl _ 86 9 5 rfl Tryz.underlying86 Tryz.underlying5 Tryz.underlying9 _ 8 8 (num8 n) rfl rfl (S := (· = w.heap.size)) (by rw [← numC_all]; simpa using RowAt.bx x) ?_)
   go_ret
   exact ⟨rfl, hB⟩
theorem or8 (m c : Nat) (hm : m < 72057594037927936) (hc : c < 256) : bits .or .i64 (wrap64 ((m : Int) * 256)) (wrap64 (c : Int)) = wrap64 ((m : Int) * 256 + c) := by
 have h1 : (BitVec.ofInt 64 (wrap64 ((m : Int) * 256))).toNat = m * 256 := by
  rw [BitVec.toNat_ofInt]; unfold wrap64; omega
 have h2 : (BitVec.ofInt 64 (wrap64 (c : Int))).toNat = c := by
  rw [BitVec.toNat_ofInt]; unfold wrap64; omega
 have h3 : m * 256 ||| c = m * 256 + c := by
  have := Nat.shiftLeft_add_eq_or_of_lt (b := c) (i := 8) (by omega) m
  rw [Nat.shiftLeft_eq] at this
  simpa using this.symm
 show IntKind.i64.wrap ((BitVec.ofInt 64 (wrap64 ((m : Int) * 256)) ||| BitVec.ofInt 64 (wrap64 (c : Int))).toNat : Int) = _
 rw [BitVec.toNat_or, h1, h2, h3]
 simp [IntKind.wrap, IntKind.bits, IntKind.signed, wrap64]
 split <;> omega
theorem w64_bd (x : Int) : -9223372036854775808 ≤ wrap64 x ∧ wrap64 x ≤ 9223372036854775807 := by unfold wrap64; omega
theorem or8s (m : Nat) (c : UInt8) (hm : m ≤ 281474976710656) : bits .or .i64 ((m : Int) * 256) (wrap64 (c.toNat : Int)) = ((m * 256 + c.toNat : Nat) : Int) := by
 have hc := c.toNat_lt
 have := or8 m c.toNat (by omega) (by omega)
 rw [IntWalk.wrap64_in ((m : Int) * 256) (by omega), IntWalk.wrap64_in ((m : Int) * 256 + c.toNat) (by omega)] at this
 rw [this]
 simp
theorem drop_take_cons (s : ByteArray) (k : Nat) (h : k < 8) (hs : 8 ≤ s.size) : (s.data.toList.drop k).take (8 - k) = s[k] :: (s.data.toList.drop (k + 1)).take (8 - (k + 1)) := by
 have hk : k < s.data.toList.length := by rw [Array.length_toList]; exact (show k < s.size by omega)
 rw [List.drop_eq_getElem_cons hk, show 8 - k = (8 - (k + 1)) + 1 by omega, List.take_succ_cons]
 rfl
set_option maxHeartbeats 1000000 in
theorem pl_value (s : ByteArray) (w : World) (hs : 8 ≤ s.size) :
  Calls Tryz.prog 87 #[.string s] w fun e w' => e = .returned (.int .i64 (valP (s.data.toList.take 8) 0)) ∧ w = w' := by
 go_enter Tryz.func87, Tryz.ntmps87
 go_wp2
 go_loop [3, 4, 5] (fun n _ i => ∃ (k m : Nat), k ≤ 8 ∧ i = .int .i64 k ∧ n = .int .i64 m ∧ m ≤ 281474976711000 ∧ Hid (valP (s.data.toList.take 8) 0 = valP ((s.data.toList.drop k).take (8 - k)) m)) (fun _ _ i => 8 - (intOf i).toNat)
 case atStart => exact ⟨0, 0, by omega, rfl, rfl, by omega, Lib.hid rfl⟩
 case round =>
  obtain ⟨k, m, hk, rfl, rfl, hm2, hv⟩ := hrel
  by_cases hlt : k < 8
  ·
   have hdr := Lib.hid (drop_take_cons s k hlt hs)
   by_cases hb : 1099511627776 < m
   ·
    go_wp2
    go_ret
    refine ⟨?_, rfl⟩
    rw [hv.out, hdr.out, valP, if_pos hb]; rfl
   ·
    go_wp2
    go_roundw
    case rel =>
     have hc := s[k].toNat_lt
     refine ⟨k + 1, m * 256 + s[k].toNat, by omega, by go_num, by rw [or8s m _ (by omega)], by omega, Lib.hid ?_⟩
     rw [hv.out, hdr.out, valP, if_neg hb]
    case measure => simp [intOf]; omega
  ·
   obtain rfl : k = 8 := by omega
   go_wp2
   go_ret
   refine ⟨?_, rfl⟩
   rw [hv.out]; rfl
set_option maxHeartbeats 1000000 in
theorem rf_value (s : ByteArray) (w : World) (hs : 8 ≤ s.size) :
  Calls Tryz.prog 96 #[.string s] w fun e w' => e = .returned (.int .i64 (valR (be (s.data.toList.take 8)))) ∧ w = w' := by
 go_enter Tryz.func96, Tryz.ntmps96
 go_wp2
 go_loop [3, 4] (fun n i => ∃ (k m : Nat) (x : Int), k ≤ 8 ∧ i = .int .i64 k ∧ n = .int .i64 x ∧ -9223372036854775808 ≤ x ∧ x ≤ 9223372036854775807 ∧ Hid (x = wrap64 m ∧ m < 256 ^ k ∧ be (s.data.toList.take k) = m)) (fun _ i => 8 - (intOf i).toNat)
 case atStart => exact ⟨0, 0, 0, by omega, rfl, rfl, by omega, by omega, Lib.hid ⟨by unfold wrap64; omega, by omega, rfl⟩⟩
 case round =>
  obtain ⟨k, m, x, hk, rfl, rfl, hx1, hx2, hv⟩ := hrel
  by_cases hlt : k < 8
  ·
   have hm7 : m < 72057594037927936 := by
    have h1 := hv.out.2.1
    have : 256 ^ k ≤ 256 ^ 7 := Nat.pow_le_pow_right (by omega) (by omega)
    omega
   obtain rfl : x = (m : Int) := by rw [hv.out.1, IntWalk.wrap64_in _ (by omega)]
   go_wp2
   go_roundw
   case rel =>
    have hc := s[k].toNat_lt
    have hlt' := hv.out.2.1
    refine ⟨k + 1, m * 256 + s[k].toNat, _, by omega, by go_num, rfl, ?_, ?_, Lib.hid ⟨?_, ?_, ?_⟩⟩
    ·
     rw [or8 m _ hm7 hc]; exact (w64_bd _).1
    ·
     rw [or8 m _ hm7 hc]; exact (w64_bd _).2
    ·
     rw [or8 m _ hm7 hc]; simp
    ·
     rw [Nat.pow_succ]; omega
    ·
     have hk' : k < s.data.toList.length := by rw [Array.length_toList]; exact (show k < s.size by omega)
     rw [List.take_succ_eq_append_getElem hk']
     unfold be
     rw [List.foldl_append]
     have := hv.out.2.2
     unfold be at this
     rw [this]; rfl
   case measure => simp [intOf]; omega
  ·
   obtain rfl : k = 8 := by omega
   go_wp2
   all_goals
    go_ret
    refine ⟨?_, rfl⟩
    obtain ⟨h1, h2, h3⟩ := hv.out
    rw [h3]
    simp only [valR]
    show Ending.returned (.int .i64 _) = _
    congr 2
    unfold wrap64 at h1
    split <;> omega
set_option maxHeartbeats 1000000 in
theorem pl_header (z v n : Nat) (w : World) (hz : 24 ≤ z) (hz2 : z ≤ 1000000) :
  Calls Tryz.prog 54 #[.int .i64 z, .int .i64 v, .int .i64 n] w fun e w' => e = .returned (.string (bs (hdrL z v n))) ∧ Below w.heap.size w w' := by
 have e24 : (z : Int) - 24 = ((z - 24 : Nat) : Int) := by omega
 have hle : z - 24 ≤ 1000000 := by omega
 have h8v : (num8 v).length = 8 := rfl
 have h8n : (num8 n).length = 8 := rfl
 have hzs : (zerosB (z - 24)).size = z - 24 := by simp [zerosB, ByteArray.size]
 go_enter Tryz.func54, Tryz.ntmps54
 go_wp2_with fail
 refine (pl_number v _).mono ?_
 rintro e w1 ⟨rfl, hb1⟩
 go_wp2_with fail
 refine (pl_number n _).mono ?_
 rintro e w2 ⟨rfl, hb2⟩
 go_wp2_with fail
 refine (repeat_zero (z - 24) (by omega) _).mono ?_
 rintro e w3 ⟨rfl, hb3⟩
 go_wp2_with fail
 refine (pl_number v _).mono ?_
 rintro e w4 ⟨rfl, hb4⟩
 go_wp2
 go_ret
 refine ⟨?_, btr (btr (btr hb1 hb2) hb3) hb4⟩
 show Ending.returned (.string (bs (num8 v) ++ bs (num8 n) ++ bs (List.replicate (z - 24) 0) ++ bs (num8 v))) = _
 rw [bs_app, bs_app, bs_app]; rfl
end Go.Proofs.YtghikgjknhjjgaaGreatDoor
namespace Go.Proofs.YtghikgjknhjjgaaGreatDoor
set_option maxRecDepth 100000
open Go.RowKit
theorem valP_be : ∀ (l : List UInt8) (m : Nat), valP l m = (l.foldl (fun a b => a * 256 + b.toNat) m : Nat) ∨ (valP l m = -1 ∧ 1099511627776 < l.foldl (fun a b => a * 256 + b.toNat) m)
 | [], m => .inl rfl
 | c :: r, m => by
  have mono : ∀ (l : List UInt8) (m : Nat), m ≤ l.foldl (fun a b => a * 256 + b.toNat) m := by
   intro l
   induction l with
   | nil => intro m; exact Nat.le_refl _
   | cons c r ih => intro m; have := ih (m * 256 + c.toNat); simp only [List.foldl_cons]; omega
  rw [valP, List.foldl_cons]
  by_cases h : 1099511627776 < m
  ·
   rw [if_pos h]
   have := mono r (m * 256 + c.toNat)
   exact .inr ⟨rfl, by omega⟩
  ·
   rw [if_neg h]
   exact valP_be r (m * 256 + c.toNat)
theorem valP_le {l : List UInt8} (h : be l ≤ 1099511627776) : valP l 0 = be l := by
 rcases valP_be l 0 with h' | ⟨_, h'⟩
 ·
  exact h'
 ·
  unfold be at h; omega
theorem hdrP_some {s : List UInt8} {k : Nat} {area : Int} {v n : Nat} (h : hdrP s k area = some (v, n)) :
  be (s.take 8) = v ∧ be ((s.drop 8).take 8) = n ∧ 1 ≤ v ∧ v ≤ 1099511627776 ∧ v % 2 = k ∧ (n : Int) ≤ area ∧ n ≤ 1099511627776 ∧ s = hdrL s.length v n := by
 unfold hdrP at h
 split at h
 ·
  rename_i hc
  obtain ⟨h1, h2, h3, h4, h5, h6⟩ := hc
  simp only [Option.some.injEq, Prod.mk.injEq] at h
  obtain ⟨rfl, rfl⟩ := h
  exact ⟨rfl, rfl, h1, h2, h3, h4, h5, h6⟩
 ·
  cases h
theorem len_size (s : ByteArray) : s.data.toList.length = s.size := by rw [Array.length_toList]; rfl
theorem val_drop (s : ByteArray) (hs : 16 ≤ s.size) : (s.extract 8 s.size).data.toList.take 8 = (s.data.toList.drop 8).take 8 := by
 have hl := len_size s
 have h1 : (s.extract 8 s.size).data.toList = (s.data.toList.drop 8).take (s.size - 8) := by
  conv => lhs; rw [← bs_of s, bs_cut, bs_list, bs_size]
  rw [hl]
 rw [h1, List.take_take, Nat.min_eq_left (by omega)]
set_option maxHeartbeats 2000000 in
theorem pl_read_some (s : ByteArray) (k : Nat) (area : Int) (v n : Nat) (w : World) (hs : 24 ≤ s.size) (hs2 : s.size ≤ 512) (hh : hdrP s.data.toList k area = some (v, n)) :
  Calls Tryz.prog 56 #[.string s, .int .i64 k, .int .i64 area] w fun e w' => e = .returned (.tuple #[.int .i64 v, .int .i64 n, .bool true]) ∧ Below w.heap.size w w' := by
 obtain ⟨h1, h2, h3, h4, h5, h6, h7, h8⟩ := hdrP_some hh
 have c1 : Hid (valP (s.data.toList.take 8) 0 = v) := Lib.hid (by rw [valP_le (by omega), h1])
 have c2 : Hid (valP ((s.data.toList.drop 8).take 8) 0 = n) := Lib.hid (by rw [valP_le (by omega), h2])
 clear hh h1 h2
 have v1 : ∀ W, Calls Tryz.prog 87 #[.string s] W fun e w' => e = .returned (.int .i64 v) ∧ w' = W := fun W => by rw [← c1.out]; exact (pl_value s W (by omega)).mono fun _ _ h => ⟨h.1, h.2.symm⟩
 have v2 : ∀ W, Calls Tryz.prog 87 #[.string (s.extract 8 s.size)] W fun e w' => e = .returned (.int .i64 n) ∧ w' = W := fun W => by
  have := (pl_value (s.extract 8 s.size) W (by simp; omega)).mono fun _ _ h => (And.intro h.1 h.2.symm)
  rw [← c2.out]
  rwa [val_drop s (by omega)] at this
 have hl := len_size s
 have hhd : ∀ W, Calls Tryz.prog 54 #[.int .i64 s.size, .int .i64 v, .int .i64 n] W fun e w' => e = .returned (.string s) ∧ Below W.heap.size W w' := fun W => by
  have := pl_header s.size v n W hs (by omega)
  rwa [← hl, ← h8, bs_of, hl] at this
 clear h8 hl
 go_enter Tryz.func56, Tryz.ntmps56
 go_wp2_with fail
 go_quiet ((first | (go_at_call 87; with_reducible exact Calls.quiet_of_same (v1 _)) | (go_at_call 87; with_reducible exact Calls.quiet_of_same (v2 _))))
 go_wp2_with fail
 refine (hhd _).mono ?_
 rintro e w1 ⟨rfl, hb1⟩
 go_wp2
 go_ret3
 exact ⟨rfl, Below.then (Below.drewN (Below.refl _ _) nq) hb1 (Nat.le_refl _)⟩
theorem toList_injB {x y : ByteArray} (h : x.toList = y.toList) : x = y := by
 rw [← bs_of x, ← bs_of y, ← ByteArray.toList_eq, ← ByteArray.toList_eq, h]
theorem beq_bytes_false {x y : ByteArray} (h : x ≠ y) : (x.toList == y.toList) = false := by
 rw [beq_eq_false_iff_ne]
 intro e
 exact h (toList_injB e)
end Go.Proofs.YtghikgjknhjjgaaGreatDoor
