/- disk.Flush (layer 40) for every disk: the pair 'flushD' of the disk. Contract of the reference's Crash of layer 40. Plain laws on the disks of layer 40: what Write, Flush and Crash leave is valid, and how its pages read. No function of the program is named here. Contract of the reference's Write of layer 40. disk.Flush (layer 40): the two failing ways, and all together; the reference's Flush. Contracts of Same and Great of the reference of layer 40. law 40's 'awake': it returns true. Regions that draw their order, whose operations read what was there before and whose callees may make memory but answer with one value whatever they find above it: walked once, in the order of the text. Two words on worlds that grow. Small lemmas that the walks of layer 40's laws share. Numbers of 8 bytes: pagelog.number, pagelog.value, pagelog.header; the reference's number, value, Header. A header read: pagelog.read; quiltref41.header's own part is in PReadR. -/
import Derived.Test.YtghikgjknhjjgaaDoorQ02
import Derived.Test.YtghikgjknhjjgaaDoorQ03
import Derived.Deep.RegionHeld3
import Derived.Deep.DeepCutAuto
import Derived.Test.YtghikgjknhjjgaaDoorQ01
import Derived.BigQuiet
import Derived.Deep.QuietTactic
import Derived.WalkKit
import Derived.Below
import Derived.Deep.RegionWith
namespace Go.Proofs.YtghikgjknhjjgaaDoor
set_option maxRecDepth 100000
open Go.RowKit Go.Shelf
/-- 'make([]T, n)' under a fence, an element of one cell -/
theorem wpListIn_makeB {F : Fence} {nF : Nat} {P : Program} {ops : Array Oper} {rest : List Oper} {o : Oper} {a : Act} {Q : Exit → Act → World → Prop} {w : World} (hgd : o.guard = none) (l c : Operand) (t : TypeId) (hop : o.op = Op.makeSlice t l c)
  (e : TypeId) (i : TypeInfo) (z : Value) (bytes : Nat) (ht : P.underlying t = some (.slice e)) (hi : P.info? e = some i) (hz : i.zero = some z) (hsize : i.size = 1) (hby : i.bytes = bytes) (hzc : z.cells = #[z])
  (n : Nat) (hl : a.eval l = .int .i64 n) (hc : a.eval c = .int .i64 n) (hb : bytes * n ≤ 281474976710656) (h63 : n ≤ 9223372036854775807)
  (hK : ∀ w', Bx w' w.heap.size (List.replicate n z).toArray e → w.grownBy w' none → w'.heap.size = w.heap.size + 1 → wpListIn F nF P ops Q rest (a.put o.dst (.slice (some ⟨w.heap.size, 0, none⟩) n n)) w') :
  wpListIn F nF P ops Q (o :: rest) a w := by
 refine wpListIn_plain hgd fun K hK' => ?_
 have hb' : (i.bytes : Int) * (n : Int) ≤ 281474976710656 := by
  have h : ((i.bytes * n : Nat) : Int) ≤ 281474976710656 := by rw [hby]; omega
  rwa [Int.natCast_mul] at h
 have hrun := run_make (P := P) w t e i z ht hi hz .i64 .i64 n n (by omega) (Int.le_refl _) hb' (by omega)
 rw [hsize, hzc, Nat.mul_one, madeCells_one] at hrun
 simp only [Int.toNat_natCast] at hrun
 unfold Oper.wpIn
 refine ⟨by simp [Oper.about, hop], ?_⟩
 rw [Oper.semAt_plain F _ _ (by rw [hop]; intro c hc'; cases hc')]
 simp [execOp, hop, hl, hc, hrun, Result.andThen]
 exact hK' _ _ (by simpa using hK _ (Bx.new w _ _) (World.grownBy_alloc w _ none) (World.size_alloc _ _))
/-- the pages after the contents of the pages of pre have been stored -/
def fillP (d : Dsk) (pre : List (Fin d.pages.length)) : List ByteArray := pre.foldl (fun ps x => ps.set x.1 (contentD d x.1 x.2)) (List.replicate d.pages.length ByteArray.empty)
theorem fillP_snoc (d : Dsk) (pre : List (Fin d.pages.length)) (x : Fin d.pages.length) : fillP d (pre ++ [x]) = (fillP d pre).set x.1 (contentD d x.1 x.2) := by simp [fillP]
theorem fillP_len (d : Dsk) (pre : List (Fin d.pages.length)) : (fillP d pre).length = d.pages.length := by
 unfold fillP
 suffices ∀ (l : List (Fin d.pages.length)) (ps : List ByteArray), (l.foldl (fun ps x => ps.set x.1 (contentD d x.1 x.2)) ps).length = ps.length by rw [this]; simp
 intro l
 induction l with
 | nil => intro ps; rfl
 | cons x l ih => intro ps; rw [List.foldl_cons, ih]; simp
theorem foldl_set_get {N : Nat} (c : Fin N → ByteArray) (j : Fin N) : ∀ (l : List (Fin N)) (ps : List ByteArray), ps.length = N → (l.foldl (fun ps x => ps.set x.1 (c x)) ps)[j.1]? = if j ∈ l then some (c j) else ps[j.1]?
 | [], ps, _ => by simp
 | x :: l, ps, h => by
  rw [List.foldl_cons, foldl_set_get c j l _ (by simpa using h)]
  by_cases h1 : j ∈ l
  ·
   simp [h1]
  ·
   by_cases h2 : j = x
   ·
    subst h2; simp [h1, h, j.2]
   ·
    have h3 : x.1 ≠ j.1 := fun e => h2 (Fin.ext e.symm)
    simp [h1, h2, List.getElem?_set_ne h3]
theorem fillP_all (d : Dsk) : fillP d (List.finRange d.pages.length) = contentsD d := by
 apply List.ext_getElem?
 intro j
 by_cases hj : j < d.pages.length
 ·
  have := foldl_set_get (fun x => contentD d x.1 x.2) ⟨j, hj⟩ (List.finRange d.pages.length) (List.replicate d.pages.length ByteArray.empty) (by simp)
  rw [if_pos (List.mem_finRange _)] at this
  unfold fillP contentsD
  rw [this]
  simp [hj]
 ·
  rw [List.getElem?_eq_none (by rw [fillP_len]; omega), List.getElem?_eq_none (by simp [contentsD]; omega)]
theorem lastW_size {i : Int} {z : Int} {l : List PW} (h : ∀ x ∈ l, (x.data.size : Int) = z) : ∀ s : ByteArray, (s.size : Int) = z → ((lastW i l s).size : Int) = z := by
 induction l with
 | nil => intro s hs; exact hs
 | cons x l ih =>
  intro s hs
  rw [lastW]
  refine ih (fun y hy => h y (by simp [hy])) _ ?_
  split
  ·
   exact h x (by simp)
  ·
   exact hs
theorem contents_size {d : Dsk} (hp : ∀ s ∈ d.pages, (s.size : Int) = d.size) (hc : ∀ x ∈ d.cache, (x.data.size : Int) = d.size) : ∀ s ∈ contentsD d, (s.size : Int) = d.size := by
 intro s hs
 obtain ⟨i, _, rfl⟩ := List.mem_map.1 hs
 exact lastW_size hc _ (hp _ (List.getElem_mem _))
theorem contentsD_len (d : Dsk) : (contentsD d).length = d.pages.length := by simp [contentsD]
theorem flush_ok {d : Dsk} {o : Option Addr} {c : Nat} {l : Int} (hp : ∀ s ∈ d.pages, (s.size : Int) = d.size) (hc : ∀ x ∈ d.cache, (x.data.size : Int) = d.size) (hn : d.pages.length ≤ 2000) (hs : d.size ≤ 512) (hm : d.pages.length ≤ maxLen) (hl : -9223372036854775808 ≤ l ∧ l ≤ 9223372036854775807)
  {b : Nat} (ho : o = some ⟨b, 0, none⟩ := by rfl) (hcc : c = d.pages.length := by rfl) : DskOk ⟨d.size, contentsD d, [], l⟩ o none c 0 :=
 ⟨.inr ⟨_, ho, by rw [contentsD_len, hcc]; exact Nat.le_refl _, by rw [hcc]; exact hm⟩, .inl ⟨rfl, rfl, rfl⟩, by simp only [contentsD_len]; omega, by simp, fun s h => by have := contents_size hp hc s h; omega, by simp, hl⟩
section
attribute [local go_sem] Oper.semAt_some
set_option maxRecDepth 100000 in
set_option maxHeartbeats 4000000 in
theorem disk_flush_ok (d : Dsk) (v : Value) (w : World) {S : Nat → Prop} (hS : InS S w) (hD : DskR S w v d) (hz : (chk d != 0) = false) (g4 : (d.left == 0) = false) :
  Calls Tryd.prog 42 #[v] w (RetDE S w ⟨d.size, contentsD d, [], (opD d).left⟩ 0) := by
 obtain ⟨v1, v2, v3, v4⟩ := chk_zero (by simpa using hz)
 have hr := rangedB_true v1
 have hD0 := hD
 obtain ⟨po, pc, co, cc, rfl, hp, hc, ok⟩ := hD
 have ok1 := ok.pages
 have okW := Lib.hid ok
 clear ok hp hc
 obtain ⟨i0, hi, hz0', hz1, hz2⟩ := info_parts infoStr
 have hbw : ∀ o o', Below w.heap.size w ((w.alloc o).alloc o') := fun o o' => ((Below.refl _ _).alloc (Nat.le_refl _) _).alloc (by simp) _
 have hpw : ∀ (W : World) (v : Value), DskR S W v d → Calls Tryd.prog 60 #[v] W (RetDB S W (opD d) true) := fun W v h => by have := disk_power d v W h; rw [if_neg (by simpa using g4), g4] at this; exact this
 obtain ⟨n, hn⟩ : ∃ n, 9 ≤ n := ⟨9, Nat.le_refl _⟩
 refine (callsIn_wide (n := n)).1 ?_
 have hro : Fence.wide.round = none := rfl
 have h1 : 1 ≤ n := by omega
 refine callsIn_of_wp_marks Tryd.func42 rfl trivial ?_ hro
 simp only [Tryd.ntmps42, List.size_toArray, List.length_cons, List.length_nil, Nat.reduceAdd, Nat.reduceSub, Array.replicate_succ, Array.replicate_zero, List.push_toArray, List.append_toArray, List.nil_append, List.cons_append]
 gi_wp2_with (refine ⟨trivial, ?_⟩; gi_at_call 34; refine (callsIn_wide.2 (disk_check d _ _ (hD0.below (hbw _ _)))).mono ?_)
 rintro e w1 ⟨rfl, hb1⟩
 have xA := ((Bx.new w _ _).alloc _).belowAll hb1
 have xR := (Bx.new (w.alloc _) _ _).belowAll hb1
 rw [World.size_alloc] at xR
 have cA := xA.cell
 have fA := xA.free
 have cR := xR.cell
 have fR := xR.free
 have hB : Below w.heap.size w w1 := (hbw _ _).trans (hb1.mono (by simp; omega))
 have hlA := xA.lt
 have hlR := xR.lt
 gi_wp2_with (refine ⟨trivial, ?_⟩; gi_at_call 60; refine (callsIn_wide.2 (hpw _ _ ((hD0.below (hbw _ _)).below hb1))).mono ?_)
 rintro e w2 ⟨vv2, rfl, hD2, hb2⟩
 have xA2 := xA.belowAll hb2
 have xR2 := xR.belowAll hb2
 have hB2 : Below w.heap.size w w2 := hB.trans (hb2.mono (by omega))
 clear cA fA cR fR
 have hE2 := hD2
 obtain ⟨po2, pc2, co2, cc2, rfl, hp2, hc2, ok2⟩ := hD2
 have cA := xA2.cell
 have fA := xA2.free
 have cR := xR2.cell
 have fR := xR2.free
 have hlA2 := xA2.lt
 have hlR2 := xR2.lt
 have nA : ¬ Gr S w1 w2 w.heap.size := by rintro (h | h); exact absurd (hS _ h) (by omega); omega
 have nR : ¬ Gr S w1 w2 (w.heap.size + 1) := by rintro (h | h); exact absurd (hS _ h) (by omega); omega
 have hvh := Lib.hid (And.intro v2 v3)
 have hp2000 : d.pages.length ≤ 2000 := by omega
 clear v2 v3
 gi_wp2_with (first
  | (refine wpListIn_makeB rfl (.tmp 22) (.tmp 22) 27 rfl 9 i0 _ 16 Tryd.underlying27 hi hz0' hz1 hz2 rfl d.pages.length rfl rfl (by omega) (by omega) ?_; intro w3 xG hg3 hz3'; have xA3 := (xA2.set4).grown hg3 (by simp); have xR3 := (xR2.setO4 (b' := w.heap.size) (by simp)).grown hg3 (by simp); have hB3 := (below_set4 (b := w.heap.size) hB2 (Nat.le_refl _)).grown hg3 (by simp; omega) (by simp); have hp3 := (hp2.same ((Same.refl _ _).set4 nA)).same (Same.of_grown hg3 (fun b h => by rcases h with h | h; exact Nat.lt_of_lt_of_le (hS _ h) (by simp; omega); simp; omega) (by simp)); clear cA fA cR fR; have cA := xA3.cell; have fA := xA3.free; have cR := xR3.cell; have fR := xR3.free; have hlA3 := xA3.lt; have hlR3 := xR3.lt)
  | (refine ⟨trivial, ?_⟩; gi_at_call 61; refine (cont_in Fence.wide _ trivial hro _ _ _ _ _).mono ?_; rintro e w' ⟨rfl, rfl⟩))
 have hz3 : w3.heap.size = w2.heap.size + 1 := by simpa using hz3'
 obtain ⟨W0, hW0⟩ : ∃ W0, (w3.alloc (.cells #[.slice (some ⟨w2.heap.size, 0, none⟩) d.pages.length d.pages.length] 27)).alloc (.cells #[.int .i64 (opD d).size, .slice po2 (opD d).pages.length pc2, .slice co2 (opD d).cache.length cc2, .int .i64 (opD d).left] 30) = W0 := ⟨_, rfl⟩
 have yG : Bx W0 w2.heap.size (List.replicate d.pages.length (Value.string .empty)).toArray 9 := by rw [← hW0]; simp only [World.size_setCell] at xG; exact (xG.alloc _).alloc _
 have yS : Bx W0 (w2.heap.size + 1) #[.slice (some ⟨w2.heap.size, 0, none⟩) d.pages.length d.pages.length] 27 := by rw [← hW0]; exact (Bx.newAt _ _ _ _ hz3.symm).alloc _
 have yB : Bx W0 (w2.heap.size + 1 + 1) #[.int .i64 (opD d).size, .slice po2 (opD d).pages.length pc2, .slice co2 (opD d).cache.length cc2, .int .i64 (opD d).left] 30 := by rw [← hW0]; exact Bx.newAt _ _ _ _ (by simp [hz3])
 have yA := (xA3.alloc (.cells #[.slice (some ⟨w2.heap.size, 0, none⟩) d.pages.length d.pages.length] 27)).alloc (.cells #[.int .i64 (opD d).size, .slice po2 (opD d).pages.length pc2, .slice co2 (opD d).cache.length cc2, .int .i64 (opD d).left] 30)
 have yR := (xR3.alloc (.cells #[.slice (some ⟨w2.heap.size, 0, none⟩) d.pages.length d.pages.length] 27)).alloc (.cells #[.int .i64 (opD d).size, .slice po2 (opD d).pages.length pc2, .slice co2 (opD d).cache.length cc2, .int .i64 (opD d).left] 30)
 rw [hW0] at yA yR
 have hB0 : Below w.heap.size w W0 := by rw [← hW0]; exact (hB3.alloc (by omega) _).alloc (by simp; omega) _
 have hSm : Same (Gr S w1 w2) w2 W0 := by
  rw [← hW0]
  have hI : InS (Gr S w1 w2) w2 := fun b h => by rcases h with h | h; exact Nat.lt_of_lt_of_le (hS _ h) (by omega); omega
  have h3 : Same (Gr S w1 w2) w2 w3 := ((Same.refl _ _).set4 nA).grown hg3 (hI.size (by simp)) (by simp)
  exact (h3.alloc (hI.size (by omega)) _).alloc (hI.size (by simp; omega)) _
 have hs0 : W0.heap.size = w2.heap.size + 3 := by rw [← hW0]; simp [hz3]
 have hI2 : InS (Gr S w1 w2) w2 := fun b h => by rcases h with h | h; exact Nat.lt_of_lt_of_le (hS _ h) (by omega); omega
 have hp0 : StrsAt (Gr S w1 w2) W0 po2 (opD d).pages := hp2.same hSm
 have hc0 : PWsAt (Gr S w1 w2) W0 co2 (opD d).cache := hc2.same hSm
 rw [hW0]
 have hs0h := Lib.hid hs0
 clear hW0 xA xR xA2 xR2 xA3 xR3 xG cA fA cR fR hB3 hp3 hg3
 refine rangeFunc_run hro h1 (gf := 74) (lb := #[.pointer (some ⟨w2.heap.size + 1 + 1, 0, none⟩)]) rfl trivial (enters_of Tryd.func74 (by kernel_rfl) rfl)
  (encs := fun x : Fin d.pages.length => #[Value.int .i64 (x.1 : Int), .string (contentD d x.1 x.2)]) (T := fun b => Gr S w1 w2 b ∨ W0.heap.size + 2 ≤ b) (S := fun ys => ys = List.finRange d.pages.length) (N := d.pages.length)
  (fun W1 hz1 hb1 => cont_runs Fence.wide (n - 1) trivial hro (by omega) (w2.heap.size + 1 + 1) (opD d) po2 co2 pc2 cc2 (S := Gr S w1 w2) _ W1 ok2 (fun x hx => ⟨(hvh.out.2 x hx).1, (hvh.out.2 x hx).2.1⟩) (fun b => .inl) (fun b h => .inr (by omega)) (hp0.below hb1) (hc0.below hb1) (yB.belowAll hb1))
  (by rintro (h | h); exact absurd (hI2 _ h) (by omega); omega) (fun _ => rfl)
  (fun pre W => Bx W w2.heap.size ((fillP d pre).map Value.string).toArray 9 ∧ Bx W (w2.heap.size + 1) #[.slice (some ⟨w2.heap.size, 0, none⟩) d.pages.length d.pages.length] 27 ∧ Bx W w.heap.size #[.int .i64 (opD d).size, .slice po2 (opD d).pages.length pc2, .slice co2 (opD d).cache.length cc2, .int .i64 (opD d).left] 30 ∧ Bx W (w.heap.size + 1) #[.int .i64 0, .slice none 0 0, .slice none 0 0, .int .i64 0] 30 ∧ Below w.heap.size w W)
  (fun pre W W' row h hg hr => ⟨h.1.grown hg (fun e => by have := hr _ e.symm; omega), h.2.1.grown hg (fun e => by have := hr _ e.symm; omega), h.2.2.1.grown hg (fun e => by have := hr _ e.symm; omega), h.2.2.2.1.grown hg (fun e => by have := hr _ e.symm; omega), h.2.2.2.2.grown hg h.2.2.2.2.size (fun k e => by have := hr _ e; omega)⟩)
  ⟨by simpa [fillP] using yG, yS, yA, yR, hB0⟩
  (fun x => { tmps := #[.agg #[.int .i64 d.size, .slice po d.pages.length pc, .slice co d.cache.length cc, .int .i64 d.left], .pointer (some ⟨w.heap.size, 0, none⟩), .pointer (some ⟨w.heap.size + 1, 0, none⟩), .int .i64 0, .bool true, .pointer (some ⟨w2.heap.size + 1, 0, none⟩), .int .i64 (x.1 : Int), .string (contentD d x.1 x.2), .agg #[.int .i64 d.size, .slice po d.pages.length pc, .slice co d.cache.length cc, .int .i64 d.left], .int .i64 (chk d), .bool false, undef, .tuple #[.agg #[.int .i64 (opD d).size, .slice po2 (opD d).pages.length pc2, .slice co2 (opD d).cache.length cc2, .int .i64 (opD d).left], .bool true], .agg #[.int .i64 d.size, .slice po d.pages.length pc, .slice co d.cache.length cc, .int .i64 d.left], .tuple #[.agg #[.int .i64 (opD d).size, .slice po2 (opD d).pages.length pc2, .slice co2 (opD d).cache.length cc2, .int .i64 (opD d).left], .bool true], .agg #[.int .i64 (opD d).size, .slice po2 (opD d).pages.length pc2, .slice co2 (opD d).cache.length cc2, .int .i64 (opD d).left], .bool true, .bool true, .bool false, undef, .pointer (some ⟨w.heap.size, 1, none⟩), .slice po2 (opD d).pages.length pc2, .int .i64 (opD d).pages.length, .slice (some ⟨w2.heap.size, 0, none⟩) d.pages.length d.pages.length, .agg #[.int .i64 (opD d).size, .slice po2 (opD d).pages.length pc2, .slice co2 (opD d).cache.length cc2, .int .i64 (opD d).left], .func (.func 74) #[] #[.pointer (some ⟨w2.heap.size + 1 + 1, 0, none⟩)], .int .i64 (x.1 : Int), .string (contentD d x.1 x.2), undef, undef, undef, undef, undef, undef, undef, undef], defers := [] }) ?assign ?body ?done
 case assign =>
  intro l x W K hK
  gi_wp2
  exact hK
 case body =>
  rintro l pre x W ⟨bG, bS, bA, bR, hB⟩ hlt
  have cS := bS.cell 0
  simp at cS
  have hx := x.2
  have gfree := bG.free x.1
  have gcell : W.cell? ⟨w2.heap.size, x.1, none⟩ = some (.string ((fillP d pre)[x.1]'(by rw [fillP_len]; exact x.2))) := by rw [bG.cell]; simp [fillP_len]
  have hlG := bG.lt
  gi_wp2
  have hne : ∀ b, (Gr S w1 w2 b ∨ W0.heap.size + 2 ≤ b) → b ≠ w2.heap.size := by
   rintro b (h | h) e
   ·
    have := hI2 _ h; omega
   ·
    have := hs0h.out; omega
  refine ⟨Below.heap_setCell W _ _ _ (by simp; have := hs0h.out; omega), Below.heap_setCell W _ _ _ (by simp; have := hs0h.out; omega), KeepT.set W _ (fun h => hne _ h rfl), ?_, bS.setO (by simp) _, bA.setO (by simp; omega) _, bR.setO (by simp; omega) _, below_set1 (b := w2.heap.size) hB (by omega)⟩
  have := bG.set x.1 (Value.string (contentD d x.1 x.2))
  simpa [fillP_snoc, List.map_set] using this
 case done =>
  rintro xs W rfl ⟨bG, bS, bA, bR, hB⟩ hK
  rw [fillP_all] at bG
  have cS := bS.cell 0
  have cA := bA.cell
  have fA := bA.free
  have cR := bR.cell
  have fR := bR.free
  have hlA := bA.lt
  have hlR := bR.lt
  simp at cS
  have hOk : DskOk ⟨d.size, contentsD d, [], (opD d).left⟩ (some ⟨w2.heap.size, 0, none⟩) none d.pages.length 0 := flush_ok hvh.out.1 (fun x hx => (hvh.out.2 x hx).2.2) hp2000 hr.2.2.2 (by simp [maxLen]; omega) ok2.left
  gi_wp2
  have h0 : w2.heap.size ≠ w.heap.size := by omega
  have h01 : w2.heap.size ≠ w.heap.size + 1 := by omega
  have zG := ((bG.setO (a := ⟨w.heap.size, 1, none⟩) h0 (.slice (some ⟨w2.heap.size, 0, none⟩) d.pages.length d.pages.length)).setO (a := ⟨w.heap.size, 2, none⟩) h0 (.slice none 0 0)).setO4 (v0 := .int .i64 (opD d).size) (v1 := .slice (some ⟨w2.heap.size, 0, none⟩) d.pages.length d.pages.length) (v2 := .slice none 0 0) (v3 := .int .i64 (opD d).left) h01
  have zR := (((bR.setO (a := ⟨w.heap.size, 1, none⟩) (by simp) (.slice (some ⟨w2.heap.size, 0, none⟩) d.pages.length d.pages.length)).setO (a := ⟨w.heap.size, 2, none⟩) (by simp) (.slice none 0 0))).set4 (v0 := .int .i64 (opD d).size) (v1 := .slice (some ⟨w2.heap.size, 0, none⟩) d.pages.length d.pages.length) (v2 := .slice none 0 0) (v3 := .int .i64 (opD d).left)
  have zB := below_set4 (b := w.heap.size + 1) (v0 := .int .i64 (opD d).size) (v1 := .slice (some ⟨w2.heap.size, 0, none⟩) d.pages.length d.pages.length) (v2 := .slice none 0 0) (v3 := .int .i64 (opD d).left) (below_set1 (b := w.heap.size) (k := 2) (v := .slice none 0 0) (below_set1 (b := w.heap.size) (k := 1) (v := .slice (some ⟨w2.heap.size, 0, none⟩) d.pages.length d.pages.length) hB (by omega)) (by omega)) (by omega)
  have zK := (((((((KeepsOthers.setCell W ⟨w.heap.size, 1, none⟩ (.slice (some ⟨w2.heap.size, 0, none⟩) d.pages.length d.pages.length)).trans (KeepsOthers.setCell _ ⟨w.heap.size, 2, none⟩ (.slice none 0 0))).trans (KeepsOthers.setCell _ ⟨w.heap.size + 1, 0, none⟩ (.int .i64 (opD d).size))).trans (KeepsOthers.setCell _ ⟨w.heap.size + 1, 1, none⟩ (.slice (some ⟨w2.heap.size, 0, none⟩) d.pages.length d.pages.length))).trans (KeepsOthers.setCell _ ⟨w.heap.size + 1, 2, none⟩ (.slice none 0 0))).trans (KeepsOthers.setCell _ ⟨w.heap.size + 1, 3, none⟩ (.int .i64 (opD d).left)))).same _ _ hK rfl
  have hzW : W0.heap.size < W.heap.size := (Array.getElem?_eq_some_iff.1 hK).1
  revert zG zR zB zK
  generalize hWf : ((((((W.setCell _ _).setCell _ _).setCell _ _).setCell _ _).setCell _ _).setCell _ _) = Wf
  intro zG zR zB zK
  have hzf : W0.heap.size < Wf.heap.size := (Array.getElem?_eq_some_iff.1 zK).1
  refine ⟨by simp, .inl ⟨_, _, rfl, run_takeDeferred zK, ?_⟩⟩
  have zR' := bx_own zR (grownBy_putObj' _ W0.heap.size (.deferred none)) (fun r e => by cases e; exact ⟨_, zK, rfl⟩)
  have zG' := bx_own zG (grownBy_putObj' _ W0.heap.size (.deferred none)) (fun r e => by cases e; exact ⟨_, zK, rfl⟩)
  have cZ := zR'.cell
  refine ⟨.tuple #[.agg #[.int .i64 (opD d).size, .slice (some ⟨w2.heap.size, 0, none⟩) d.pages.length d.pages.length, .slice none 0 0, .int .i64 (opD d).left], .int .i64 0], ?_, ?_⟩
  ·
   simp [results, Tryd.f42, go_sem, cZ]
  ·
   refine ⟨_, rfl, ⟨some ⟨w2.heap.size, 0, none⟩, d.pages.length, none, 0, by simp [contentsD, opD], ?_, by intro i h; simp at h, hOk⟩, zB.trans (belowK_b (w := w) (Nat.le_refl _) Wf W0.heap.size _ _ (by omega) zK rfl rfl)⟩
   refine StrsAt.mono (S := (· = w2.heap.size)) (.of_row (by simpa using RowAt.bx zG')) (fun b h => Gr.new (by omega) (by simp; omega))
end
end Go.Proofs.YtghikgjknhjjgaaDoor
namespace Go.Proofs.YtghikgjknhjjgaaDoor
set_option maxRecDepth 100000
open Go.RowKit
end Go.Proofs.YtghikgjknhjjgaaDoor
namespace Go.Proofs.YtghikgjknhjjgaaDoor
set_option maxRecDepth 100000
open Go.RowKit
theorem chkP_mk {size : Int} {l : List ByteArray} (h : ∀ s ∈ l, (s.size : Int) = size) : chkP size l = true := by
 induction l with
 | nil => rfl
 | cons x l ih => simp [chkP, h x (by simp), ih (fun s hs => h s (by simp [hs]))]
theorem chkC_mk {n : Nat} {size : Int} {l : List PW} (h : ∀ x ∈ l, 0 ≤ x.page ∧ x.page < n ∧ (x.data.size : Int) = size) : chkC n size l = 0 := by
 induction l with
 | nil => rfl
 | cons x l ih =>
  obtain ⟨a, b, c⟩ := h x (by simp)
  rw [chkC, if_neg (by omega), if_neg (by simp [c])]
  exact ih (fun s hs => h s (by simp [hs]))
theorem chk_mk {d : Dsk} (h1 : rangedB d.pages.length d.size = true) (h2 : ∀ s ∈ d.pages, (s.size : Int) = d.size) (h3 : ∀ x ∈ d.cache, 0 ≤ x.page ∧ x.page < d.pages.length ∧ (x.data.size : Int) = d.size) (h4 : -1 ≤ d.left) : chk d = 0 := by
 unfold chk
 rw [if_neg (by simp [h1]), if_neg (by simp [chkP_mk h2]), if_neg (by simp [chkC_mk h3]), if_neg (by omega)]
theorem crashP_len {picks : List Int} {size : Int} : ∀ (l : List PW) (k : Nat) (ps : List ByteArray), (crashP picks size k l ps).length = ps.length
 | [], _, _ => rfl
 | x :: r, k, ps => by rw [crashP, crashP_len r]; simp
theorem mem_set_of {α : Type} {P : α → Prop} {l : List α} {i : Nat} {x : α} (h : ∀ y ∈ l, P y) (hx : P x) : ∀ y ∈ l.set i x, P y := by
 intro y hy
 rcases List.mem_or_eq_of_mem_set hy with h' | rfl
 ·
  exact h y h'
 ·
  exact hx
theorem getD_size {z : Int} {ps : List ByteArray} {i : Nat} (h : ∀ s ∈ ps, (s.size : Int) = z) (hi : i < ps.length) : ((ps.getD i ByteArray.empty).size : Int) = z := by
 simp only [List.getD, List.getElem?_eq_getElem hi, Option.getD_some]
 exact h _ (List.getElem_mem _)
theorem taken_le {picks : List Int} {k : Nat} {z : Int} {s : ByteArray} (hz : 0 ≤ z) (h : (s.size : Int) = z) : (takenI picks k z).toNat ≤ s.size := by
 have := (takenI_bd picks k z hz).2
 omega
theorem crashP_sizes {picks : List Int} {z : Int} (hz : 0 ≤ z) : ∀ (l : List PW) (k : Nat) (ps : List ByteArray), (∀ s ∈ ps, (s.size : Int) = z) → (∀ x ∈ l, 0 ≤ x.page ∧ x.page < ps.length ∧ (x.data.size : Int) = z) → ∀ s ∈ crashP picks z k l ps, (s.size : Int) = z
 | [], _, _, hp, _ => hp
 | x :: r, k, ps, hp, hl => by
  obtain ⟨h1, h2, h3⟩ := hl x (by simp)
  rw [crashP]
  refine crashP_sizes hz r (k + 1) _ (mem_set_of hp ?_) (fun y hy => by have := hl y (by simp [hy]); simpa using this)
  have hg := getD_size (i := x.page.toNat) hp (by omega)
  rw [tear_size (taken_le hz h3) (by omega)]
  exact hg
theorem crash_chk {d : Dsk} (h : chk d = 0) (picks : List Int) : chk (crashD d picks) = 0 := by
 obtain ⟨h1, h2, h3, h4⟩ := chk_zero h
 have hr := rangedB_true h1
 unfold crashD
 rw [if_neg (by simp [h])]
 refine chk_mk ?_ ?_ (by simp) (by simp)
 ·
  simpa [crashP_len] using h1
 ·
  exact crashP_sizes (by omega) d.cache 0 d.pages h2 h3
theorem crash_len {d : Dsk} (h : chk d = 0) (picks : List Int) : (crashD d picks).pages.length = d.pages.length := by
 unfold crashD
 rw [if_neg (by simp [h])]
 exact crashP_len _ _ _
theorem crash_size {d : Dsk} (h : chk d = 0) (picks : List Int) : (crashD d picks).size = d.size := by
 unfold crashD
 rw [if_neg (by simp [h])]
theorem flush_chk {d : Dsk} (h : chk d = 0) (l : Int) (hl : -1 ≤ l) : chk ⟨d.size, contentsD d, [], l⟩ = 0 := by
 obtain ⟨h1, h2, h3, h4⟩ := chk_zero h
 refine chk_mk ?_ ?_ (by simp) hl
 ·
  simpa [contentsD_len] using h1
 ·
  exact contents_size h2 (fun x hx => (h3 x hx).2.2)
theorem opD_left {d : Dsk} (h : -1 ≤ d.left) : -1 ≤ (opD d).left := by unfold opD; simp only; split <;> omega
theorem write_chk {d : Dsk} (h : chk d = 0) {i : Int} {data : ByteArray} (h1 : 0 ≤ i) (h2 : i < d.pages.length) (h3 : (data.size : Int) = d.size) : chk { opD d with cache := d.cache ++ [⟨i, data⟩] } = 0 := by
 obtain ⟨g1, g2, g3, g4⟩ := chk_zero h
 refine chk_mk g1 g2 ?_ (opD_left g4)
 intro x hx
 rcases List.mem_append.1 hx with hx | hx
 ·
  exact g3 x hx
 ·
  obtain rfl := List.mem_singleton.1 hx
  exact ⟨h1, h2, h3⟩
theorem readD_ok {d : Dsk} (h : chk d = 0) {k : Nat} (hk : k < d.pages.length) : readD d k = (contentD d k hk, 0) := by
 unfold readD
 rw [if_neg (by simp [h]), if_neg (by omega)]
 simp [hk]
theorem flush_cases (d : Dsk) : ((flushD d).2 = 1 ∧ chk d ≠ 0 ∧ (flushD d).1 = zeroD) ∨ ((flushD d).2 = 18 ∧ chk d = 0 ∧ d.left = 0 ∧ (flushD d).1 = d) ∨ ((flushD d).2 = 0 ∧ chk d = 0 ∧ d.left ≠ 0 ∧ (flushD d).1 = ⟨d.size, contentsD d, [], (opD d).left⟩) := by
 unfold flushD
 by_cases h : chk d ≠ 0
 ·
  simp [h]
 ·
  by_cases h' : d.left = 0 <;> simp [h, h'] <;> simpa using h
theorem write_cases (d : Dsk) (i : Int) (data : ByteArray) : ((writeD d i data).2 ≠ 0 ∧ (writeD d i data).2 ≠ 18 ∧ (writeD d i data).1 = zeroD) ∨
  (chk d = 0 ∧ 0 ≤ i ∧ i < d.pages.length ∧ (data.size : Int) = d.size ∧ (((writeD d i data).2 = 18 ∧ d.left = 0 ∧ (writeD d i data).1 = d) ∨ ((writeD d i data).2 = 0 ∧ d.left ≠ 0 ∧ (writeD d i data).1 = { opD d with cache := d.cache ++ [⟨i, data⟩] }))) := by
 unfold writeD
 by_cases h : chk d ≠ 0
 ·
  simp [h]
 ·
  by_cases h1 : i < 0 ∨ (d.pages.length : Int) ≤ i
  ·
   simp [h, h1]
  ·
   by_cases h2 : (data.size : Int) ≠ d.size
   ·
    rw [if_neg h, if_neg h1, if_pos h2]; simp
   ·
    right
    refine ⟨by simpa using h, by omega, by omega, by simpa using h2, ?_⟩
    rw [if_neg h, if_neg h1, if_neg h2]
    by_cases h3 : d.left = 0 <;> simp [h3]
/-- after a Write that succeeds -/
theorem content_write {d : Dsk} {i : Int} {data : ByteArray} {k : Nat} (hk : k < d.pages.length) (e : Dsk) (he : e = { opD d with cache := d.cache ++ [⟨i, data⟩] }) (hk' : k < e.pages.length) :
  contentD e k hk' = if i = k then data else contentD d k hk := by
 subst he
 unfold contentD
 simp only [opD]
 rw [lastW_app]
 rfl
/-- after a Flush that succeeds -/
theorem content_flush {d : Dsk} {l : Int} {k : Nat} (hk : k < d.pages.length) (e : Dsk) (he : e = ⟨d.size, contentsD d, [], l⟩) (hk' : k < e.pages.length) : contentD e k hk' = contentD d k hk := by
 subst he
 simp [contentD, contentsD, lastW]
theorem crashP_nil {picks : List Int} {z : Int} {ps : List ByteArray} : crashP picks z 0 [] ps = ps := rfl
/-- after a crash -/
theorem content_crash {d : Dsk} (h : chk d = 0) (picks : List Int) {k : Nat} (hk' : k < (crashD d picks).pages.length) :
  contentD (crashD d picks) k hk' = (crashP picks d.size 0 d.cache d.pages)[k]'(by rw [crashP_len]; rwa [crash_len h] at hk') := by
 have e : crashD d picks = ⟨d.size, crashP picks d.size 0 d.cache d.pages, [], -1⟩ := by unfold crashD; rw [if_neg (by simp [h])]
 have : ∀ (e' : Dsk) (hk'' : k < e'.pages.length), e' = ⟨d.size, crashP picks d.size 0 d.cache d.pages, [], -1⟩ → contentD e' k hk'' = (crashP picks d.size 0 d.cache d.pages)[k]'(by rw [crashP_len]; rwa [crash_len h] at hk') := by
  rintro e' hk'' rfl
  simp [contentD, lastW]
 exact this _ hk' e
/-- each byte after a crash is the durable one or that of a write -/
def byteAt (s : ByteArray) (i : Nat) : UInt8 := s.data[i]?.getD 0
theorem byteAt_tear {n : Nat} {a b : ByteArray} (h : n ≤ a.size) (i : Nat) : byteAt (tear n a b) i = byteAt (if i < n then a else b) i ∨ b.size < n := by
 by_cases hb : b.size < n
 ·
  exact .inr hb
 ·
  left
  unfold byteAt tear
  rw [ByteArray.data_append, ByteArray.data_extract, ByteArray.data_extract]
  rw [Array.getElem?_append]
  have e1 : (a.data.extract 0 n).size = n := by simp; omega
  rw [e1]
  by_cases hi : i < n
  ·
   rw [if_pos hi, if_pos hi, Array.getElem?_extract]
   simp
   rw [if_pos (by omega)]
  ·
   rw [if_neg hi, if_neg hi, Array.getElem?_extract]
   simp
   have hz : b.data.size = b.size := rfl
   by_cases hib : i < b.size
   ·
    rw [if_pos (by omega)]
    rw [show n + (i - n) = i from by omega]
   ·
    rw [if_neg (by omega), Array.getElem?_eq_none (by omega)]
theorem crashP_from {picks : List Int} {z : Int} (hz : 0 ≤ z) (j i : Nat) : ∀ (l : List PW) (k : Nat) (ps : List ByteArray), (∀ s ∈ ps, (s.size : Int) = z) → (∀ x ∈ l, 0 ≤ x.page ∧ x.page < ps.length ∧ (x.data.size : Int) = z) → (hj : j < ps.length) →
  byteAt ((crashP picks z k l ps).getD j ByteArray.empty) i = byteAt ps[j] i ∨ ∃ x ∈ l, x.page = j ∧ byteAt ((crashP picks z k l ps).getD j ByteArray.empty) i = byteAt x.data i
 | [], _, ps, _, _, hj => by left; simp [crashP, List.getD, hj]
 | x :: r, k, ps, hp, hl, hj => by
  obtain ⟨h1, h2, h3⟩ := hl x (by simp)
  have hg := getD_size (i := x.page.toNat) hp (by omega)
  rw [crashP]
  rcases crashP_from (picks := picks) hz j i r (k + 1) (ps.set x.page.toNat (tear (takenI picks k z).toNat x.data (ps.getD x.page.toNat ByteArray.empty))) (mem_set_of hp (by rw [tear_size (taken_le hz h3) (by omega)]; exact hg)) (fun y hy => by have := hl y (by simp [hy]); simpa using this) (by simpa using hj) with h | ⟨y, hy, h⟩
  ·
   rw [h, List.getElem_set]
   by_cases hx : x.page.toNat = j
   ·
    rw [if_pos hx]
    have hbz : (ps.getD x.page.toNat ByteArray.empty).size = x.data.size := by omega
    rcases byteAt_tear (b := ps.getD x.page.toNat ByteArray.empty) (taken_le (picks := picks) (k := k) hz h3) i with h' | h'
    ·
     rw [h']
     split
     ·
      exact .inr ⟨x, by simp, by omega, rfl⟩
     ·
      left
      rw [hx]
      simp [List.getD, hj]
    ·
     exact absurd (taken_le (picks := picks) (k := k) hz h3) (by omega)
   ·
    rw [if_neg hx]; exact .inl rfl
  ·
   exact .inr ⟨y, by simp [hy], h⟩
end Go.Proofs.YtghikgjknhjjgaaDoor
namespace Go.Proofs.YtghikgjknhjjgaaDoor
set_option maxRecDepth 100000
open Go.RowKit
end Go.Proofs.YtghikgjknhjjgaaDoor
namespace Go.Proofs.YtghikgjknhjjgaaDoor
set_option maxRecDepth 100000
open Go.RowKit
set_option maxHeartbeats 1000000 in
theorem disk_flush (d : Dsk) (v : Value) (w : World) {S : Nat → Prop} (hS : InS S w) (hD : DskR S w v d) :
  Calls Tryd.prog 42 #[v] w (RetDE S w (flushD d).1 (flushD d).2) := by
 have hbw : ∀ o o', Below w.heap.size w ((w.alloc o).alloc o') := fun o o' => ((Below.refl _ _).alloc (Nat.le_refl _) _).alloc (by simp) _
 unfold flushD
 cases hz : (chk d != 0)
 ·
  rw [if_neg (by simpa using hz)]
  cases g4 : (d.left == 0)
  ·
   rw [if_neg (by simpa using g4)]
   exact disk_flush_ok d v w hS hD hz g4
  ·
   rw [if_pos (by simpa using g4)]
   have hD0 := hD
   obtain ⟨po, pc, co, cc, rfl, hp, hc, ok⟩ := hD
   clear hp hc ok
   have hpw : ∀ (W : World) (v : Value), DskR S W v d → Calls Tryd.prog 60 #[v] W (RetDB S W d false) := fun W v h => by have := disk_power d v W h; rw [if_pos (by simpa using g4), g4] at this; exact this
   go_enter Tryd.func42, Tryd.ntmps42
   go_wp2_with fail
   refine (disk_check d _ _ (hD0.below (hbw _ _))).mono ?_
   rintro e w1 ⟨rfl, hb1⟩
   have xA := ((Bx.new w _ _).alloc _).belowAll hb1
   have xR := (Bx.new (w.alloc _) _ _).belowAll hb1
   rw [World.size_alloc] at xR
   have cA := xA.cell
   have fA := xA.free
   have cR := xR.cell
   have fR := xR.free
   have hB : Below w.heap.size w w1 := (hbw _ _).trans (hb1.mono (by simp; omega))
   have hlA := xA.lt
   have hlR := xR.lt
   go_wp2_with fail
   refine (hpw _ _ ((hD0.below (hbw _ _)).below hb1)).mono ?_
   rintro e w2 ⟨v2, rfl, hD2, hb2⟩
   have xA2 := xA.belowAll hb2
   have xR2 := xR.belowAll hb2
   have hB2 : Below w.heap.size w w2 := hB.trans (hb2.mono (by omega))
   clear cA fA cR fR
   have hE2 := hD2
   obtain ⟨po2, pc2, co2, cc2, rfl, hp2, hc2, ok2⟩ := hD2
   have cA := xA2.cell
   have fA := xA2.free
   have cR := xR2.cell
   have fR := xR2.free
   have hlA2 := xA2.lt
   have hlR2 := xR2.lt
   have nA : ¬ Gr S w1 w2 w.heap.size := by rintro (h | h); exact absurd (hS _ h) (by omega); omega
   have nR : ¬ Gr S w1 w2 (w.heap.size + 1) := by rintro (h | h); exact absurd (hS _ h) (by omega); omega
   go_wp2
   refine bodyPost_ret (v := .tuple #[.agg #[.int .i64 d.size, .slice po2 d.pages.length pc2, .slice co2 d.cache.length cc2, .int .i64 d.left], .int .i64 18]) (by simp [results, Tryd.results42, go_sem, cR]) rfl ?_
   refine ⟨_, rfl, (hE2.same ?_).mono ?_, ?_⟩
   ·
    exact ((Same.refl _ _).set4 nA).set4 nR
   ·
    rintro b (h | h)
    ·
     exact .inl h
    ·
     exact .inr (by simp; omega)
   ·
    exact below_set4 (b := w.heap.size + 1) (below_set4 (b := w.heap.size) hB2 (Nat.le_refl _)) (by omega)
 ·
  rw [if_pos (by simpa using hz)]
  have hD0 := hD
  obtain ⟨po, pc, co, cc, rfl, hp, hc, ok⟩ := hD
  go_enter Tryd.func42, Tryd.ntmps42
  go_wp2_with fail
  refine (disk_check d _ _ (hD0.below (hbw _ _))).mono ?_
  rintro e w1 ⟨rfl, hb1⟩
  have xR := (Bx.new (w.alloc _) _ _).belowAll hb1
  rw [World.size_alloc] at xR
  have cR := xR.cell
  have fR := xR.free
  have hB : Below w.heap.size w w1 := (hbw _ _).trans (hb1.mono (by simp; omega))
  go_wp2
  refine bodyPost_ret (v := .tuple #[.agg #[.int .i64 0, .slice none 0 0, .slice none 0 0, .int .i64 0], .int .i64 1]) (by simp [results, Tryd.results42, go_sem, cR]) rfl ?_
  exact ⟨_, rfl, zero_DskR _, below_set4 (b := w.heap.size + 1) hB (by omega)⟩
end Go.Proofs.YtghikgjknhjjgaaDoor
namespace Go.Proofs.YtghikgjknhjjgaaDoor
set_option maxRecDepth 100000
open Go.RowKit
def wsum : List ByteArray → Int → Int
 | [], n => n
 | s :: r, n => wsum r (wrap64 (n + s.size))
theorem wsum_step {l : List ByteArray} {k : Nat} (h : k < l.length) (n : Int) : wsum (l.drop k) n = wsum (l.drop (k+1)) (wrap64 (n + l[k].size)) := by
 rw [List.drop_eq_getElem_cons h, wsum]
def greatW (pages : List ByteArray) (cache : List PW) : Bool := decide (12 < pages.length) || decide (20 < cache.length) || decide (4000 < wsum (cache.map (·.data)) (wsum pages 0))
set_option maxHeartbeats 1000000 in
theorem ref40_great0 (d : Dsk) (v : Value) (w : World) {S : Nat → Prop} (hD : DskR S w v d) :
  Calls Tryd.prog 21 #[v] w fun e w' => e = .returned (.bool (greatW d.pages d.cache)) ∧ Below w.heap.size w w' := by
 obtain ⟨po, pc, co, cc, rfl, hp, hc, ok⟩ := hD
 have ok1 := ok.pages
 have ok2 := ok.cache
 have oks := ok.strs
 have okd := ok.datas
 clear ok
 go_enter Tryd.func21, Tryd.ntmps21
 go_wp2
 go_loopw [3, 4] (fun n i wr => ∃ (k : Nat) (m : Int), k ≤ d.pages.length ∧ n = .int .i64 m ∧ i = .int .i64 k ∧ wsum (d.pages.drop k) m = wsum d.pages 0 ∧ Below w.heap.size w wr ∧ w.heap.size < wr.heap.size ∧ BoxD wr w.heap.size d.size d.left po co d.pages.length pc d.cache.length cc) (fun _ i _ => d.pages.length - (intOf i).toNat)
 case atStart => exact ⟨0, 0, Nat.zero_le _, rfl, rfl, rfl, (Below.refl _ _).alloc (Nat.le_refl _) _, by simp, by simp, by simp, by simp, by simp⟩
 case round =>
  obtain ⟨k, m, hk, rfl, rfl, hq0, hb, hz, hB⟩ := hrel
  have hq := Lib.hid hq0; clear hq0
  have hB0 := Lib.hid hB
  obtain ⟨h0, h1, h2, h3⟩ := hB
  by_cases hlt : k < d.pages.length
  ·
   obtain ⟨b, off, rfl, hcell0, _⟩ := hp k hlt
   have hcell : wr.cell? ⟨b, off + k, none⟩ = some (.string d.pages[k]) := by rw [hb.cell (World.block_lt_of_cell? w _ hcell0)]; exact hcell0
   clear hcell0
   go_wp2
   go_roundw
   case rel => exact ⟨k + 1, _, by omega, rfl, by go_num, by rw [← wsum_step hlt m]; exact hq.out, hb, hz, h0, h1, h2, h3⟩
   case measure => simp [intOf]; omega
  ·
   obtain rfl : k = d.pages.length := by omega
   have hP : Hid (m = wsum d.pages 0) := by rw [← hq.out]; simp [wsum, Hid]
   clear hlt hk hq
   go_wp2
   go_loopw [3, 5] (fun n i wr => ∃ (k : Nat) (q : Int), k ≤ d.cache.length ∧ n = .int .i64 q ∧ i = .int .i64 k ∧ wsum ((d.cache.map (·.data)).drop k) q = wsum (d.cache.map (·.data)) m ∧ Below w.heap.size w wr ∧ w.heap.size < wr.heap.size ∧ BoxD wr w.heap.size d.size d.left po co d.pages.length pc d.cache.length cc) (fun _ i _ => d.cache.length - (intOf i).toNat)
   case atStart => exact ⟨0, m, Nat.zero_le _, rfl, rfl, rfl, hb, hz, hB0.out⟩
   case round =>
    clear hB0 h0 h1 h2 h3 hb hz
    obtain ⟨k, q, hk, rfl, rfl, hq0, hb, hz, hB⟩ := hrel
    have hq := Lib.hid hq0; clear hq0
    obtain ⟨h0, h1, h2, h3⟩ := hB
    by_cases hlt : k < d.cache.length
    ·
     obtain ⟨b, off, rfl, hcell0, hcell1, _⟩ := hc k hlt
     have hcell' : wr.cell? ⟨b, off + k * 2 + 1, none⟩ = some (.string d.cache[k].data) := by rw [hb.cell (World.block_lt_of_cell? w _ hcell1)]; exact hcell1
     clear hcell0 hcell1
     have hst := Lib.hid (wsum_step (l := d.cache.map (·.data)) (k := k) (by simpa using hlt) q)
     go_wp2
     go_roundw
     case rel => exact ⟨k + 1, _, by omega, rfl, by go_num, by have := hst.out; simp only [List.getElem_map] at this; rw [← this]; exact hq.out, hb, hz, h0, h1, h2, h3⟩
     case measure => simp [intOf]; omega
    ·
     obtain rfl : k = d.cache.length := by omega
     have hQ : Hid (greatW d.pages d.cache = (decide (12 < (d.pages.length : Int)) || decide (20 < (d.cache.length : Int)) || decide (4000 < q))) := by
      have e : q = wsum (d.cache.map (·.data)) m := by rw [← hq.out, List.drop_of_length_le (by simp)]; simp [wsum]
      have e1 : decide (12 < d.pages.length) = decide (12 < (d.pages.length : Int)) := by apply decide_eq_decide.2; omega
      have e2 : decide (20 < d.cache.length) = decide (20 < (d.cache.length : Int)) := by apply decide_eq_decide.2; omega
      unfold Hid greatW
      rw [e, hP.out, e1, e2]
     cases g1 : decide (12 < (d.pages.length : Int))
     ·
      cases g2 : decide (20 < (d.cache.length : Int))
      ·
       go_wp2
       go_ret
       exact ⟨by rw [hQ.out, g1, g2]; simp, hb⟩
      ·
       go_wp2
       go_ret
       exact ⟨by rw [hQ.out, g1, g2]; simp, hb⟩
     ·
      go_wp2
      go_ret
      exact ⟨by rw [hQ.out, g1]; simp, hb⟩
end Go.Proofs.YtghikgjknhjjgaaDoor
namespace Go.Proofs.YtghikgjknhjjgaaDoor
set_option maxRecDepth 100000
open Go.RowKit
/-- all blocks but those of X -/
def NB (X : Nat → Prop) (w : World) (b : Nat) : Prop := ¬ X b ∧ b < w.heap.size
theorem NB.inS (X : Nat → Prop) (w : World) : InS (NB X w) w := fun _ h => h.2
theorem NB.same {X : Nat → Prop} {w w' : World} {b : Nat} {v0 v1 v2 v3 : Value} (h : Same (NB X w) w w') (hb : X b) : Same (NB X w) w ((((w'.setCell ⟨b, 0, none⟩ v0).setCell ⟨b, 1, none⟩ v1).setCell ⟨b, 2, none⟩ v2).setCell ⟨b, 3, none⟩ v3) := h.set4 (fun h => h.1 hb)
end Go.Proofs.YtghikgjknhjjgaaDoor
namespace Go.Proofs.YtghikgjknhjjgaaDoor
set_option maxRecDepth 100000
open Go.RowKit
/-- a world that has come out of W by making memory -/
structure Lat (W : World) where
 w : World
 h : Below W.heap.size W w
instance (W : World) : Nonempty (Lat W) := ⟨⟨W, Below.refl _ _⟩⟩
theorem wp_region_lat {P : Program} {id : Nat} {Q : Exit → Act → World → Prop} {a : Act} {w : World} {l : List Oper} (hm : P.follows .mixedOrders = true) (hB : Region.lexB .any l.toArray = true)
  (h : wpQuiet P l.toArray (fun w' => ∃ x : Lat w, w' = x.w) (fun a' => ∀ w', (∃ x : Lat w, w' = x.w) → Q .normal a' w') l a) : (Code.region id l.toArray true).wp P Q a w :=
 wp_region_quiet (C := fun w' => ∃ x : Lat w, w' = x.w) hm hB ⟨⟨_, (Below.refl _ _).drew⟩, rfl⟩ (by simpa using h)
theorem Calls.lat {P : Program} {f : FuncId} {args : Array Value} {W : World} {x : Lat W} {v : Value}
  (h : Calls P f args x.w fun e w' => e = .returned v ∧ Below x.w.heap.size x.w w') : Calls P f args x.w fun e w' => e = .returned v ∧ ∃ y : Lat W, w' = y.w :=
 h.mono fun _ _ ⟨he, hb⟩ => ⟨he, ⟨_, x.h.trans (hb.mono x.h.size)⟩, rfl⟩
/-- what was there reads as before -/
theorem Lat.cells (W : World) : ∀ (x : Lat W) (b o : Nat), b < W.heap.size → x.w.cell? ⟨b, o, none⟩ = W.cell? ⟨b, o, none⟩ := fun x _ _ h => x.h.cell (p := ⟨_, _, none⟩) h
end Go.Proofs.YtghikgjknhjjgaaDoor
namespace Go.Proofs.YtghikgjknhjjgaaDoor
open Go.RowKit
theorem Below.one (w : World) (o : Obj) : Below w.heap.size w (w.alloc o) := (Below.refl _ _).alloc (Nat.le_refl _) _
theorem Below.then {w w1 w2 : World} {B : Nat} (h : Below B w w1) (k : Below w1.heap.size w1 w2) (hB : B ≤ w1.heap.size) : Below B w w2 := h.trans (k.mono hB)
end Go.Proofs.YtghikgjknhjjgaaDoor
namespace Go.Proofs.YtghikgjknhjjgaaDoor
set_option maxRecDepth 100000
open Go.RowKit
theorem great_b {b : Bool} (d : Dsk) (v : Value) (w : World) {S : Nat → Prop} (hD : DskR S w v d) (hg : greatW d.pages d.cache = b) :
  Calls Tryd.prog 21 #[v] w fun e w' => e = .returned (.bool b) ∧ Below w.heap.size w w' := hg ▸ ref40_great0 d v w hD
theorem Bx.at {w w' : World} {b : Nat} {cs : Array Value} {t : TypeId} (h : Bx w b cs t) (hb : Below w.heap.size w w') : Bx w' b cs t := h.belowAll hb
theorem great_false {p : List ByteArray} {c : List PW} (h : greatW p c = false) : p.length ≤ 12 ∧ c.length ≤ 20 := by
 unfold greatW at h; simp at h; omega
end Go.Proofs.YtghikgjknhjjgaaDoor
namespace Go.Proofs.YtghikgjknhjjgaaDoor
set_option maxRecDepth 100000
open Go.RowKit
theorem btr {w w1 w2 : World} (h : Below w.heap.size w w1) (k : Below w1.heap.size w1 w2) : Below w.heap.size w w2 := Below.then h k h.size
/-- the cells of the array after k rounds -/
def numC (n k : Nat) : List UInt8 := List.replicate (8 - k) 0 ++ (num8 n).drop (8 - k)
theorem numC_get (n k : Nat) (hk : k < 8) : (bytesV (numC n k)).toArray[7 - k]? = some (.int .u8 0) := by
 have h : (numC n k)[7 - k]? = some 0 := by
  unfold numC
  rw [List.getElem?_append_left (by rw [List.length_replicate]; omega), List.getElem?_replicate, if_pos (by omega)]
 simp [bytesV, h]
theorem numC_set (n k : Nat) (hk : k < 8) : (bytesV (numC n k)).toArray.setIfInBounds (7 - k) (.int .u8 ((n : Int) / 2 ^ (8 * k) % 256)) = (bytesV (numC n (k + 1))).toArray := by
 have e : ((n : Int) / 2 ^ (8 * k) % 256) = ((n / 2 ^ (8 * k) % 256 : Nat) : Int) := by rw [Int.natCast_emod, Int.natCast_ediv, Int.natCast_pow]; rfl
 rw [e]
 rcases k with _ | _ | _ | _ | _ | _ | _ | _ | k
 case succ => omega
 all_goals simp [bytesV, numC, num8]
theorem numC_all (n : Nat) : numC n 8 = num8 n := by simp [numC]
set_option maxHeartbeats 1000000 in
theorem pl_number (n : Nat) (w : World) :
  Calls Tryd.prog 68 #[.int .i64 n] w fun e w' => e = .returned (.string (bs (num8 n))) ∧ Below w.heap.size w w' := by
 go_enter Tryd.func68, Tryd.ntmps68
 go_wp2
 go_loopw [4, 5] (fun _ i wr => ∃ k : Nat, k ≤ 8 ∧ i = .int .i64 k ∧ Bx wr w.heap.size (bytesV (numC n k)).toArray 149 ∧ Below w.heap.size w wr) (fun _ i _ => 8 - (intOf i).toNat)
 case atStart => exact ⟨0, by omega, rfl, Bx.new w _ _, Below.one _ _⟩
 case round =>
  obtain ⟨k, hk, rfl, x, hB⟩ := hrel
  by_cases hlt : k < 8
  ·
   have fX := x.free (7 - k)
   have cX : wr.cell? ⟨w.heap.size, 7 - k, none⟩ = some (.int .u8 0) := by rw [x.cell, numC_get n k hlt]
   go_wp2
   go_roundw
   case rel => exact ⟨k + 1, by omega, by go_num, by rw [← numC_set n k hlt]; exact x.set _ _, below_set1 hB (Nat.le_refl _)⟩
   case measure => simp [intOf]; omega
  ·
   obtain rfl : k = 8 := by omega
   go_wp2_with (refine wpList_str rfl _ 73 9 5 rfl Tryd.underlying73 Tryd.underlying5 Tryd.underlying9 _ 8 8 (num8 n) rfl rfl (S := (· = w.heap.size)) (by rw [← numC_all]; simpa using RowAt.bx x) ?_)
   go_ret
   exact ⟨rfl, hB⟩
theorem or8 (m c : Nat) (hm : m < 72057594037927936) (hc : c < 256) : bits .or .i64 (wrap64 ((m : Int) * 256)) (wrap64 (c : Int)) = wrap64 ((m : Int) * 256 + c) := by
 have h1 : (BitVec.ofInt 64 (wrap64 ((m : Int) * 256))).toNat = m * 256 := by
  rw [BitVec.toNat_ofInt]; unfold wrap64; omega
 have h2 : (BitVec.ofInt 64 (wrap64 (c : Int))).toNat = c := by
  rw [BitVec.toNat_ofInt]; unfold wrap64; omega
 have h3 : m * 256 ||| c = m * 256 + c := by
  have := Nat.shiftLeft_add_eq_or_of_lt (b := c) (i := 8) (by omega) m
  rw [Nat.shiftLeft_eq] at this
  simpa using this.symm
 show IntKind.i64.wrap ((BitVec.ofInt 64 (wrap64 ((m : Int) * 256)) ||| BitVec.ofInt 64 (wrap64 (c : Int))).toNat : Int) = _
 rw [BitVec.toNat_or, h1, h2, h3]
 simp [IntKind.wrap, IntKind.bits, IntKind.signed, wrap64]
 split <;> omega
theorem or8s (m : Nat) (c : UInt8) (hm : m ≤ 281474976710656) : bits .or .i64 ((m : Int) * 256) (wrap64 (c.toNat : Int)) = ((m * 256 + c.toNat : Nat) : Int) := by
 have hc := c.toNat_lt
 have := or8 m c.toNat (by omega) (by omega)
 rw [IntWalk.wrap64_in ((m : Int) * 256) (by omega), IntWalk.wrap64_in ((m : Int) * 256 + c.toNat) (by omega)] at this
 rw [this]
 simp
theorem drop_take_cons (s : ByteArray) (k : Nat) (h : k < 8) (hs : 8 ≤ s.size) : (s.data.toList.drop k).take (8 - k) = s[k] :: (s.data.toList.drop (k + 1)).take (8 - (k + 1)) := by
 have hk : k < s.data.toList.length := by rw [Array.length_toList]; exact (show k < s.size by omega)
 rw [List.drop_eq_getElem_cons hk, show 8 - k = (8 - (k + 1)) + 1 by omega, List.take_succ_cons]
 rfl
set_option maxHeartbeats 1000000 in
theorem pl_value (s : ByteArray) (w : World) (hs : 8 ≤ s.size) :
  Calls Tryd.prog 54 #[.string s] w fun e w' => e = .returned (.int .i64 (valP (s.data.toList.take 8) 0)) ∧ w = w' := by
 go_enter Tryd.func54, Tryd.ntmps54
 go_wp2
 go_loop [3, 4, 5] (fun n _ i => ∃ (k m : Nat), k ≤ 8 ∧ i = .int .i64 k ∧ n = .int .i64 m ∧ m ≤ 281474976711000 ∧ Hid (valP (s.data.toList.take 8) 0 = valP ((s.data.toList.drop k).take (8 - k)) m)) (fun _ _ i => 8 - (intOf i).toNat)
 case atStart => exact ⟨0, 0, by omega, rfl, rfl, by omega, Lib.hid rfl⟩
 case round =>
  obtain ⟨k, m, hk, rfl, rfl, hm2, hv⟩ := hrel
  by_cases hlt : k < 8
  ·
   have hdr := Lib.hid (drop_take_cons s k hlt hs)
   by_cases hb : 1099511627776 < m
   ·
    go_wp2
    go_ret
    refine ⟨?_, rfl⟩
    rw [hv.out, hdr.out, valP, if_pos hb]; rfl
   ·
    go_wp2
    go_roundw
    case rel =>
     have hc := s[k].toNat_lt
     refine ⟨k + 1, m * 256 + s[k].toNat, by omega, by go_num, by rw [or8s m _ (by omega)], by omega, Lib.hid ?_⟩
     rw [hv.out, hdr.out, valP, if_neg hb]
    case measure => simp [intOf]; omega
  ·
   obtain rfl : k = 8 := by omega
   go_wp2
   go_ret
   refine ⟨?_, rfl⟩
   rw [hv.out]; rfl
set_option maxHeartbeats 1000000 in
theorem pl_header (z v n : Nat) (w : World) (hz : 24 ≤ z) (hz2 : z ≤ 1000000) :
  Calls Tryd.prog 50 #[.int .i64 z, .int .i64 v, .int .i64 n] w fun e w' => e = .returned (.string (bs (hdrL z v n))) ∧ Below w.heap.size w w' := by
 have e24 : (z : Int) - 24 = ((z - 24 : Nat) : Int) := by omega
 have hle : z - 24 ≤ 1000000 := by omega
 have h8v : (num8 v).length = 8 := rfl
 have h8n : (num8 n).length = 8 := rfl
 have hzs : (zerosB (z - 24)).size = z - 24 := by simp [zerosB, ByteArray.size]
 go_enter Tryd.func50, Tryd.ntmps50
 go_wp2_with fail
 refine (pl_number v _).mono ?_
 rintro e w1 ⟨rfl, hb1⟩
 go_wp2_with fail
 refine (pl_number n _).mono ?_
 rintro e w2 ⟨rfl, hb2⟩
 go_wp2_with fail
 refine (repeat_zero (z - 24) (by omega) _).mono ?_
 rintro e w3 ⟨rfl, hb3⟩
 go_wp2_with fail
 refine (pl_number v _).mono ?_
 rintro e w4 ⟨rfl, hb4⟩
 go_wp2
 go_ret
 refine ⟨?_, btr (btr (btr hb1 hb2) hb3) hb4⟩
 show Ending.returned (.string (bs (num8 v) ++ bs (num8 n) ++ bs (List.replicate (z - 24) 0) ++ bs (num8 v))) = _
 rw [bs_app, bs_app, bs_app]; rfl
end Go.Proofs.YtghikgjknhjjgaaDoor
namespace Go.Proofs.YtghikgjknhjjgaaDoor
set_option maxRecDepth 100000
open Go.RowKit
theorem valP_be : ∀ (l : List UInt8) (m : Nat), valP l m = (l.foldl (fun a b => a * 256 + b.toNat) m : Nat) ∨ (valP l m = -1 ∧ 1099511627776 < l.foldl (fun a b => a * 256 + b.toNat) m)
 | [], m => .inl rfl
 | c :: r, m => by
  have mono : ∀ (l : List UInt8) (m : Nat), m ≤ l.foldl (fun a b => a * 256 + b.toNat) m := by
   intro l
   induction l with
   | nil => intro m; exact Nat.le_refl _
   | cons c r ih => intro m; have := ih (m * 256 + c.toNat); simp only [List.foldl_cons]; omega
  rw [valP, List.foldl_cons]
  by_cases h : 1099511627776 < m
  ·
   rw [if_pos h]
   have := mono r (m * 256 + c.toNat)
   exact .inr ⟨rfl, by omega⟩
  ·
   rw [if_neg h]
   exact valP_be r (m * 256 + c.toNat)
theorem valP_le {l : List UInt8} (h : be l ≤ 1099511627776) : valP l 0 = be l := by
 rcases valP_be l 0 with h' | ⟨_, h'⟩
 ·
  exact h'
 ·
  unfold be at h; omega
theorem hdrP_some {s : List UInt8} {k : Nat} {area : Int} {v n : Nat} (h : hdrP s k area = some (v, n)) :
  be (s.take 8) = v ∧ be ((s.drop 8).take 8) = n ∧ 1 ≤ v ∧ v ≤ 1099511627776 ∧ v % 2 = k ∧ (n : Int) ≤ area ∧ n ≤ 1099511627776 ∧ s = hdrL s.length v n := by
 unfold hdrP at h
 split at h
 ·
  rename_i hc
  obtain ⟨h1, h2, h3, h4, h5, h6⟩ := hc
  simp only [Option.some.injEq, Prod.mk.injEq] at h
  obtain ⟨rfl, rfl⟩ := h
  exact ⟨rfl, rfl, h1, h2, h3, h4, h5, h6⟩
 ·
  cases h
theorem len_size (s : ByteArray) : s.data.toList.length = s.size := by rw [Array.length_toList]; rfl
theorem val_drop (s : ByteArray) (hs : 16 ≤ s.size) : (s.extract 8 s.size).data.toList.take 8 = (s.data.toList.drop 8).take 8 := by
 have hl := len_size s
 have h1 : (s.extract 8 s.size).data.toList = (s.data.toList.drop 8).take (s.size - 8) := by
  conv => lhs; rw [← bs_of s, bs_cut, bs_list, bs_size]
  rw [hl]
 rw [h1, List.take_take, Nat.min_eq_left (by omega)]
set_option maxHeartbeats 2000000 in
theorem pl_read_some (s : ByteArray) (k : Nat) (area : Int) (v n : Nat) (w : World) (hs : 24 ≤ s.size) (hs2 : s.size ≤ 512) (hh : hdrP s.data.toList k area = some (v, n)) :
  Calls Tryd.prog 29 #[.string s, .int .i64 k, .int .i64 area] w fun e w' => e = .returned (.tuple #[.int .i64 v, .int .i64 n, .bool true]) ∧ Below w.heap.size w w' := by
 obtain ⟨h1, h2, h3, h4, h5, h6, h7, h8⟩ := hdrP_some hh
 have c1 : Hid (valP (s.data.toList.take 8) 0 = v) := Lib.hid (by rw [valP_le (by omega), h1])
 have c2 : Hid (valP ((s.data.toList.drop 8).take 8) 0 = n) := Lib.hid (by rw [valP_le (by omega), h2])
 clear hh h1 h2
 have v1 : ∀ W, Calls Tryd.prog 54 #[.string s] W fun e w' => e = .returned (.int .i64 v) ∧ w' = W := fun W => by rw [← c1.out]; exact (pl_value s W (by omega)).mono fun _ _ h => ⟨h.1, h.2.symm⟩
 have v2 : ∀ W, Calls Tryd.prog 54 #[.string (s.extract 8 s.size)] W fun e w' => e = .returned (.int .i64 n) ∧ w' = W := fun W => by
  have := (pl_value (s.extract 8 s.size) W (by simp; omega)).mono fun _ _ h => (And.intro h.1 h.2.symm)
  rw [← c2.out]
  rwa [val_drop s (by omega)] at this
 have hl := len_size s
 have hhd : ∀ W, Calls Tryd.prog 50 #[.int .i64 s.size, .int .i64 v, .int .i64 n] W fun e w' => e = .returned (.string s) ∧ Below W.heap.size W w' := fun W => by
  have := pl_header s.size v n W hs (by omega)
  rwa [← hl, ← h8, bs_of, hl] at this
 clear h8 hl
 go_enter Tryd.func29, Tryd.ntmps29
 go_wp2_with fail
 go_quiet ((first | (go_at_call 54; with_reducible exact Calls.quiet_of_same (v1 _)) | (go_at_call 54; with_reducible exact Calls.quiet_of_same (v2 _))))
 go_wp2_with fail
 refine (hhd _).mono ?_
 rintro e w1 ⟨rfl, hb1⟩
 go_wp2
 go_ret3
 exact ⟨rfl, Below.then (Below.drewN (Below.refl _ _) nq) hb1 (Nat.le_refl _)⟩
theorem toList_injB {x y : ByteArray} (h : x.toList = y.toList) : x = y := by
 rw [← bs_of x, ← bs_of y, ← ByteArray.toList_eq, ← ByteArray.toList_eq, h]
theorem beq_bytes_false {x y : ByteArray} (h : x ≠ y) : (x.toList == y.toList) = false := by
 rw [beq_eq_false_iff_ne]
 intro e
 exact h (toList_injB e)
end Go.Proofs.YtghikgjknhjjgaaDoor
