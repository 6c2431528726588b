/- disk.Flush (layer 40) for every disk: the pair 'flushD' of the disk. Contract of the reference's Crash of layer 40. Plain laws on the disks of layer 40: what Write, Flush and Crash leave is valid, and how its pages read. No function of the program is named here. Contract of the reference's Write of layer 40. -/
import Derived.Test.YtghikgjknhjjgaaGreatDoorQ02
import Derived.Test.YtghikgjknhjjgaaGreatDoorQ03
import Derived.Deep.RegionHeld3
import Derived.Deep.DeepCutAuto
namespace Go.Proofs.YtghikgjknhjjgaaGreatDoor
set_option maxRecDepth 100000
open Go.RowKit Go.Shelf
/-- 'make([]T, n)' under a fence, an element of one cell -/
theorem wpListIn_makeB {F : Fence} {nF : Nat} {P : Program} {ops : Array Oper} {rest : List Oper} {o : Oper} {a : Act} {Q : Exit → Act → World → Prop} {w : World} (hgd : o.guard = none) (l c : Operand) (t : TypeId) (hop : o.op = Op.makeSlice t l c)
  (e : TypeId) (i : TypeInfo) (z : Value) (bytes : Nat) (ht : P.underlying t = some (.slice e)) (hi : P.info? e = some i) (hz : i.zero = some z) (hsize : i.size = 1) (hby : i.bytes = bytes) (hzc : z.cells = #[z])
  (n : Nat) (hl : a.eval l = .int .i64 n) (hc : a.eval c = .int .i64 n) (hb : bytes * n ≤ 281474976710656) (h63 : n ≤ 9223372036854775807)
  (hK : ∀ w', Bx w' w.heap.size (List.replicate n z).toArray e → w.grownBy w' none → w'.heap.size = w.heap.size + 1 → wpListIn F nF P ops Q rest (a.put o.dst (.slice (some ⟨w.heap.size, 0, none⟩) n n)) w') :
  wpListIn F nF P ops Q (o :: rest) a w := by
 refine wpListIn_plain hgd fun K hK' => ?_
 have hb' : (i.bytes : Int) * (n : Int) ≤ 281474976710656 := by
  have h : ((i.bytes * n : Nat) : Int) ≤ 281474976710656 := by rw [hby]; omega
  rwa [Int.natCast_mul] at h
 have hrun := run_make (P := P) w t e i z ht hi hz .i64 .i64 n n (by omega) (Int.le_refl _) hb' (by omega)
 rw [hsize, hzc, Nat.mul_one, madeCells_one] at hrun
 simp only [Int.toNat_natCast] at hrun
 unfold Oper.wpIn
 refine ⟨by simp [Oper.about, hop], ?_⟩
 rw [Oper.semAt_plain F _ _ (by rw [hop]; intro c hc'; cases hc')]
 simp [execOp, hop, hl, hc, hrun, Result.andThen]
 exact hK' _ _ (by simpa using hK _ (Bx.new w _ _) (World.grownBy_alloc w _ none) (World.size_alloc _ _))
/-- the pages after the contents of the pages of pre have been stored -/
def fillP (d : Dsk) (pre : List (Fin d.pages.length)) : List ByteArray := pre.foldl (fun ps x => ps.set x.1 (contentD d x.1 x.2)) (List.replicate d.pages.length ByteArray.empty)
theorem fillP_snoc (d : Dsk) (pre : List (Fin d.pages.length)) (x : Fin d.pages.length) : fillP d (pre ++ [x]) = (fillP d pre).set x.1 (contentD d x.1 x.2) := by simp [fillP]
theorem fillP_len (d : Dsk) (pre : List (Fin d.pages.length)) : (fillP d pre).length = d.pages.length := by
 unfold fillP
 suffices ∀ (l : List (Fin d.pages.length)) (ps : List ByteArray), (l.foldl (fun ps x => ps.set x.1 (contentD d x.1 x.2)) ps).length = ps.length by rw [this]; simp
 intro l
 induction l with
 | nil => intro ps; rfl
 | cons x l ih => intro ps; rw [List.foldl_cons, ih]; simp
theorem foldl_set_get {N : Nat} (c : Fin N → ByteArray) (j : Fin N) : ∀ (l : List (Fin N)) (ps : List ByteArray), ps.length = N → (l.foldl (fun ps x => ps.set x.1 (c x)) ps)[j.1]? = if j ∈ l then some (c j) else ps[j.1]?
 | [], ps, _ => by simp
 | x :: l, ps, h => by
  rw [List.foldl_cons, foldl_set_get c j l _ (by simpa using h)]
  by_cases h1 : j ∈ l
  ·
   simp [h1]
  ·
   by_cases h2 : j = x
   ·
    subst h2; simp [h1, h, j.2]
   ·
    have h3 : x.1 ≠ j.1 := fun e => h2 (Fin.ext e.symm)
    simp [h1, h2, List.getElem?_set_ne h3]
theorem fillP_all (d : Dsk) : fillP d (List.finRange d.pages.length) = contentsD d := by
 apply List.ext_getElem?
 intro j
 by_cases hj : j < d.pages.length
 ·
  have := foldl_set_get (fun x => contentD d x.1 x.2) ⟨j, hj⟩ (List.finRange d.pages.length) (List.replicate d.pages.length ByteArray.empty) (by simp)
  rw [if_pos (List.mem_finRange _)] at this
  unfold fillP contentsD
  rw [this]
  simp [hj]
 ·
  rw [List.getElem?_eq_none (by rw [fillP_len]; omega), List.getElem?_eq_none (by simp [contentsD]; omega)]
theorem lastW_size {i : Int} {z : Int} {l : List PW} (h : ∀ x ∈ l, (x.data.size : Int) = z) : ∀ s : ByteArray, (s.size : Int) = z → ((lastW i l s).size : Int) = z := by
 induction l with
 | nil => intro s hs; exact hs
 | cons x l ih =>
  intro s hs
  rw [lastW]
  refine ih (fun y hy => h y (by simp [hy])) _ ?_
  split
  ·
   exact h x (by simp)
  ·
   exact hs
theorem contents_size {d : Dsk} (hp : ∀ s ∈ d.pages, (s.size : Int) = d.size) (hc : ∀ x ∈ d.cache, (x.data.size : Int) = d.size) : ∀ s ∈ contentsD d, (s.size : Int) = d.size := by
 intro s hs
 obtain ⟨i, _, rfl⟩ := List.mem_map.1 hs
 exact lastW_size hc _ (hp _ (List.getElem_mem _))
theorem contentsD_len (d : Dsk) : (contentsD d).length = d.pages.length := by simp [contentsD]
theorem flush_ok {d : Dsk} {o : Option Addr} {c : Nat} {l : Int} (hp : ∀ s ∈ d.pages, (s.size : Int) = d.size) (hc : ∀ x ∈ d.cache, (x.data.size : Int) = d.size) (hn : d.pages.length ≤ 2000) (hs : d.size ≤ 512) (hm : d.pages.length ≤ maxLen) (hl : -9223372036854775808 ≤ l ∧ l ≤ 9223372036854775807)
  {b : Nat} (ho : o = some ⟨b, 0, none⟩ := by rfl) (hcc : c = d.pages.length := by rfl) : DskOk ⟨d.size, contentsD d, [], l⟩ o none c 0 :=
 ⟨.inr ⟨_, ho, by rw [contentsD_len, hcc]; exact Nat.le_refl _, by rw [hcc]; exact hm⟩, .inl ⟨rfl, rfl, rfl⟩, by simp only [contentsD_len]; omega, by simp, fun s h => by have := contents_size hp hc s h; omega, by simp, hl⟩
section
attribute [local go_sem] Oper.semAt_some
set_option maxRecDepth 100000 in
set_option maxHeartbeats 4000000 in
theorem disk_flush_ok (d : Dsk) (v : Value) (w : World) {S : Nat → Prop} (hS : InS S w) (hD : DskR S w v d) (hz : (chk d != 0) = false) (g4 : (d.left == 0) = false) :
  Calls Tryz.prog 32 #[v] w (RetDE S w ⟨d.size, contentsD d, [], (opD d).left⟩ 0) := by
 obtain ⟨v1, v2, v3, v4⟩ := chk_zero (by simpa using hz)
 have hr := rangedB_true v1
 have hD0 := hD
 obtain ⟨po, pc, co, cc, rfl, hp, hc, ok⟩ := hD
 have ok1 := ok.pages
 have okW := Lib.hid ok
 clear ok hp hc
 obtain ⟨i0, hi, hz0', hz1, hz2⟩ := info_parts infoStr
 have hbw : ∀ o o', Below w.heap.size w ((w.alloc o).alloc o') := fun o o' => ((Below.refl _ _).alloc (Nat.le_refl _) _).alloc (by simp) _
 have hpw : ∀ (W : World) (v : Value), DskR S W v d → Calls Tryz.prog 66 #[v] W (RetDB S W (opD d) true) := fun W v h => by have := disk_power d v W h; rw [if_neg (by simpa using g4), g4] at this; exact this
 obtain ⟨n, hn⟩ : ∃ n, 9 ≤ n := ⟨9, Nat.le_refl _⟩
 refine (callsIn_wide (n := n)).1 ?_
 have hro : Fence.wide.round = none := rfl
 have h1 : 1 ≤ n := by omega
 refine callsIn_of_wp_marks Tryz.func32 rfl trivial ?_ hro
 simp only [Tryz.ntmps32, List.size_toArray, List.length_cons, List.length_nil, Nat.reduceAdd, Nat.reduceSub, Array.replicate_succ, Array.replicate_zero, List.push_toArray, List.append_toArray, List.nil_append, List.cons_append]
 gi_wp2_with (refine ⟨trivial, ?_⟩; gi_at_call 60; refine (callsIn_wide.2 (disk_check d _ _ (hD0.below (hbw _ _)))).mono ?_)
 rintro e w1 ⟨rfl, hb1⟩
 have xA := ((Bx.new w _ _).alloc _).belowAll hb1
 have xR := (Bx.new (w.alloc _) _ _).belowAll hb1
 rw [World.size_alloc] at xR
 have cA := xA.cell
 have fA := xA.free
 have cR := xR.cell
 have fR := xR.free
 have hB : Below w.heap.size w w1 := (hbw _ _).trans (hb1.mono (by simp; omega))
 have hlA := xA.lt
 have hlR := xR.lt
 gi_wp2_with (refine ⟨trivial, ?_⟩; gi_at_call 66; refine (callsIn_wide.2 (hpw _ _ ((hD0.below (hbw _ _)).below hb1))).mono ?_)
 rintro e w2 ⟨vv2, rfl, hD2, hb2⟩
 have xA2 := xA.belowAll hb2
 have xR2 := xR.belowAll hb2
 have hB2 : Below w.heap.size w w2 := hB.trans (hb2.mono (by omega))
 clear cA fA cR fR
 have hE2 := hD2
 obtain ⟨po2, pc2, co2, cc2, rfl, hp2, hc2, ok2⟩ := hD2
 have cA := xA2.cell
 have fA := xA2.free
 have cR := xR2.cell
 have fR := xR2.free
 have hlA2 := xA2.lt
 have hlR2 := xR2.lt
 have nA : ¬ Gr S w1 w2 w.heap.size := by rintro (h | h); exact absurd (hS _ h) (by omega); omega
 have nR : ¬ Gr S w1 w2 (w.heap.size + 1) := by rintro (h | h); exact absurd (hS _ h) (by omega); omega
 have hvh := Lib.hid (And.intro v2 v3)
 have hp2000 : d.pages.length ≤ 2000 := by omega
 clear v2 v3
 gi_wp2_with (first
  | (refine wpListIn_makeB rfl (.tmp 22) (.tmp 22) 22 rfl 9 i0 _ 16 Tryz.underlying22 hi hz0' hz1 hz2 rfl d.pages.length rfl rfl (by omega) (by omega) ?_; intro w3 xG hg3 hz3'; have xA3 := (xA2.set4).grown hg3 (by simp); have xR3 := (xR2.setO4 (b' := w.heap.size) (by simp)).grown hg3 (by simp); have hB3 := (below_set4 (b := w.heap.size) hB2 (Nat.le_refl _)).grown hg3 (by simp; omega) (by simp); have hp3 := (hp2.same ((Same.refl _ _).set4 nA)).same (Same.of_grown hg3 (fun b h => by rcases h with h | h; exact Nat.lt_of_lt_of_le (hS _ h) (by simp; omega); simp; omega) (by simp)); clear cA fA cR fR; have cA := xA3.cell; have fA := xA3.free; have cR := xR3.cell; have fR := xR3.free; have hlA3 := xA3.lt; have hlR3 := xR3.lt)
  | (refine ⟨trivial, ?_⟩; gi_at_call 67; refine (cont_in Fence.wide _ trivial hro _ _ _ _ _).mono ?_; rintro e w' ⟨rfl, rfl⟩))
 have hz3 : w3.heap.size = w2.heap.size + 1 := by simpa using hz3'
 obtain ⟨W0, hW0⟩ : ∃ W0, (w3.alloc (.cells #[.slice (some ⟨w2.heap.size, 0, none⟩) d.pages.length d.pages.length] 22)).alloc (.cells #[.int .i64 (opD d).size, .slice po2 (opD d).pages.length pc2, .slice co2 (opD d).cache.length cc2, .int .i64 (opD d).left] 25) = W0 := ⟨_, rfl⟩
 have yG : Bx W0 w2.heap.size (List.replicate d.pages.length (Value.string .empty)).toArray 9 := by rw [← hW0]; simp only [World.size_setCell] at xG; exact (xG.alloc _).alloc _
 have yS : Bx W0 (w2.heap.size + 1) #[.slice (some ⟨w2.heap.size, 0, none⟩) d.pages.length d.pages.length] 22 := by rw [← hW0]; exact (Bx.newAt _ _ _ _ hz3.symm).alloc _
 have yB : Bx W0 (w2.heap.size + 1 + 1) #[.int .i64 (opD d).size, .slice po2 (opD d).pages.length pc2, .slice co2 (opD d).cache.length cc2, .int .i64 (opD d).left] 25 := by rw [← hW0]; exact Bx.newAt _ _ _ _ (by simp [hz3])
 have yA := (xA3.alloc (.cells #[.slice (some ⟨w2.heap.size, 0, none⟩) d.pages.length d.pages.length] 22)).alloc (.cells #[.int .i64 (opD d).size, .slice po2 (opD d).pages.length pc2, .slice co2 (opD d).cache.length cc2, .int .i64 (opD d).left] 25)
 have yR := (xR3.alloc (.cells #[.slice (some ⟨w2.heap.size, 0, none⟩) d.pages.length d.pages.length] 22)).alloc (.cells #[.int .i64 (opD d).size, .slice po2 (opD d).pages.length pc2, .slice co2 (opD d).cache.length cc2, .int .i64 (opD d).left] 25)
 rw [hW0] at yA yR
 have hB0 : Below w.heap.size w W0 := by rw [← hW0]; exact (hB3.alloc (by omega) _).alloc (by simp; omega) _
 have hSm : Same (Gr S w1 w2) w2 W0 := by
  rw [← hW0]
  have hI : InS (Gr S w1 w2) w2 := fun b h => by rcases h with h | h; exact Nat.lt_of_lt_of_le (hS _ h) (by omega); omega
  have h3 : Same (Gr S w1 w2) w2 w3 := ((Same.refl _ _).set4 nA).grown hg3 (hI.size (by simp)) (by simp)
  exact (h3.alloc (hI.size (by omega)) _).alloc (hI.size (by simp; omega)) _
 have hs0 : W0.heap.size = w2.heap.size + 3 := by rw [← hW0]; simp [hz3]
 have hI2 : InS (Gr S w1 w2) w2 := fun b h => by rcases h with h | h; exact Nat.lt_of_lt_of_le (hS _ h) (by omega); omega
 have hp0 : StrsAt (Gr S w1 w2) W0 po2 (opD d).pages := hp2.same hSm
 have hc0 : PWsAt (Gr S w1 w2) W0 co2 (opD d).cache := hc2.same hSm
 rw [hW0]
 have hs0h := Lib.hid hs0
 clear hW0 xA xR xA2 xR2 xA3 xR3 xG cA fA cR fR hB3 hp3 hg3
 refine rangeFunc_run hro h1 (gf := 91) (lb := #[.pointer (some ⟨w2.heap.size + 1 + 1, 0, none⟩)]) rfl trivial (enters_of Tryz.func91 (by kernel_rfl) rfl)
  (encs := fun x : Fin d.pages.length => #[Value.int .i64 (x.1 : Int), .string (contentD d x.1 x.2)]) (T := fun b => Gr S w1 w2 b ∨ W0.heap.size + 2 ≤ b) (S := fun ys => ys = List.finRange d.pages.length) (N := d.pages.length)
  (fun W1 hz1 hb1 => cont_runs Fence.wide (n - 1) trivial hro (by omega) (w2.heap.size + 1 + 1) (opD d) po2 co2 pc2 cc2 (S := Gr S w1 w2) _ W1 ok2 (fun x hx => ⟨(hvh.out.2 x hx).1, (hvh.out.2 x hx).2.1⟩) (fun b => .inl) (fun b h => .inr (by omega)) (hp0.below hb1) (hc0.below hb1) (yB.belowAll hb1))
  (by rintro (h | h); exact absurd (hI2 _ h) (by omega); omega) (fun _ => rfl)
  (fun pre W => Bx W w2.heap.size ((fillP d pre).map Value.string).toArray 9 ∧ Bx W (w2.heap.size + 1) #[.slice (some ⟨w2.heap.size, 0, none⟩) d.pages.length d.pages.length] 22 ∧ Bx W w.heap.size #[.int .i64 (opD d).size, .slice po2 (opD d).pages.length pc2, .slice co2 (opD d).cache.length cc2, .int .i64 (opD d).left] 25 ∧ Bx W (w.heap.size + 1) #[.int .i64 0, .slice none 0 0, .slice none 0 0, .int .i64 0] 25 ∧ Below w.heap.size w W)
  (fun pre W W' row h hg hr => ⟨h.1.grown hg (fun e => by have := hr _ e.symm; omega), h.2.1.grown hg (fun e => by have := hr _ e.symm; omega), h.2.2.1.grown hg (fun e => by have := hr _ e.symm; omega), h.2.2.2.1.grown hg (fun e => by have := hr _ e.symm; omega), h.2.2.2.2.grown hg h.2.2.2.2.size (fun k e => by have := hr _ e; omega)⟩)
  ⟨by simpa [fillP] using yG, yS, yA, yR, hB0⟩
  (fun x => { tmps := #[.agg #[.int .i64 d.size, .slice po d.pages.length pc, .slice co d.cache.length cc, .int .i64 d.left], .pointer (some ⟨w.heap.size, 0, none⟩), .pointer (some ⟨w.heap.size + 1, 0, none⟩), .int .i64 0, .bool true, .pointer (some ⟨w2.heap.size + 1, 0, none⟩), .int .i64 (x.1 : Int), .string (contentD d x.1 x.2), .agg #[.int .i64 d.size, .slice po d.pages.length pc, .slice co d.cache.length cc, .int .i64 d.left], .int .i64 (chk d), .bool false, undef, .tuple #[.agg #[.int .i64 (opD d).size, .slice po2 (opD d).pages.length pc2, .slice co2 (opD d).cache.length cc2, .int .i64 (opD d).left], .bool true], .agg #[.int .i64 d.size, .slice po d.pages.length pc, .slice co d.cache.length cc, .int .i64 d.left], .tuple #[.agg #[.int .i64 (opD d).size, .slice po2 (opD d).pages.length pc2, .slice co2 (opD d).cache.length cc2, .int .i64 (opD d).left], .bool true], .agg #[.int .i64 (opD d).size, .slice po2 (opD d).pages.length pc2, .slice co2 (opD d).cache.length cc2, .int .i64 (opD d).left], .bool true, .bool true, .bool false, undef, .pointer (some ⟨w.heap.size, 1, none⟩), .slice po2 (opD d).pages.length pc2, .int .i64 (opD d).pages.length, .slice (some ⟨w2.heap.size, 0, none⟩) d.pages.length d.pages.length, .agg #[.int .i64 (opD d).size, .slice po2 (opD d).pages.length pc2, .slice co2 (opD d).cache.length cc2, .int .i64 (opD d).left], .func (.func 91) #[] #[.pointer (some ⟨w2.heap.size + 1 + 1, 0, none⟩)], .int .i64 (x.1 : Int), .string (contentD d x.1 x.2), undef, undef, undef, undef, undef, undef, undef, undef], defers := [] }) ?assign ?body ?done
 case assign =>
  intro l x W K hK
  gi_wp2
  exact hK
 case body =>
  rintro l pre x W ⟨bG, bS, bA, bR, hB⟩ hlt
  have cS := bS.cell 0
  simp at cS
  have hx := x.2
  have gfree := bG.free x.1
  have gcell : W.cell? ⟨w2.heap.size, x.1, none⟩ = some (.string ((fillP d pre)[x.1]'(by rw [fillP_len]; exact x.2))) := by rw [bG.cell]; simp [fillP_len]
  have hlG := bG.lt
  gi_wp2
  have hne : ∀ b, (Gr S w1 w2 b ∨ W0.heap.size + 2 ≤ b) → b ≠ w2.heap.size := by
   rintro b (h | h) e
   ·
    have := hI2 _ h; omega
   ·
    have := hs0h.out; omega
  refine ⟨Below.heap_setCell W _ _ _ (by simp; have := hs0h.out; omega), Below.heap_setCell W _ _ _ (by simp; have := hs0h.out; omega), KeepT.set W _ (fun h => hne _ h rfl), ?_, bS.setO (by simp) _, bA.setO (by simp; omega) _, bR.setO (by simp; omega) _, below_set1 (b := w2.heap.size) hB (by omega)⟩
  have := bG.set x.1 (Value.string (contentD d x.1 x.2))
  simpa [fillP_snoc, List.map_set] using this
 case done =>
  rintro xs W rfl ⟨bG, bS, bA, bR, hB⟩ hK
  rw [fillP_all] at bG
  have cS := bS.cell 0
  have cA := bA.cell
  have fA := bA.free
  have cR := bR.cell
  have fR := bR.free
  have hlA := bA.lt
  have hlR := bR.lt
  simp at cS
  have hOk : DskOk ⟨d.size, contentsD d, [], (opD d).left⟩ (some ⟨w2.heap.size, 0, none⟩) none d.pages.length 0 := flush_ok hvh.out.1 (fun x hx => (hvh.out.2 x hx).2.2) hp2000 hr.2.2.2 (by simp [maxLen]; omega) ok2.left
  gi_wp2
  have h0 : w2.heap.size ≠ w.heap.size := by omega
  have h01 : w2.heap.size ≠ w.heap.size + 1 := by omega
  have zG := ((bG.setO (a := ⟨w.heap.size, 1, none⟩) h0 (.slice (some ⟨w2.heap.size, 0, none⟩) d.pages.length d.pages.length)).setO (a := ⟨w.heap.size, 2, none⟩) h0 (.slice none 0 0)).setO4 (v0 := .int .i64 (opD d).size) (v1 := .slice (some ⟨w2.heap.size, 0, none⟩) d.pages.length d.pages.length) (v2 := .slice none 0 0) (v3 := .int .i64 (opD d).left) h01
  have zR := (((bR.setO (a := ⟨w.heap.size, 1, none⟩) (by simp) (.slice (some ⟨w2.heap.size, 0, none⟩) d.pages.length d.pages.length)).setO (a := ⟨w.heap.size, 2, none⟩) (by simp) (.slice none 0 0))).set4 (v0 := .int .i64 (opD d).size) (v1 := .slice (some ⟨w2.heap.size, 0, none⟩) d.pages.length d.pages.length) (v2 := .slice none 0 0) (v3 := .int .i64 (opD d).left)
  have zB := below_set4 (b := w.heap.size + 1) (v0 := .int .i64 (opD d).size) (v1 := .slice (some ⟨w2.heap.size, 0, none⟩) d.pages.length d.pages.length) (v2 := .slice none 0 0) (v3 := .int .i64 (opD d).left) (below_set1 (b := w.heap.size) (k := 2) (v := .slice none 0 0) (below_set1 (b := w.heap.size) (k := 1) (v := .slice (some ⟨w2.heap.size, 0, none⟩) d.pages.length d.pages.length) hB (by omega)) (by omega)) (by omega)
  have zK := (((((((KeepsOthers.setCell W ⟨w.heap.size, 1, none⟩ (.slice (some ⟨w2.heap.size, 0, none⟩) d.pages.length d.pages.length)).trans (KeepsOthers.setCell _ ⟨w.heap.size, 2, none⟩ (.slice none 0 0))).trans (KeepsOthers.setCell _ ⟨w.heap.size + 1, 0, none⟩ (.int .i64 (opD d).size))).trans (KeepsOthers.setCell _ ⟨w.heap.size + 1, 1, none⟩ (.slice (some ⟨w2.heap.size, 0, none⟩) d.pages.length d.pages.length))).trans (KeepsOthers.setCell _ ⟨w.heap.size + 1, 2, none⟩ (.slice none 0 0))).trans (KeepsOthers.setCell _ ⟨w.heap.size + 1, 3, none⟩ (.int .i64 (opD d).left)))).same _ _ hK rfl
  have hzW : W0.heap.size < W.heap.size := (Array.getElem?_eq_some_iff.1 hK).1
  revert zG zR zB zK
  generalize hWf : ((((((W.setCell _ _).setCell _ _).setCell _ _).setCell _ _).setCell _ _).setCell _ _) = Wf
  intro zG zR zB zK
  have hzf : W0.heap.size < Wf.heap.size := (Array.getElem?_eq_some_iff.1 zK).1
  refine ⟨by simp, .inl ⟨_, _, rfl, run_takeDeferred zK, ?_⟩⟩
  have zR' := bx_own zR (grownBy_putObj' _ W0.heap.size (.deferred none)) (fun r e => by cases e; exact ⟨_, zK, rfl⟩)
  have zG' := bx_own zG (grownBy_putObj' _ W0.heap.size (.deferred none)) (fun r e => by cases e; exact ⟨_, zK, rfl⟩)
  have cZ := zR'.cell
  refine ⟨.tuple #[.agg #[.int .i64 (opD d).size, .slice (some ⟨w2.heap.size, 0, none⟩) d.pages.length d.pages.length, .slice none 0 0, .int .i64 (opD d).left], .int .i64 0], ?_, ?_⟩
  ·
   simp [results, Tryz.f32, go_sem, cZ]
  ·
   refine ⟨_, rfl, ⟨some ⟨w2.heap.size, 0, none⟩, d.pages.length, none, 0, by simp [contentsD, opD], ?_, by intro i h; simp at h, hOk⟩, zB.trans (belowK_b (w := w) (Nat.le_refl _) Wf W0.heap.size _ _ (by omega) zK rfl rfl)⟩
   refine StrsAt.mono (S := (· = w2.heap.size)) (.of_row (by simpa using RowAt.bx zG')) (fun b h => Gr.new (by omega) (by simp; omega))
end
end Go.Proofs.YtghikgjknhjjgaaGreatDoor
namespace Go.Proofs.YtghikgjknhjjgaaGreatDoor
set_option maxRecDepth 100000
open Go.RowKit
theorem tear_zero (a b : ByteArray) : tear 0 a b = b := by
 unfold tear
 apply ByteArray.ext
 simp
theorem set_same (ps : List ByteArray) (i : Nat) (d : ByteArray) : ps.set i (ps.getD i d) = ps := by
 apply List.ext_getElem?
 intro j
 rw [List.getElem?_set]
 by_cases h : i = j
 ·
  subst h
  by_cases hi : i < ps.length
  ·
   simp [hi]
  ·
   simp [hi]
 ·
  simp [h]
theorem crashP_none {picks : List Int} {size : Int} : ∀ (l : List PW) (k : Nat) (ps : List ByteArray), picks.length ≤ k → crashP picks size k l ps = ps
 | [], _, _, _ => rfl
 | x :: l, k, ps, h => by
  rw [crashP, show takenI picks k size = 0 from dif_neg (by omega)]
  rw [show (0 : Int).toNat = 0 from rfl, tear_zero, set_same]
  exact crashP_none l (k + 1) ps (by omega)
set_option maxHeartbeats 4000000 in
theorem ref40_crash_ok (d : Dsk) (v : Value) (picks : List Int) (qo : Option Addr) (qc : Nat) (w : World) {S T : Nat → Prop} (hD : DskR S w v d) (hq : IntsAt T w qo picks) (hql : picks.length ≤ 1000000) (_hn : d.cache.length ≤ 1000000) (hz : chk d = 0) :
  Calls Tryz.prog 49 #[v, .slice qo picks.length qc] w (RetD S w ⟨d.size, crashP picks d.size 0 d.cache d.pages, [], -1⟩) := by
 obtain ⟨v1, v2, v3, v4⟩ := chk_zero hz
 have hr := rangedB_true v1
 have hz0 : (chk d != 0) = false := by simp [hz]
 have hD0 := hD
 obtain ⟨po, pc, co, cc, rfl, hp, hc, ok⟩ := hD
 have ok1 := ok.pages
 have slp := ok.slp
 obtain ⟨i0, hi, hz0', hz1, hz2⟩ := info_parts infoStr
 have hbw : ∀ o o', Below w.heap.size w ((w.alloc o).alloc o') := fun o o' => ((Below.refl _ _).alloc (Nat.le_refl _) _).alloc (by simp) _
 go_enter Tryz.func49, Tryz.ntmps49
 go_wp2_with fail
 refine (ref40_check d _ _ (hD0.below (hbw _ _))).mono ?_
 rintro e w1 ⟨rfl, hb1⟩
 have xA := ((Bx.new w _ _).alloc _).belowAll hb1
 have xR := (Bx.new (w.alloc _) _ _).belowAll hb1
 rw [World.size_alloc] at xR
 have cA := xA.cell
 have fA := xA.free
 have cR := xR.cell
 have fR := xR.free
 have hB : Below w.heap.size w w1 := (hbw _ _).trans (hb1.mono (by simp; omega))
 have hlR := xR.lt
 have hlA := xA.lt
 have hp1 := (hp.below (hbw _ _)).below hb1
 have hv2 := Lib.hid v2
 have hv3 := Lib.hid v3
 have hp2000 : d.pages.length ≤ 2000 := by omega
 have hp1' : 1 ≤ d.pages.length := by omega
 have hs512 : 1 ≤ d.size ∧ d.size ≤ 512 := hr.2.2
 clear v2 v3 hr hb1 hD0 ok
 go_wp2_with fail
 go_cut [5] (fun s5 wx => ∃ (D : Nat) (o : Option Addr) (c : Nat), s5 = .pointer (some ⟨D, 0, none⟩) ∧ Bx wx D #[.int .i64 d.size, .slice o d.pages.length c, .slice none 0 0, .int .i64 (-1)] 25 ∧ wx.ownsRow w1.heap.size 9 1 (.slice o d.pages.length c) d.pages.length (d.pages.map .string) ∧ (Value.slice o d.pages.length c).ownBlock ≠ some D ∧ w1.heap.size ≤ D ∧ Bx wx w.heap.size #[.int .i64 d.size, .slice po d.pages.length pc, .slice co d.cache.length cc, .int .i64 d.left] 25 ∧ Bx wx (w.heap.size + 1) #[.int .i64 0, .slice none 0 0, .slice none 0 0, .int .i64 0] 25 ∧ Below w.heap.size w wx)
 case first =>
  have n1 : w.heap.size ≠ w1.heap.size := by omega
  have n2 : w.heap.size ≠ w1.heap.size + 1 := by omega
  have n3 : w.heap.size + 1 ≠ w1.heap.size := by omega
  have n4 : w.heap.size + 1 ≠ w1.heap.size + 1 := by omega
  clear cR fR
  go_region_held3 (fun w' => w'.cell? ⟨w.heap.size, 0, none⟩ = some (.int .i64 d.size) ∧ w'.cell? ⟨w.heap.size, 1, none⟩ = some (.slice po d.pages.length pc)) (first | (simp [go_sem, cA, hlA]; done) | (simp [go_sem, cA3, hlA3]; done) | (simp [go_sem, cA3, hlA3, n1, n2]; done))
   ((refine step_app rfl (.tmp 15) (.tmp 17) 22 rfl w1.heap.size 9 i0 _ 1 16 Tryz.underlying22 hi hz0' hz1 hz2 rfl (by decide) _ 0 [] rfl (ownsRow_bx0 (by first | exact Bx.new w1 _ _ | exact (Bx.new w1 _ _).alloc _ | exact Bx.newAt (w1.alloc _) _ _ _ (by simp)) (by omega)) po d.pages.length pc (d.pages.map .string) rfl slp.nil (by simp) (hp1.row.below (by repeat (first | exact Below.refl _ _ | (refine Below.drew ?_) | (refine Below.alloc ?_ (by simp) _)))) (strs_one _) (by unfold maxLen; omega) (by omega) (by first | omega | (simp; done) | (simp; omega)) ?_; intro v3 w3 hown3 hg3; simp only [Nat.zero_add, List.nil_append] at hown3; have xA3 : Bx w3 w.heap.size _ _ := Bx.grown (by first | exact xA.alloc _ | exact (xA.alloc _).alloc _) hg3 (fun e => by have e := Option.some.inj e; dsimp only at e; omega); have xR3 : Bx w3 (w.heap.size + 1) _ _ := Bx.grown (by first | exact xR.alloc _ | exact (xR.alloc _).alloc _) hg3 (fun e => by have e := Option.some.inj e; dsimp only at e; omega); have hB3 : Below w.heap.size w w3 := Below.grown (by repeat (first | exact hB | (refine Below.drew ?_) | (refine Below.alloc ?_ (by first | omega | (simp; done) | (simp; omega)) _))) hg3 (by first | omega | (simp; done) | (simp; omega)) (fun k e => by have e := Option.some.inj e; dsimp only at e; omega); obtain ⟨o3, c3, rfl, hs3, hr3, ho3⟩ := ownsRow_at hown3; have cA3 := xA3.cell; have hlA3 := xA3.lt; (try (have xD3 : Bx w3 (w1.heap.size + 1) #[.int .i64 0, .slice none 0 0, .slice none 0 0, .int .i64 0] 25 := Bx.grown (Bx.drew (Bx.newAt (w1.alloc _) _ _ _ (by simp))) hg3 (fun e => by have e := Option.some.inj e; dsimp only at e; omega); have cD3 := xD3.cell; have fD3 := xD3.free)); (try (have xD3 : Bx w3 w1.heap.size #[.int .i64 0, .slice none 0 0, .slice none 0 0, .int .i64 0] 25 := Bx.grown (Bx.drew ((Bx.new w1 _ _).alloc _)) hg3 (fun e => by have e := Option.some.inj e; dsimp only at e; omega); have cD3 := xD3.cell; have fD3 := xD3.free))))
  all_goals go_wp2_with fail
  all_goals go_meet
  ·
   refine ⟨w3.heap.size, o3, c3, rfl, Bx.new _ _ _, hown3.alloc _, fun e => ?_, ?_, xA3.alloc _, xR3.alloc _, hB3.alloc (by omega) _⟩
   ·
    exact absurd (hown3.lt _ e).2 (Nat.lt_irrefl _)
   ·
    have := hg3.size; simp at this; omega
  ·
   refine ⟨w1.heap.size + 1, o3, c3, rfl, xD3.set4, ownsRow_set4 hown3 (ownsRow_ne_bx hown3 xD3 (by decide)), ownsRow_ne_bx hown3 xD3 (by decide), by omega, xA3.setO4 (by omega), xR3.setO4 (by omega), below_set4 (b := w1.heap.size + 1) hB3 (by omega)⟩
  ·
   refine ⟨w1.heap.size, o3, c3, rfl, xD3.set4, ownsRow_set4 hown3 (ownsRow_ne_bx hown3 xD3 (by decide)), ownsRow_ne_bx hown3 xD3 (by decide), by omega, xA3.setO4 (by omega), xR3.setO4 (by omega), below_set4 (b := w1.heap.size) hB3 (by omega)⟩
 case rest =>
  obtain ⟨D, o, c, rfl, xD, hown, hne, hD1, xA', xR', hB'⟩ := hcut
  obtain ⟨g, hg⟩ : ∃ g, o = some ⟨g, 0, none⟩ := by
   rcases hown.2 with ⟨_, h⟩ | ⟨g, cap, cur, h, _⟩
   ·
    omega
   ·
    simp only [Value.slice.injEq] at h
    exact ⟨g, h.1⟩
  subst hg
  have hgl := hown.lt g rfl
  have hgD : g ≠ D := fun e => hne (by rw [e]; rfl)
  clear xA xR cA fA cR fR hB hne hp1 slp
  have cA := xA'.cell
  have fA := xA'.free
  have hlA' := xA'.lt
  go_wp2
  go_loopw [6] (fun q wr => ∃ (k : Nat) (ps : List ByteArray), k ≤ d.cache.length ∧ q = .int .i64 k ∧ ps.length = d.pages.length ∧ (∀ s ∈ ps, (s.size : Int) = d.size) ∧ crashP picks d.size k (d.cache.drop k) ps = crashP picks d.size 0 d.cache d.pages ∧ wr.ownsRow w1.heap.size 9 1 (.slice (some ⟨g, 0, none⟩) d.pages.length c) d.pages.length (ps.map .string) ∧ Bx wr D #[.int .i64 d.size, .slice (some ⟨g, 0, none⟩) d.pages.length c, .slice none 0 0, .int .i64 (-1)] 25 ∧ Bx wr w.heap.size #[.int .i64 d.size, .slice po d.pages.length pc, .slice co d.cache.length cc, .int .i64 d.left] 25 ∧ Bx wr (w.heap.size + 1) #[.int .i64 0, .slice none 0 0, .slice none 0 0, .int .i64 0] 25 ∧ Below w.heap.size w wr) (fun q _ => d.cache.length - (intOf q).toNat)
  case atStart => exact ⟨0, d.pages, Nat.zero_le _, rfl, rfl, hv2.out, rfl, hown, xD, xA', xR', hB'⟩
  case round =>
   clear cA fA hlA' xA' xR' xD hown hB' hgl
   obtain ⟨k, ps, hk, rfl, hpl, hps0, hq0, hown, xD, xA, xR, hB⟩ := hrel
   have hq1 := Lib.hid hq0
   have hps := Lib.hid hps0
   have hplh := Lib.hid hpl
   clear hq0 hps0 hpl
   have cA := xA.cell
   have fA := xA.free
   have hlA' := xA.lt
   have hlD := xD.lt
   have cD := xD.cell
   have fD := xD.free
   have hgl := hown.lt g rfl
   by_cases hlt : k < d.cache.length
   ·
    by_cases hlp : k < picks.length
    ·
     obtain ⟨b, off, rfl, hcell0, hcell1, _⟩ := hc k hlt
     have hcell : wr.cell? ⟨b, off + k * 2, none⟩ = some (.int .i64 d.cache[k].page) := by rw [hB.cell (World.block_lt_of_cell? w _ hcell0)]; exact hcell0
     have hcell' : wr.cell? ⟨b, off + k * 2 + 1, none⟩ = some (.string d.cache[k].data) := by rw [hB.cell (World.block_lt_of_cell? w _ hcell1)]; exact hcell1
     have hbl : b < wr.heap.size := World.block_lt_of_cell? wr _ hcell
     obtain ⟨qb, qoff, rfl, pcell0, _⟩ := hq k hlp
     have pcell : wr.cell? ⟨qb, qoff + k, none⟩ = some (.int .i64 picks[k]) := by rw [hB.cell (World.block_lt_of_cell? w _ pcell0)]; exact pcell0
     have hqbl : qb < wr.heap.size := World.block_lt_of_cell? wr _ pcell
     obtain ⟨x1, x2, x3⟩ := hv3.out d.cache[k] (List.getElem_mem hlt)
     generalize hx : d.cache[k] = x at *
     obtain ⟨xp, xd⟩ := x
     simp only at x1 x2 x3 hcell hcell'
     obtain ⟨pi, rfl⟩ := Int.eq_ofNat_of_zero_le x1
     have hpi : pi < ps.length := by rw [hplh.out]; omega
     have gcell : wr.cell? ⟨g, pi, none⟩ = some (.string ps[pi]) := by rw [hown.cellAt pi (by omega)]; simp [hpi]
     have gfree : wr.frozen? ⟨g, pi, none⟩ = false := hown.frozenAt pi
     have hsz := hps.out ps[pi] (List.getElem_mem hpi)
     obtain ⟨t1, t2⟩ := takenI_bd picks k d.size (by omega)
     obtain ⟨t, ht⟩ := Int.eq_ofNat_of_zero_le t1
     have hsh : shareI picks[k] d.size = t := by rw [← ht]; unfold takenI; rw [dif_pos hlp]
     have htk : ∀ W, Calls Tryz.prog 79 #[.int .i64 picks[k], .int .i64 d.size] W fun e w' => e = .returned (.int .i64 t) ∧ w' = W := fun W => hsh ▸ (ref40_share picks[k] d.size (by omega) (by omega) W).mono fun e w' h => ⟨h.1, h.2.symm⟩
     rw [ht] at t1 t2
     have hth := Lib.hid ht
     have hxh := Lib.hid hx
     have hszh := Lib.hid hsz
     have x3h := Lib.hid x3
     have u1 : t ≤ xd.size := by omega
     have u2 : t ≤ ps[pi].size := by omega
     have u3 : ¬ 9223372036854775807 < ps[pi].size := by omega
     clear ht hx hsz x3 hcell0 hcell1 hsh pcell0
     go_wp2
     go_quiet ((go_at_call 79; exact Calls.quiet_of_same (htk _)))
     go_wp2
     refine wp_region_still_tail 18 (by kernel_rfl) (by kernel_rfl) ?_
     simp only [List.take_succ_cons, List.take_zero, List.drop_succ_cons, List.drop_zero, World.drew_eq]
     repeat still_step
     refine wpStill_nil ?_
     go_wp2
     go_roundw
     case rel =>
      have e1 : ps.getD ((pi : Int)).toNat ByteArray.empty = ps[pi] := by simp [hpi]
      refine ⟨k + 1, ps.set pi (tear t xd ps[pi]), by omega, by go_num, by rw [List.length_set]; exact hplh.out, ?_, ?_, ?_, Bx.setO ((xD.alloc _).drewN _) (by simp; omega) _, Bx.setO ((xA.alloc _).drewN _) (by simp; omega) _, Bx.setO ((xR.alloc _).drewN _) (by simp; omega) _, below_set1 (b := g) (Below.drewN (hB.alloc (by omega) _) _) (by omega)⟩
      ·
       intro s hs
       rcases List.mem_or_eq_of_mem_set hs with hs | rfl
       ·
        exact hps.out s hs
       ·
        rw [tear_size (by omega) (by have := x3h.out; have := hszh.out; omega)]; exact hszh.out
      ·
       rw [← hq1.out, crashP_step hlt, hxh.out]
       simp only
       rw [e1, hth.out]
       simp
      ·
       have h1 : ((wr.alloc (.cells #[Value.int IntKind.i64 pi, Value.string xd] 73)).drewN (nq + 1)).ownsRow w1.heap.size 9 1 (.slice (some ⟨g, 0, none⟩) d.pages.length c) d.pages.length (ps.map .string) := hown.alloc _
       have := (h1.stored pi (Value.string (tear t xd ps[pi]))).1
       simpa [List.map_set, tear] using this
     case measure => simp [intOf]; omega
    ·
     have hps' : Hid (crashP picks d.size 0 d.cache d.pages = ps) := by unfold Hid; rw [← hq1.out]; exact crashP_none _ _ _ (by omega)
     clear cA
     have cA := xA.cell
     have cR := xR.cell
     have fR := xR.free
     have hlR' := xR.lt
     go_wp2
     refine bodyPost_ret (v := .agg #[.int .i64 d.size, .slice (some ⟨g, 0, none⟩) d.pages.length c, .slice none 0 0, .int .i64 (-1)]) (by simp [results, Tryz.results49, go_sem, cR]) rfl ?_
     rw [hps'.out]
     obtain ⟨o', c', e', hs', hr', _⟩ := ownsRow_at hown
     simp only [Value.slice.injEq] at e'
     obtain ⟨rfl, _, rfl⟩ := e'
     refine ⟨_, rfl, ⟨some ⟨g, 0, none⟩, c, none, 0, by simp only [hplh.out, List.length_nil], ?_, by intro i h; simp at h, crash_ok (by rw [hplh.out]; exact hs') (by rw [hplh.out]; exact hp2000) (fun s hs => by have := hps.out s hs; omega)⟩, below_set4 (b := w.heap.size + 1) hB (by omega)⟩
     refine StrsAt.mono (S := fun b => w1.heap.size ≤ b ∧ b < wr.heap.size) ?_ (fun b h => Gr.new (by omega) (by simp; omega))
     exact (StrsAt.of_row hr').same ((Same.refl _ _).set4 (b := w.heap.size + 1) (by omega))
   ·
    have hkk : Hid (k = d.cache.length) := by unfold Hid; omega
    have hps' : Hid (crashP picks d.size 0 d.cache d.pages = ps) := by unfold Hid; rw [← hq1.out, hkk.out, List.drop_length]; rfl
    clear cA
    have cA := xA.cell
    have cR := xR.cell
    have fR := xR.free
    have hlR' := xR.lt
    go_wp2
    refine bodyPost_ret (v := .agg #[.int .i64 d.size, .slice (some ⟨g, 0, none⟩) d.pages.length c, .slice none 0 0, .int .i64 (-1)]) (by simp [results, Tryz.results49, go_sem, cR]) rfl ?_
    rw [hps'.out]
    obtain ⟨o', c', e', hs', hr', _⟩ := ownsRow_at hown
    simp only [Value.slice.injEq] at e'
    obtain ⟨rfl, _, rfl⟩ := e'
    refine ⟨_, rfl, ⟨some ⟨g, 0, none⟩, c, none, 0, by simp only [hplh.out, List.length_nil], ?_, by intro i h; simp at h, crash_ok (by rw [hplh.out]; exact hs') (by rw [hplh.out]; exact hp2000) (fun s hs => by have := hps.out s hs; omega)⟩, below_set4 (b := w.heap.size + 1) hB (by omega)⟩
    refine StrsAt.mono (S := fun b => w1.heap.size ≤ b ∧ b < wr.heap.size) ?_ (fun b h => Gr.new (by omega) (by simp; omega))
    exact (StrsAt.of_row hr').same ((Same.refl _ _).set4 (b := w.heap.size + 1) (by omega))
set_option maxHeartbeats 1000000 in
theorem ref40_crash (d : Dsk) (v : Value) (picks : List Int) (qo : Option Addr) (qc : Nat) (w : World) {S T : Nat → Prop} (hD : DskR S w v d) (hq : IntsAt T w qo picks) (hql : picks.length ≤ 1000000) (hn : d.cache.length ≤ 1000000) :
  Calls Tryz.prog 49 #[v, .slice qo picks.length qc] w (RetD S w (crashD d picks)) := by
 unfold crashD
 cases hz : (chk d != 0)
 ·
  rw [if_neg (by simpa using hz)]
  exact ref40_crash_ok d v picks qo qc w hD hq hql hn (by simpa using hz)
 ·
  rw [if_pos (by simpa using hz)]
  have hD0 := hD
  obtain ⟨po, pc, co, cc, rfl, hp, hc, ok⟩ := hD
  have hbw : ∀ o o', Below w.heap.size w ((w.alloc o).alloc o') := fun o o' => ((Below.refl _ _).alloc (Nat.le_refl _) _).alloc (by simp) _
  go_enter Tryz.func49, Tryz.ntmps49
  go_wp2_with fail
  refine (ref40_check d _ _ (hD0.below (hbw _ _))).mono ?_
  rintro e w1 ⟨rfl, hb1⟩
  have xR := (Bx.new (w.alloc _) _ _).belowAll hb1
  rw [World.size_alloc] at xR
  have cR := xR.cell
  have fR := xR.free
  have hB : Below w.heap.size w w1 := (hbw _ _).trans (hb1.mono (by simp; omega))
  go_wp2
  refine bodyPost_ret (v := .agg #[.int .i64 0, .slice none 0 0, .slice none 0 0, .int .i64 0]) (by simp [results, Tryz.results49, go_sem, cR]) rfl ?_
  exact ⟨_, rfl, zero_DskR _, below_set4 (b := w.heap.size + 1) hB (by omega)⟩
end Go.Proofs.YtghikgjknhjjgaaGreatDoor
namespace Go.Proofs.YtghikgjknhjjgaaGreatDoor
set_option maxRecDepth 100000
open Go.RowKit
theorem chkP_mk {size : Int} {l : List ByteArray} (h : ∀ s ∈ l, (s.size : Int) = size) : chkP size l = true := by
 induction l with
 | nil => rfl
 | cons x l ih => simp [chkP, h x (by simp), ih (fun s hs => h s (by simp [hs]))]
theorem chkC_mk {n : Nat} {size : Int} {l : List PW} (h : ∀ x ∈ l, 0 ≤ x.page ∧ x.page < n ∧ (x.data.size : Int) = size) : chkC n size l = 0 := by
 induction l with
 | nil => rfl
 | cons x l ih =>
  obtain ⟨a, b, c⟩ := h x (by simp)
  rw [chkC, if_neg (by omega), if_neg (by simp [c])]
  exact ih (fun s hs => h s (by simp [hs]))
theorem chk_mk {d : Dsk} (h1 : rangedB d.pages.length d.size = true) (h2 : ∀ s ∈ d.pages, (s.size : Int) = d.size) (h3 : ∀ x ∈ d.cache, 0 ≤ x.page ∧ x.page < d.pages.length ∧ (x.data.size : Int) = d.size) (h4 : -1 ≤ d.left) : chk d = 0 := by
 unfold chk
 rw [if_neg (by simp [h1]), if_neg (by simp [chkP_mk h2]), if_neg (by simp [chkC_mk h3]), if_neg (by omega)]
theorem crashP_len {picks : List Int} {size : Int} : ∀ (l : List PW) (k : Nat) (ps : List ByteArray), (crashP picks size k l ps).length = ps.length
 | [], _, _ => rfl
 | x :: r, k, ps => by rw [crashP, crashP_len r]; simp
theorem mem_set_of {α : Type} {P : α → Prop} {l : List α} {i : Nat} {x : α} (h : ∀ y ∈ l, P y) (hx : P x) : ∀ y ∈ l.set i x, P y := by
 intro y hy
 rcases List.mem_or_eq_of_mem_set hy with h' | rfl
 ·
  exact h y h'
 ·
  exact hx
theorem getD_size {z : Int} {ps : List ByteArray} {i : Nat} (h : ∀ s ∈ ps, (s.size : Int) = z) (hi : i < ps.length) : ((ps.getD i ByteArray.empty).size : Int) = z := by
 simp only [List.getD, List.getElem?_eq_getElem hi, Option.getD_some]
 exact h _ (List.getElem_mem _)
theorem taken_le {picks : List Int} {k : Nat} {z : Int} {s : ByteArray} (hz : 0 ≤ z) (h : (s.size : Int) = z) : (takenI picks k z).toNat ≤ s.size := by
 have := (takenI_bd picks k z hz).2
 omega
theorem crashP_sizes {picks : List Int} {z : Int} (hz : 0 ≤ z) : ∀ (l : List PW) (k : Nat) (ps : List ByteArray), (∀ s ∈ ps, (s.size : Int) = z) → (∀ x ∈ l, 0 ≤ x.page ∧ x.page < ps.length ∧ (x.data.size : Int) = z) → ∀ s ∈ crashP picks z k l ps, (s.size : Int) = z
 | [], _, _, hp, _ => hp
 | x :: r, k, ps, hp, hl => by
  obtain ⟨h1, h2, h3⟩ := hl x (by simp)
  rw [crashP]
  refine crashP_sizes hz r (k + 1) _ (mem_set_of hp ?_) (fun y hy => by have := hl y (by simp [hy]); simpa using this)
  have hg := getD_size (i := x.page.toNat) hp (by omega)
  rw [tear_size (taken_le hz h3) (by omega)]
  exact hg
theorem crash_chk {d : Dsk} (h : chk d = 0) (picks : List Int) : chk (crashD d picks) = 0 := by
 obtain ⟨h1, h2, h3, h4⟩ := chk_zero h
 have hr := rangedB_true h1
 unfold crashD
 rw [if_neg (by simp [h])]
 refine chk_mk ?_ ?_ (by simp) (by simp)
 ·
  simpa [crashP_len] using h1
 ·
  exact crashP_sizes (by omega) d.cache 0 d.pages h2 h3
theorem crash_len {d : Dsk} (h : chk d = 0) (picks : List Int) : (crashD d picks).pages.length = d.pages.length := by
 unfold crashD
 rw [if_neg (by simp [h])]
 exact crashP_len _ _ _
theorem crash_size {d : Dsk} (h : chk d = 0) (picks : List Int) : (crashD d picks).size = d.size := by
 unfold crashD
 rw [if_neg (by simp [h])]
theorem flush_chk {d : Dsk} (h : chk d = 0) (l : Int) (hl : -1 ≤ l) : chk ⟨d.size, contentsD d, [], l⟩ = 0 := by
 obtain ⟨h1, h2, h3, h4⟩ := chk_zero h
 refine chk_mk ?_ ?_ (by simp) hl
 ·
  simpa [contentsD_len] using h1
 ·
  exact contents_size h2 (fun x hx => (h3 x hx).2.2)
theorem opD_left {d : Dsk} (h : -1 ≤ d.left) : -1 ≤ (opD d).left := by unfold opD; simp only; split <;> omega
theorem write_chk {d : Dsk} (h : chk d = 0) {i : Int} {data : ByteArray} (h1 : 0 ≤ i) (h2 : i < d.pages.length) (h3 : (data.size : Int) = d.size) : chk { opD d with cache := d.cache ++ [⟨i, data⟩] } = 0 := by
 obtain ⟨g1, g2, g3, g4⟩ := chk_zero h
 refine chk_mk g1 g2 ?_ (opD_left g4)
 intro x hx
 rcases List.mem_append.1 hx with hx | hx
 ·
  exact g3 x hx
 ·
  obtain rfl := List.mem_singleton.1 hx
  exact ⟨h1, h2, h3⟩
theorem readD_ok {d : Dsk} (h : chk d = 0) {k : Nat} (hk : k < d.pages.length) : readD d k = (contentD d k hk, 0) := by
 unfold readD
 rw [if_neg (by simp [h]), if_neg (by omega)]
 simp [hk]
theorem flush_cases (d : Dsk) : ((flushD d).2 = 1 ∧ chk d ≠ 0 ∧ (flushD d).1 = zeroD) ∨ ((flushD d).2 = 18 ∧ chk d = 0 ∧ d.left = 0 ∧ (flushD d).1 = d) ∨ ((flushD d).2 = 0 ∧ chk d = 0 ∧ d.left ≠ 0 ∧ (flushD d).1 = ⟨d.size, contentsD d, [], (opD d).left⟩) := by
 unfold flushD
 by_cases h : chk d ≠ 0
 ·
  simp [h]
 ·
  by_cases h' : d.left = 0 <;> simp [h, h'] <;> simpa using h
theorem write_cases (d : Dsk) (i : Int) (data : ByteArray) : ((writeD d i data).2 ≠ 0 ∧ (writeD d i data).2 ≠ 18 ∧ (writeD d i data).1 = zeroD) ∨
  (chk d = 0 ∧ 0 ≤ i ∧ i < d.pages.length ∧ (data.size : Int) = d.size ∧ (((writeD d i data).2 = 18 ∧ d.left = 0 ∧ (writeD d i data).1 = d) ∨ ((writeD d i data).2 = 0 ∧ d.left ≠ 0 ∧ (writeD d i data).1 = { opD d with cache := d.cache ++ [⟨i, data⟩] }))) := by
 unfold writeD
 by_cases h : chk d ≠ 0
 ·
  simp [h]
 ·
  by_cases h1 : i < 0 ∨ (d.pages.length : Int) ≤ i
  ·
   simp [h, h1]
  ·
   by_cases h2 : (data.size : Int) ≠ d.size
   ·
    rw [if_neg h, if_neg h1, if_pos h2]; simp
   ·
    right
    refine ⟨by simpa using h, by omega, by omega, by simpa using h2, ?_⟩
    rw [if_neg h, if_neg h1, if_neg h2]
    by_cases h3 : d.left = 0 <;> simp [h3]
/-- after a Write that succeeds -/
theorem content_write {d : Dsk} {i : Int} {data : ByteArray} {k : Nat} (hk : k < d.pages.length) (e : Dsk) (he : e = { opD d with cache := d.cache ++ [⟨i, data⟩] }) (hk' : k < e.pages.length) :
  contentD e k hk' = if i = k then data else contentD d k hk := by
 subst he
 unfold contentD
 simp only [opD]
 rw [lastW_app]
 rfl
/-- after a Flush that succeeds -/
theorem content_flush {d : Dsk} {l : Int} {k : Nat} (hk : k < d.pages.length) (e : Dsk) (he : e = ⟨d.size, contentsD d, [], l⟩) (hk' : k < e.pages.length) : contentD e k hk' = contentD d k hk := by
 subst he
 simp [contentD, contentsD, lastW]
theorem crashP_nil {picks : List Int} {z : Int} {ps : List ByteArray} : crashP picks z 0 [] ps = ps := rfl
/-- after a crash -/
theorem content_crash {d : Dsk} (h : chk d = 0) (picks : List Int) {k : Nat} (hk' : k < (crashD d picks).pages.length) :
  contentD (crashD d picks) k hk' = (crashP picks d.size 0 d.cache d.pages)[k]'(by rw [crashP_len]; rwa [crash_len h] at hk') := by
 have e : crashD d picks = ⟨d.size, crashP picks d.size 0 d.cache d.pages, [], -1⟩ := by unfold crashD; rw [if_neg (by simp [h])]
 have : ∀ (e' : Dsk) (hk'' : k < e'.pages.length), e' = ⟨d.size, crashP picks d.size 0 d.cache d.pages, [], -1⟩ → contentD e' k hk'' = (crashP picks d.size 0 d.cache d.pages)[k]'(by rw [crashP_len]; rwa [crash_len h] at hk') := by
  rintro e' hk'' rfl
  simp [contentD, lastW]
 exact this _ hk' e
/-- each byte after a crash is the durable one or that of a write -/
def byteAt (s : ByteArray) (i : Nat) : UInt8 := s.data[i]?.getD 0
theorem byteAt_tear {n : Nat} {a b : ByteArray} (h : n ≤ a.size) (i : Nat) : byteAt (tear n a b) i = byteAt (if i < n then a else b) i ∨ b.size < n := by
 by_cases hb : b.size < n
 ·
  exact .inr hb
 ·
  left
  unfold byteAt tear
  rw [ByteArray.data_append, ByteArray.data_extract, ByteArray.data_extract]
  rw [Array.getElem?_append]
  have e1 : (a.data.extract 0 n).size = n := by simp; omega
  rw [e1]
  by_cases hi : i < n
  ·
   rw [if_pos hi, if_pos hi, Array.getElem?_extract]
   simp
   rw [if_pos (by omega)]
  ·
   rw [if_neg hi, if_neg hi, Array.getElem?_extract]
   simp
   have hz : b.data.size = b.size := rfl
   by_cases hib : i < b.size
   ·
    rw [if_pos (by omega)]
    rw [show n + (i - n) = i from by omega]
   ·
    rw [if_neg (by omega), Array.getElem?_eq_none (by omega)]
theorem crashP_from {picks : List Int} {z : Int} (hz : 0 ≤ z) (j i : Nat) : ∀ (l : List PW) (k : Nat) (ps : List ByteArray), (∀ s ∈ ps, (s.size : Int) = z) → (∀ x ∈ l, 0 ≤ x.page ∧ x.page < ps.length ∧ (x.data.size : Int) = z) → (hj : j < ps.length) →
  byteAt ((crashP picks z k l ps).getD j ByteArray.empty) i = byteAt ps[j] i ∨ ∃ x ∈ l, x.page = j ∧ byteAt ((crashP picks z k l ps).getD j ByteArray.empty) i = byteAt x.data i
 | [], _, ps, _, _, hj => by left; simp [crashP, List.getD, hj]
 | x :: r, k, ps, hp, hl, hj => by
  obtain ⟨h1, h2, h3⟩ := hl x (by simp)
  have hg := getD_size (i := x.page.toNat) hp (by omega)
  rw [crashP]
  rcases crashP_from (picks := picks) hz j i r (k + 1) (ps.set x.page.toNat (tear (takenI picks k z).toNat x.data (ps.getD x.page.toNat ByteArray.empty))) (mem_set_of hp (by rw [tear_size (taken_le hz h3) (by omega)]; exact hg)) (fun y hy => by have := hl y (by simp [hy]); simpa using this) (by simpa using hj) with h | ⟨y, hy, h⟩
  ·
   rw [h, List.getElem_set]
   by_cases hx : x.page.toNat = j
   ·
    rw [if_pos hx]
    have hbz : (ps.getD x.page.toNat ByteArray.empty).size = x.data.size := by omega
    rcases byteAt_tear (b := ps.getD x.page.toNat ByteArray.empty) (taken_le (picks := picks) (k := k) hz h3) i with h' | h'
    ·
     rw [h']
     split
     ·
      exact .inr ⟨x, by simp, by omega, rfl⟩
     ·
      left
      rw [hx]
      simp [List.getD, hj]
    ·
     exact absurd (taken_le (picks := picks) (k := k) hz h3) (by omega)
   ·
    rw [if_neg hx]; exact .inl rfl
  ·
   exact .inr ⟨y, by simp [hy], h⟩
end Go.Proofs.YtghikgjknhjjgaaGreatDoor
namespace Go.Proofs.YtghikgjknhjjgaaGreatDoor
set_option maxRecDepth 100000
open Go.RowKit
set_option maxHeartbeats 1000000 in
theorem ref40_write_ok (d : Dsk) (v : Value) (i : Int) (data : ByteArray) (w : World) {S : Nat → Prop} (hS : InS S w) (hD : DskR S w v d) (hd : data.size ≤ 140737488351232) (hn : d.cache.length ≤ 1000000) (hz : (chk d != 0) = false) (g1 : decide (i < 0) = false) (g2 : decide ((d.pages.length : Int) ≤ i) = false) (g3 : ((data.size : Int) != d.size) = false) (g4 : (d.left == 0) = false) :
  Calls Tryz.prog 39 #[v, .int .i64 i, .string data] w (RetDE S w { opD d with cache := d.cache ++ [⟨i, data⟩] } 0) := by
 have hD0 := hD
 obtain ⟨po, pc, co, cc, rfl, hp, hc, ok⟩ := hD
 have ok1 := ok.pages
 have okW := Lib.hid ok
 have hcW := hc
 clear ok hp hc
 obtain ⟨i0, hi, hz0, hz1, hz2⟩ := info_parts infoPW
 have hbw : ∀ o o', Below w.heap.size w ((w.alloc o).alloc o') := fun o o' => ((Below.refl _ _).alloc (Nat.le_refl _) _).alloc (by simp) _
 have slc := okW.out.slc
 have hpw : ∀ (W : World) (v : Value), DskR S W v d → Calls Tryz.prog 71 #[v] W (RetDE S W (opD d) 0) := fun W v h => by have := ref40_operate d v W h; rw [if_neg (by simpa using g4), if_neg (by simpa using g4)] at this; exact this
 go_enter Tryz.func39, Tryz.ntmps39
 go_wp2_with fail
 refine (ref40_check d _ _ (hD0.below (hbw _ _))).mono ?_
 rintro e w1 ⟨rfl, hb1⟩
 have xA := ((Bx.new w _ _).alloc _).belowAll hb1
 have xR := (Bx.new (w.alloc _) _ _).belowAll hb1
 rw [World.size_alloc] at xR
 have cA := xA.cell
 have fA := xA.free
 have cR := xR.cell
 have fR := xR.free
 have hB : Below w.heap.size w w1 := (hbw _ _).trans (hb1.mono (by simp; omega))
 have hlA := xA.lt
 have hlR := xR.lt
 go_wp2_with fail
 refine (hpw _ _ ((hD0.below (hbw _ _)).below hb1)).mono ?_
 rintro e w2 ⟨v2, rfl, hD2, hb2⟩
 have xA2 := xA.belowAll hb2
 have xR2 := xR.belowAll hb2
 have hB2 : Below w.heap.size w w2 := hB.trans (hb2.mono (by omega))
 clear cA fA cR fR
 have hE2 := hD2
 obtain ⟨po2, pc2, co2, cc2, rfl, hp2, hc2, ok2⟩ := hD2
 have cA := xA2.cell
 have fA := xA2.free
 have cR := xR2.cell
 have fR := xR2.free
 have hlA2 := xA2.lt
 have hlR2 := xR2.lt
 have nA : ¬ Gr S w1 w2 w.heap.size := by rintro (h | h); exact absurd (hS _ h) (by omega); omega
 have nR : ¬ Gr S w1 w2 (w.heap.size + 1) := by rintro (h | h); exact absurd (hS _ h) (by omega); omega
 have nN : ¬ Gr S w1 w2 w2.heap.size := by rintro (h | h); exact absurd (hS _ h) (by omega); omega
 have hcW2 : PWsAt S w2 co d.cache := ((hcW.below (hbw _ _)).below hb1).below hb2
 have xN2 := Bx.new w2 #[.int .i64 (opD d).size, .slice po2 (opD d).pages.length pc2, .slice co2 (opD d).cache.length cc2, .int .i64 (opD d).left] 25
 clear hcW hD0 hb1
 go_wp2_with (first
  | (at_builtin; go_loud (refine wpList_app rfl (.tmp 37) (.tmp 39) 23 rfl (w2.heap.size + 1) 73 i0 _ 2 24 Tryz.underlying23 hi hz0 hz1 hz2 rfl (by decide) _ 0 [] rfl (ownsRow_empty _ _ _ _ _ (by simp) (Nat.le_refl _)) co d.cache.length cc (cellsPW d.cache) rfl slc.nil (cellsPW_len _) (hcW2.row.below (((Below.refl _ _).alloc (Nat.le_refl _) _).alloc (by simp) _)) (cellsPW_one _) (by unfold maxLen; omega) (by omega) (by simp) ?_); go_loud (intro v3 w3 hown3 hg3; simp only [Nat.zero_add, List.nil_append] at hown3; clear cA fA cR fR; have xA3 := ((xA2.alloc _).alloc _).grown hg3 (fun e => by have e : w.heap.size = w2.heap.size + 1 := Option.some.inj e; omega); have xR3 := ((xR2.alloc _).alloc _).grown hg3 (fun e => by have e : w.heap.size + 1 = w2.heap.size + 1 := Option.some.inj e; omega); have xN3 := (xN2.alloc _).grown hg3 (fun e => by have e : w2.heap.size = w2.heap.size + 1 := Option.some.inj e; omega); have cA := xA3.cell; have fA := xA3.free; have cR := xR3.cell; have fR := xR3.free; have cN := xN3.cell; have fN := xN3.free; have hz3 : w2.heap.size + 2 ≤ w3.heap.size := (by have := hg3.size; simpa using this)))
  | (at_builtin; refine wpList_app rfl (.tmp 40) (.tmp 44) 23 rfl (w2.heap.size + 1) 73 i0 _ 2 24 Tryz.underlying23 hi hz0 hz1 hz2 rfl (by decide) _ d.cache.length (cellsPW d.cache) rfl (hown3.alloc _) _ 1 1 [.int .i64 i, .string data] rfl (by intro e; cases e) rfl (RowAt.bx (Bx.new w3 _ _)) (by simp [Value.oneCell']) (by unfold maxLen; omega) (by omega) (by simp; omega) ?_; intro v4 w4 hown4 hg4; clear cA fA cR fR cN fN; obtain ⟨o4, c4, rfl, hs4, hr4, ho4⟩ := ownsRow_at hown4; have xA4 := (xA3.alloc _).grown hg4 (by intro e; have := (hown3.lt _ e.symm).1; omega); have xR4 := (xR3.alloc _).grown hg4 (by intro e; have := (hown3.lt _ e.symm).1; omega); have xN4 := (xN3.alloc _).grown hg4 (by intro e; have := (hown3.lt _ e.symm).1; omega); have cA := xA4.cell; have fA := xA4.free; have cR := xR4.cell; have fR := xR4.free; have cN := xN4.cell; have fN := xN4.free))
 have hz4 : w3.heap.size + 1 ≤ w4.heap.size := by have := hg4.size; simpa using this
 have hB3 : Below w.heap.size w w3 := ((hB2.alloc (by omega) _).alloc (by simp; omega) _).grown hg3 (by simp; omega) (fun k e => by have e : w2.heap.size + 1 = k := Option.some.inj e; omega)
 have hB4 : Below w.heap.size w w4 := ((hB3.alloc (by omega) _).grown hg4 (by simp; omega) (by intro k e; have := (hown3.lt _ e).1; omega))
 refine bodyPost_ret (v := .tuple #[.agg #[.int .i64 (opD d).size, .slice po2 (opD d).pages.length pc2, .slice o4 (d.cache.length + 1) c4, .int .i64 (opD d).left], .int .i64 0]) (by simp [results, Tryz.results39, go_sem, cR]) rfl ?_
 refine ⟨_, rfl, ⟨po2, pc2, o4, c4, by simp, ?_, ?_, writeD_ok ok2 hd hn hs4⟩, ?_⟩
 ·
  have hin : InS (Gr S w1 w2) w2 := fun b h => by rcases h with h | h; exact Nat.lt_of_lt_of_le (hS _ h) (by omega); omega
  have hs : Same (Gr S w1 w2) w2 w4 := ((((Same.refl _ _).alloc hin _).alloc (hin.size (by simp)) _).grown hg3 (hin.size (by simp; omega)) (fun b e h => by have e : w2.heap.size + 1 = b := Option.some.inj e; have := hin b h; omega)).alloc (hin.size (by omega)) _ |>.grown hg4 (hin.size (by simp; omega)) (fun b e h => by have := (hown3.lt _ e).1; have := hin b h; omega)
  refine StrsAt.mono (S := Gr S w1 w2) ?_ (fun b h => by rcases h with h | h; exact .inl h; exact Gr.new (by omega) (by simp only [World.size_setCell]; omega))
  exact hp2.same ((hs.set1 nN).set4 nR)
 ·
  refine PWsAt.mono (S := fun b => w2.heap.size + 1 ≤ b ∧ b < w4.heap.size) ?_ (fun b h => Gr.new (by omega) (by simp only [World.size_setCell]; omega))
  exact (PWsAt.of_row (l := d.cache ++ [⟨i, data⟩]) (by rw [cellsPW_app]; exact hr4)).same (((Same.refl _ _).set1 (b := w2.heap.size) (by omega)).set4 (b := w.heap.size + 1) (by omega))
 ·
  exact below_set4 (b := w.heap.size + 1) (below_set1 (b := w2.heap.size) hB4 (by omega)) (by omega)
set_option maxHeartbeats 1000000 in
theorem ref40_write_lost (d : Dsk) (v : Value) (i : Int) (data : ByteArray) (w : World) {S : Nat → Prop} (hS : InS S w) (hD : DskR S w v d) (_hd : data.size ≤ 140737488351232) (_hn : d.cache.length ≤ 1000000) (hz : (chk d != 0) = false) (g1 : decide (i < 0) = false) (g2 : decide ((d.pages.length : Int) ≤ i) = false) (g3 : ((data.size : Int) != d.size) = false) (g4 : (d.left == 0) = true) :
  Calls Tryz.prog 39 #[v, .int .i64 i, .string data] w (RetDE S w d 18) := by
 have hD0 := hD
 obtain ⟨po, pc, co, cc, rfl, hp, hc, ok⟩ := hD
 have ok1 := ok.pages
 have okW := Lib.hid ok
 have hcW := hc
 clear ok hp hc
 obtain ⟨i0, hi, hz0, hz1, hz2⟩ := info_parts infoPW
 have hbw : ∀ o o', Below w.heap.size w ((w.alloc o).alloc o') := fun o o' => ((Below.refl _ _).alloc (Nat.le_refl _) _).alloc (by simp) _
 have slc := okW.out.slc
 have hpw : ∀ (W : World) (v : Value), DskR S W v d → Calls Tryz.prog 71 #[v] W (RetDE S W d 18) := fun W v h => by have := ref40_operate d v W h; rw [if_pos (by simpa using g4), if_pos (by simpa using g4)] at this; exact this
 go_enter Tryz.func39, Tryz.ntmps39
 go_wp2_with fail
 refine (ref40_check d _ _ (hD0.below (hbw _ _))).mono ?_
 rintro e w1 ⟨rfl, hb1⟩
 have xA := ((Bx.new w _ _).alloc _).belowAll hb1
 have xR := (Bx.new (w.alloc _) _ _).belowAll hb1
 rw [World.size_alloc] at xR
 have cA := xA.cell
 have fA := xA.free
 have cR := xR.cell
 have fR := xR.free
 have hB : Below w.heap.size w w1 := (hbw _ _).trans (hb1.mono (by simp; omega))
 have hlA := xA.lt
 have hlR := xR.lt
 go_wp2_with fail
 refine (hpw _ _ ((hD0.below (hbw _ _)).below hb1)).mono ?_
 rintro e w2 ⟨v2, rfl, hD2, hb2⟩
 have xA2 := xA.belowAll hb2
 have xR2 := xR.belowAll hb2
 have hB2 : Below w.heap.size w w2 := hB.trans (hb2.mono (by omega))
 clear cA fA cR fR
 have hE2 := hD2
 obtain ⟨po2, pc2, co2, cc2, rfl, hp2, hc2, ok2⟩ := hD2
 have cA := xA2.cell
 have fA := xA2.free
 have cR := xR2.cell
 have fR := xR2.free
 have hlA2 := xA2.lt
 have hlR2 := xR2.lt
 have nA : ¬ Gr S w1 w2 w.heap.size := by rintro (h | h); exact absurd (hS _ h) (by omega); omega
 have nR : ¬ Gr S w1 w2 (w.heap.size + 1) := by rintro (h | h); exact absurd (hS _ h) (by omega); omega
 have nN : ¬ Gr S w1 w2 w2.heap.size := by rintro (h | h); exact absurd (hS _ h) (by omega); omega
 go_wp2
 refine bodyPost_ret (v := .tuple #[.agg #[.int .i64 d.size, .slice po2 d.pages.length pc2, .slice co2 d.cache.length cc2, .int .i64 d.left], .int .i64 18]) (by simp [results, Tryz.results39, go_sem, cR, hlR2]) rfl ?_
 have hin : InS (Gr S w1 w2) w2 := fun b h => by rcases h with h | h; exact Nat.lt_of_lt_of_le (hS _ h) (by omega); omega
 refine ⟨_, rfl, DskR.mono (S := Gr S w1 w2) ?_ (fun b h => by rcases h with h | h; exact .inl h; exact Gr.new (by omega) (by simp; omega)), ?_⟩
 ·
  exact hE2.same (((Same.refl _ _).set4 nR).alloc (hin.size (by simp)) _)
 ·
  exact (below_set4 (b := w.heap.size + 1) hB2 (by omega)).alloc (by simp; omega) _
set_option maxHeartbeats 1000000 in
theorem ref40_write (d : Dsk) (v : Value) (i : Int) (data : ByteArray) (w : World) {S : Nat → Prop} (hS : InS S w) (hD : DskR S w v d) (hd : data.size ≤ 140737488351232) (hn : d.cache.length ≤ 1000000) :
  Calls Tryz.prog 39 #[v, .int .i64 i, .string data] w (RetDE S w (writeD d i data).1 (writeD d i data).2) := by
 have hD0 := hD
 obtain ⟨po, pc, co, cc, rfl, hp, hc, ok⟩ := hD
 have ok1 := ok.pages
 have okW := Lib.hid ok
 clear ok hp hc
 obtain ⟨i0, hi, hz0, hz1, hz2⟩ := info_parts infoPW
 have hbw : ∀ o o', Below w.heap.size w ((w.alloc o).alloc o') := fun o o' => ((Below.refl _ _).alloc (Nat.le_refl _) _).alloc (by simp) _
 unfold writeD
 cases hz : (chk d != 0)
 ·
  rw [if_neg (by simpa using hz)]
  cases g1 : decide (i < 0)
  ·
   cases g2 : decide ((d.pages.length : Int) ≤ i)
   ·
    rw [if_neg (by simp at g1 g2; omega)]
    cases g3 : ((data.size : Int) != d.size)
    ·
     rw [if_neg (by simpa using g3)]
     cases g4 : (d.left == 0)
     ·
      rw [if_neg (by simpa using g4)]
      exact ref40_write_ok d _ i data w hS hD0 hd hn hz g1 g2 g3 g4
     ·
      rw [if_pos (by simpa using g4)]
      exact ref40_write_lost d _ i data w hS hD0 hd hn hz g1 g2 g3 g4
    ·
     rw [if_pos (by simpa using g3)]
     go_enter Tryz.func39, Tryz.ntmps39
     go_wp2_with fail
     refine (ref40_check d _ _ (hD0.below (hbw _ _))).mono ?_
     rintro e w1 ⟨rfl, hb1⟩
     have xA := ((Bx.new w _ _).alloc _).belowAll hb1
     have xR := (Bx.new (w.alloc _) _ _).belowAll hb1
     rw [World.size_alloc] at xR
     have cA := xA.cell
     have fA := xA.free
     have cR := xR.cell
     have fR := xR.free
     have hB : Below w.heap.size w w1 := (hbw _ _).trans (hb1.mono (by simp; omega))
     have hlA := xA.lt
     have hlR := xR.lt
     go_wp2
     refine bodyPost_ret (v := .tuple #[.agg #[.int .i64 0, .slice none 0 0, .slice none 0 0, .int .i64 0], .int .i64 10]) (by simp [results, Tryz.results39, go_sem, cR]) rfl ?_
     exact ⟨_, rfl, zero_DskR _, (by repeat (first | exact hB | (refine Below.setCell ?_ (by simp) _) | (refine Below.alloc ?_ (by simp; omega) _) | (refine Below.drewN ?_ _) | (refine Below.drew ?_)))⟩
   ·
    rw [if_pos (by simp at g1 g2; omega)]
    go_enter Tryz.func39, Tryz.ntmps39
    go_wp2_with fail
    refine (ref40_check d _ _ (hD0.below (hbw _ _))).mono ?_
    rintro e w1 ⟨rfl, hb1⟩
    have xA := ((Bx.new w _ _).alloc _).belowAll hb1
    have xR := (Bx.new (w.alloc _) _ _).belowAll hb1
    rw [World.size_alloc] at xR
    have cA := xA.cell
    have fA := xA.free
    have cR := xR.cell
    have fR := xR.free
    have hB : Below w.heap.size w w1 := (hbw _ _).trans (hb1.mono (by simp; omega))
    have hlA := xA.lt
    have hlR := xR.lt
    go_wp2
    refine bodyPost_ret (v := .tuple #[.agg #[.int .i64 0, .slice none 0 0, .slice none 0 0, .int .i64 0], .int .i64 2]) (by simp [results, Tryz.results39, go_sem, cR]) rfl ?_
    exact ⟨_, rfl, zero_DskR _, (by repeat (first | exact hB | (refine Below.setCell ?_ (by simp) _) | (refine Below.alloc ?_ (by simp; omega) _) | (refine Below.drewN ?_ _) | (refine Below.drew ?_)))⟩
  ·
   rw [if_pos (by simp at g1; omega)]
   go_enter Tryz.func39, Tryz.ntmps39
   go_wp2_with fail
   refine (ref40_check d _ _ (hD0.below (hbw _ _))).mono ?_
   rintro e w1 ⟨rfl, hb1⟩
   have xA := ((Bx.new w _ _).alloc _).belowAll hb1
   have xR := (Bx.new (w.alloc _) _ _).belowAll hb1
   rw [World.size_alloc] at xR
   have cA := xA.cell
   have fA := xA.free
   have cR := xR.cell
   have fR := xR.free
   have hB : Below w.heap.size w w1 := (hbw _ _).trans (hb1.mono (by simp; omega))
   have hlA := xA.lt
   have hlR := xR.lt
   go_wp2
   refine bodyPost_ret (v := .tuple #[.agg #[.int .i64 0, .slice none 0 0, .slice none 0 0, .int .i64 0], .int .i64 2]) (by simp [results, Tryz.results39, go_sem, cR]) rfl ?_
   exact ⟨_, rfl, zero_DskR _, (by repeat (first | exact hB | (refine Below.setCell ?_ (by simp) _) | (refine Below.alloc ?_ (by simp; omega) _) | (refine Below.drewN ?_ _) | (refine Below.drew ?_)))⟩
 ·
  rw [if_pos (by simpa using hz)]
  go_enter Tryz.func39, Tryz.ntmps39
  go_wp2_with fail
  refine (ref40_check d _ _ (hD0.below (hbw _ _))).mono ?_
  rintro e w1 ⟨rfl, hb1⟩
  have xA := ((Bx.new w _ _).alloc _).belowAll hb1
  have xR := (Bx.new (w.alloc _) _ _).belowAll hb1
  rw [World.size_alloc] at xR
  have cA := xA.cell
  have fA := xA.free
  have cR := xR.cell
  have fR := xR.free
  have hB : Below w.heap.size w w1 := (hbw _ _).trans (hb1.mono (by simp; omega))
  have hlA := xA.lt
  have hlR := xR.lt
  go_wp2
  refine bodyPost_ret (v := .tuple #[.agg #[.int .i64 0, .slice none 0 0, .slice none 0 0, .int .i64 0], .int .i64 1]) (by simp [results, Tryz.results39, go_sem, cR]) rfl ?_
  exact ⟨_, rfl, zero_DskR _, (by repeat (first | exact hB | (refine Below.setCell ?_ (by simp) _) | (refine Below.alloc ?_ (by simp; omega) _) | (refine Below.drewN ?_ _) | (refine Below.drew ?_)))⟩
end Go.Proofs.YtghikgjknhjjgaaGreatDoor
