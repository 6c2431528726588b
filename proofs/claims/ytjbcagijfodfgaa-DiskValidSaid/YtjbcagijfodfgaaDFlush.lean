/- disk.Flush (layer 40) for every disk: the pair 'flushD' of the disk. -/
import Derived.Test.YtjbcagijfodfgaaDCont
import Derived.Test.YtjbcagijfodfgaaDRead
import Derived.Test.YtjbcagijfodfgaaDCrash
namespace Go.Proofs.Ytjbcagijfodfgaa
open Go.RowKit Go.Shelf

/-- 'make([]T, n)' under a fence, an element of one cell -/
theorem wpListIn_makeB {F : Fence} {nF : Nat} {P : Program} {ops : Array Oper} {rest : List Oper} {o : Oper} {a : Act} {Q : Exit → Act → World → Prop} {w : World} (hgd : o.guard = none) (l c : Operand) (t : TypeId) (hop : o.op = Op.makeSlice t l c)
    (e : TypeId) (i : TypeInfo) (z : Value) (bytes : Nat) (ht : P.underlying t = some (.slice e)) (hi : P.info? e = some i) (hz : i.zero = some z) (hsize : i.size = 1) (hby : i.bytes = bytes) (hzc : z.cells = #[z])
    (n : Nat) (hl : a.eval l = .int .i64 n) (hc : a.eval c = .int .i64 n) (hb : bytes * n ≤ 281474976710656) (h63 : n ≤ 9223372036854775807)
    (hK : ∀ w', Bx w' w.heap.size (List.replicate n z).toArray e → w.grownBy w' none → w'.heap.size = w.heap.size + 1 → wpListIn F nF P ops Q rest (a.put o.dst (.slice (some ⟨w.heap.size, 0, none⟩) n n)) w') :
    wpListIn F nF P ops Q (o :: rest) a w := by
  refine wpListIn_plain hgd fun K hK' => ?_
  have hb' : (i.bytes : Int) * (n : Int) ≤ 281474976710656 := by
    have h : ((i.bytes * n : Nat) : Int) ≤ 281474976710656 := by rw [hby]; omega
    rwa [Int.natCast_mul] at h
  have hrun := run_make (P := P) w t e i z ht hi hz .i64 .i64 n n (by omega) (Int.le_refl _) hb' (by omega)
  rw [hsize, hzc, Nat.mul_one, madeCells_one] at hrun
  simp only [Int.toNat_natCast] at hrun
  unfold Oper.wpIn
  refine ⟨by simp [Oper.about, hop], ?_⟩
  rw [Oper.semAt_plain F _ _ (by rw [hop]; intro c hc'; cases hc')]
  simp [execOp, hop, hl, hc, hrun, Result.andThen]
  exact hK' _ _ (by simpa using hK _ (Bx.new w _ _) (World.grownBy_alloc w _ none) (World.size_alloc _ _))

/-- the pages after the contents of the pages of pre have been stored -/
def fillP (d : Dsk) (pre : List (Fin d.pages.length)) : List ByteArray := pre.foldl (fun ps x => ps.set x.1 (contentD d x.1 x.2)) (List.replicate d.pages.length ByteArray.empty)
theorem fillP_snoc (d : Dsk) (pre : List (Fin d.pages.length)) (x : Fin d.pages.length) : fillP d (pre ++ [x]) = (fillP d pre).set x.1 (contentD d x.1 x.2) := by simp [fillP]
theorem fillP_len (d : Dsk) (pre : List (Fin d.pages.length)) : (fillP d pre).length = d.pages.length := by
  unfold fillP
  suffices ∀ (l : List (Fin d.pages.length)) (ps : List ByteArray), (l.foldl (fun ps x => ps.set x.1 (contentD d x.1 x.2)) ps).length = ps.length by rw [this]; simp
  intro l
  induction l with
  | nil => intro ps; rfl
  | cons x l ih => intro ps; rw [List.foldl_cons, ih]; simp
theorem foldl_set_get {N : Nat} (c : Fin N → ByteArray) (j : Fin N) : ∀ (l : List (Fin N)) (ps : List ByteArray), ps.length = N → (l.foldl (fun ps x => ps.set x.1 (c x)) ps)[j.1]? = if j ∈ l then some (c j) else ps[j.1]?
  | [], ps, _ => by simp
  | x :: l, ps, h => by
    rw [List.foldl_cons, foldl_set_get c j l _ (by simpa using h)]
    by_cases h1 : j ∈ l
    · simp [h1]
    · by_cases h2 : j = x
      · subst h2; simp [h1, h, j.2]
      · have h3 : x.1 ≠ j.1 := fun e => h2 (Fin.ext e.symm)
        simp [h1, h2, List.getElem?_set_ne h3]
theorem fillP_all (d : Dsk) : fillP d (List.finRange d.pages.length) = contentsD d := by
  apply List.ext_getElem?
  intro j
  by_cases hj : j < d.pages.length
  · have := foldl_set_get (fun x => contentD d x.1 x.2) ⟨j, hj⟩ (List.finRange d.pages.length) (List.replicate d.pages.length ByteArray.empty) (by simp)
    rw [if_pos (List.mem_finRange _)] at this
    unfold fillP contentsD
    rw [this]
    simp [hj]
  · rw [List.getElem?_eq_none (by rw [fillP_len]; omega), List.getElem?_eq_none (by simp [contentsD]; omega)]

theorem lastW_size {i : Int} {z : Int} {l : List PW} (h : ∀ x ∈ l, (x.data.size : Int) = z) : ∀ s : ByteArray, (s.size : Int) = z → ((lastW i l s).size : Int) = z := by
  induction l with
  | nil => intro s hs; exact hs
  | cons x l ih =>
    intro s hs
    rw [lastW]
    refine ih (fun y hy => h y (by simp [hy])) _ ?_
    split
    · exact h x (by simp)
    · exact hs
theorem contents_size {d : Dsk} (hp : ∀ s ∈ d.pages, (s.size : Int) = d.size) (hc : ∀ x ∈ d.cache, (x.data.size : Int) = d.size) : ∀ s ∈ contentsD d, (s.size : Int) = d.size := by
  intro s hs
  obtain ⟨i, _, rfl⟩ := List.mem_map.1 hs
  exact lastW_size hc _ (hp _ (List.getElem_mem _))
theorem contentsD_len (d : Dsk) : (contentsD d).length = d.pages.length := by simp [contentsD]
theorem flush_ok {d : Dsk} {o : Option Addr} {c : Nat} {l : Int} (hp : ∀ s ∈ d.pages, (s.size : Int) = d.size) (hc : ∀ x ∈ d.cache, (x.data.size : Int) = d.size) (hn : d.pages.length ≤ 2000) (hs : d.size ≤ 512) (hm : d.pages.length ≤ maxLen) (hl : -9223372036854775808 ≤ l ∧ l ≤ 9223372036854775807)
    {b : Nat} (ho : o = some ⟨b, 0, none⟩ := by rfl) (hcc : c = d.pages.length := by rfl) : DskOk ⟨d.size, contentsD d, [], l⟩ o none c 0 :=
  ⟨.inr ⟨_, ho, by rw [contentsD_len, hcc]; exact Nat.le_refl _, by rw [hcc]; exact hm⟩, .inl ⟨rfl, rfl, rfl⟩, by simp only [contentsD_len]; omega, by simp, fun s h => by have := contents_size hp hc s h; omega, by simp, hl⟩

section
attribute [local go_sem] Oper.semAt_some
set_option maxRecDepth 100000 in
set_option maxHeartbeats 4000000 in
theorem disk_flush_ok (d : Dsk) (v : Value) (w : World) {S : Nat → Prop} (hS : InS S w) (hD : DskR S w v d) (hz : (chk d != 0) = false) (g4 : (d.left == 0) = false) :
    Calls Try.prog 24 #[v] w (RetDE S w ⟨d.size, contentsD d, [], (opD d).left⟩ 0) := by
  obtain ⟨v1, v2, v3, v4⟩ := chk_zero (by simpa using hz)
  have hr := rangedB_true v1
  have hD0 := hD
  obtain ⟨po, pc, co, cc, rfl, hp, hc, ok⟩ := hD
  have ok1 := ok.pages
  have okW := Lib.hid ok
  clear ok hp hc
  obtain ⟨i0, hi, hz0', hz1, hz2⟩ := info_parts infoStr
  have hbw : ∀ o o', Below w.heap.size w ((w.alloc o).alloc o') := fun o o' => ((Below.refl _ _).alloc (Nat.le_refl _) _).alloc (by simp) _
  have hpw : ∀ (W : World) (v : Value), DskR S W v d → Calls Try.prog 32 #[v] W (RetDB S W (opD d) true) := fun W v h => by have := disk_power d v W h; rw [if_neg (by simpa using g4), g4] at this; exact this
  obtain ⟨n, hn⟩ : ∃ n, 9 ≤ n := ⟨9, Nat.le_refl _⟩
  refine (callsIn_wide (n := n)).1 ?_
  have hro : Fence.wide.round = none := rfl
  have h1 : 1 ≤ n := by omega
  refine callsIn_of_wp_marks Try.func24 rfl trivial ?_ hro
  simp only [Try.ntmps24, List.size_toArray, List.length_cons, List.length_nil, Nat.reduceAdd, Nat.reduceSub, Array.replicate_succ, Array.replicate_zero, List.push_toArray, List.append_toArray, List.nil_append, List.cons_append]
  gi_wp2_with (refine ⟨trivial, ?_⟩; gi_at_call 16; refine (callsIn_wide.2 (disk_check d _ _ (hD0.below (hbw _ _)))).mono ?_)
  rintro e w1 ⟨rfl, hb1⟩
  have xA := ((Bx.new w _ _).alloc _).belowAll hb1
  have xR := (Bx.new (w.alloc _) _ _).belowAll hb1
  rw [World.size_alloc] at xR
  have cA := xA.cell
  have fA := xA.free
  have cR := xR.cell
  have fR := xR.free
  have hB : Below w.heap.size w w1 := (hbw _ _).trans (hb1.mono (by simp; omega))
  have hlA := xA.lt
  have hlR := xR.lt
  gi_wp2_with (refine ⟨trivial, ?_⟩; gi_at_call 32; refine (callsIn_wide.2 (hpw _ _ ((hD0.below (hbw _ _)).below hb1))).mono ?_)
  rintro e w2 ⟨vv2, rfl, hD2, hb2⟩
  have xA2 := xA.belowAll hb2
  have xR2 := xR.belowAll hb2
  have hB2 : Below w.heap.size w w2 := hB.trans (hb2.mono (by omega))
  clear cA fA cR fR
  have hE2 := hD2
  obtain ⟨po2, pc2, co2, cc2, rfl, hp2, hc2, ok2⟩ := hD2
  have cA := xA2.cell
  have fA := xA2.free
  have cR := xR2.cell
  have fR := xR2.free
  have hlA2 := xA2.lt
  have hlR2 := xR2.lt
  have nA : ¬ Gr S w1 w2 w.heap.size := by rintro (h | h); exact absurd (hS _ h) (by omega); omega
  have nR : ¬ Gr S w1 w2 (w.heap.size + 1) := by rintro (h | h); exact absurd (hS _ h) (by omega); omega
  have hvh := Lib.hid (And.intro v2 v3)
  have hp2000 : d.pages.length ≤ 2000 := by omega
  clear v2 v3
  gi_wp2_with (first
    | (refine wpListIn_makeB rfl (.tmp 22) (.tmp 22) 22 rfl 9 i0 _ 16 Try.underlying22 hi hz0' hz1 hz2 rfl d.pages.length rfl rfl (by omega) (by omega) ?_; intro w3 xG hg3 hz3'; have xA3 := (xA2.set4).grown hg3 (by simp); have xR3 := (xR2.setO4 (b' := w.heap.size) (by simp)).grown hg3 (by simp); have hB3 := (below_set4 (b := w.heap.size) hB2 (Nat.le_refl _)).grown hg3 (by simp; omega) (by simp); have hp3 := (hp2.same ((Same.refl _ _).set4 nA)).same (Same.of_grown hg3 (fun b h => by rcases h with h | h; exact Nat.lt_of_lt_of_le (hS _ h) (by simp; omega); simp; omega) (by simp)); clear cA fA cR fR; have cA := xA3.cell; have fA := xA3.free; have cR := xR3.cell; have fR := xR3.free; have hlA3 := xA3.lt; have hlR3 := xR3.lt)
    | (refine ⟨trivial, ?_⟩; gi_at_call 35; refine (cont_in Fence.wide _ trivial hro _ _ _ _ _).mono ?_; rintro e w' ⟨rfl, rfl⟩))
  have hz3 : w3.heap.size = w2.heap.size + 1 := by simpa using hz3'
  obtain ⟨W0, hW0⟩ : ∃ W0, (w3.alloc (.cells #[.slice (some ⟨w2.heap.size, 0, none⟩) d.pages.length d.pages.length] 22)).alloc (.cells #[.int .i64 (opD d).size, .slice po2 (opD d).pages.length pc2, .slice co2 (opD d).cache.length cc2, .int .i64 (opD d).left] 25) = W0 := ⟨_, rfl⟩
  have yG : Bx W0 w2.heap.size (List.replicate d.pages.length (Value.string .empty)).toArray 9 := by rw [← hW0]; simp only [World.size_setCell] at xG; exact (xG.alloc _).alloc _
  have yS : Bx W0 (w2.heap.size + 1) #[.slice (some ⟨w2.heap.size, 0, none⟩) d.pages.length d.pages.length] 22 := by rw [← hW0]; exact (Bx.newAt _ _ _ _ hz3.symm).alloc _
  have yB : Bx W0 (w2.heap.size + 1 + 1) #[.int .i64 (opD d).size, .slice po2 (opD d).pages.length pc2, .slice co2 (opD d).cache.length cc2, .int .i64 (opD d).left] 25 := by rw [← hW0]; exact Bx.newAt _ _ _ _ (by simp [hz3])
  have yA := (xA3.alloc (.cells #[.slice (some ⟨w2.heap.size, 0, none⟩) d.pages.length d.pages.length] 22)).alloc (.cells #[.int .i64 (opD d).size, .slice po2 (opD d).pages.length pc2, .slice co2 (opD d).cache.length cc2, .int .i64 (opD d).left] 25)
  have yR := (xR3.alloc (.cells #[.slice (some ⟨w2.heap.size, 0, none⟩) d.pages.length d.pages.length] 22)).alloc (.cells #[.int .i64 (opD d).size, .slice po2 (opD d).pages.length pc2, .slice co2 (opD d).cache.length cc2, .int .i64 (opD d).left] 25)
  rw [hW0] at yA yR
  have hB0 : Below w.heap.size w W0 := by rw [← hW0]; exact (hB3.alloc (by omega) _).alloc (by simp; omega) _
  have hSm : Same (Gr S w1 w2) w2 W0 := by
    rw [← hW0]
    have hI : InS (Gr S w1 w2) w2 := fun b h => by rcases h with h | h; exact Nat.lt_of_lt_of_le (hS _ h) (by omega); omega
    have h3 : Same (Gr S w1 w2) w2 w3 := ((Same.refl _ _).set4 nA).grown hg3 (hI.size (by simp)) (by simp)
    exact (h3.alloc (hI.size (by omega)) _).alloc (hI.size (by simp; omega)) _
  have hs0 : W0.heap.size = w2.heap.size + 3 := by rw [← hW0]; simp [hz3]
  have hI2 : InS (Gr S w1 w2) w2 := fun b h => by rcases h with h | h; exact Nat.lt_of_lt_of_le (hS _ h) (by omega); omega
  have hp0 : StrsAt (Gr S w1 w2) W0 po2 (opD d).pages := hp2.same hSm
  have hc0 : PWsAt (Gr S w1 w2) W0 co2 (opD d).cache := hc2.same hSm
  rw [hW0]
  have hs0h := Lib.hid hs0
  clear hW0 xA xR xA2 xR2 xA3 xR3 xG cA fA cR fR hB3 hp3 hg3
  refine rangeFunc_run hro h1 (gf := 44) (lb := #[.pointer (some ⟨w2.heap.size + 1 + 1, 0, none⟩)]) rfl trivial (enters_of Try.func44 (by kernel_rfl) rfl)
    (encs := fun x : Fin d.pages.length => #[Value.int .i64 (x.1 : Int), .string (contentD d x.1 x.2)]) (T := fun b => Gr S w1 w2 b ∨ W0.heap.size + 2 ≤ b) (S := fun ys => ys = List.finRange d.pages.length) (N := d.pages.length)
    (fun W1 hz1 hb1 => cont_runs Fence.wide (n - 1) trivial hro (by omega) (w2.heap.size + 1 + 1) (opD d) po2 co2 pc2 cc2 (S := Gr S w1 w2) _ W1 ok2 (fun x hx => ⟨(hvh.out.2 x hx).1, (hvh.out.2 x hx).2.1⟩) (fun b => .inl) (fun b h => .inr (by omega)) (hp0.below hb1) (hc0.below hb1) (yB.belowAll hb1))
    (by rintro (h | h); exact absurd (hI2 _ h) (by omega); omega) (fun _ => rfl)
    (fun pre W => Bx W w2.heap.size ((fillP d pre).map Value.string).toArray 9 ∧ Bx W (w2.heap.size + 1) #[.slice (some ⟨w2.heap.size, 0, none⟩) d.pages.length d.pages.length] 22 ∧ Bx W w.heap.size #[.int .i64 (opD d).size, .slice po2 (opD d).pages.length pc2, .slice co2 (opD d).cache.length cc2, .int .i64 (opD d).left] 25 ∧ Bx W (w.heap.size + 1) #[.int .i64 0, .slice none 0 0, .slice none 0 0, .int .i64 0] 25 ∧ Below w.heap.size w W)
    (fun pre W W' row h hg hr => ⟨h.1.grown hg (fun e => by have := hr _ e.symm; omega), h.2.1.grown hg (fun e => by have := hr _ e.symm; omega), h.2.2.1.grown hg (fun e => by have := hr _ e.symm; omega), h.2.2.2.1.grown hg (fun e => by have := hr _ e.symm; omega), h.2.2.2.2.grown hg h.2.2.2.2.size (fun k e => by have := hr _ e; omega)⟩)
    ⟨by simpa [fillP] using yG, yS, yA, yR, hB0⟩
    (fun x => { tmps := #[.agg #[.int .i64 d.size, .slice po d.pages.length pc, .slice co d.cache.length cc, .int .i64 d.left], .pointer (some ⟨w.heap.size, 0, none⟩), .pointer (some ⟨w.heap.size + 1, 0, none⟩), .int .i64 0, .bool true, .pointer (some ⟨w2.heap.size + 1, 0, none⟩), .int .i64 (x.1 : Int), .string (contentD d x.1 x.2), .agg #[.int .i64 d.size, .slice po d.pages.length pc, .slice co d.cache.length cc, .int .i64 d.left], .int .i64 (chk d), .bool false, undef, .tuple #[.agg #[.int .i64 (opD d).size, .slice po2 (opD d).pages.length pc2, .slice co2 (opD d).cache.length cc2, .int .i64 (opD d).left], .bool true], .agg #[.int .i64 d.size, .slice po d.pages.length pc, .slice co d.cache.length cc, .int .i64 d.left], .tuple #[.agg #[.int .i64 (opD d).size, .slice po2 (opD d).pages.length pc2, .slice co2 (opD d).cache.length cc2, .int .i64 (opD d).left], .bool true], .agg #[.int .i64 (opD d).size, .slice po2 (opD d).pages.length pc2, .slice co2 (opD d).cache.length cc2, .int .i64 (opD d).left], .bool true, .bool true, .bool false, undef, .pointer (some ⟨w.heap.size, 1, none⟩), .slice po2 (opD d).pages.length pc2, .int .i64 (opD d).pages.length, .slice (some ⟨w2.heap.size, 0, none⟩) d.pages.length d.pages.length, .agg #[.int .i64 (opD d).size, .slice po2 (opD d).pages.length pc2, .slice co2 (opD d).cache.length cc2, .int .i64 (opD d).left], .func (.func 44) #[] #[.pointer (some ⟨w2.heap.size + 1 + 1, 0, none⟩)], .int .i64 (x.1 : Int), .string (contentD d x.1 x.2), undef, undef, undef, undef, undef, undef, undef, undef], defers := [] }) ?assign ?body ?done
  case assign =>
    intro l x W K hK
    gi_wp2
    exact hK
  case body =>
    rintro l pre x W ⟨bG, bS, bA, bR, hB⟩ hlt
    have cS := bS.cell 0
    simp at cS
    have hx := x.2
    have gfree := bG.free x.1
    have gcell : W.cell? ⟨w2.heap.size, x.1, none⟩ = some (.string ((fillP d pre)[x.1]'(by rw [fillP_len]; exact x.2))) := by rw [bG.cell]; simp [fillP_len]
    have hlG := bG.lt
    gi_wp2
    have hne : ∀ b, (Gr S w1 w2 b ∨ W0.heap.size + 2 ≤ b) → b ≠ w2.heap.size := by
      rintro b (h | h) e
      · have := hI2 _ h; omega
      · have := hs0h.out; omega
    refine ⟨Below.heap_setCell W _ _ _ (by simp; have := hs0h.out; omega), Below.heap_setCell W _ _ _ (by simp; have := hs0h.out; omega), KeepT.set W _ (fun h => hne _ h rfl), ?_, bS.setO (by simp) _, bA.setO (by simp; omega) _, bR.setO (by simp; omega) _, below_set1 (b := w2.heap.size) hB (by omega)⟩
    have := bG.set x.1 (Value.string (contentD d x.1 x.2))
    simpa [fillP_snoc, List.map_set] using this
  case done =>
    rintro xs W rfl ⟨bG, bS, bA, bR, hB⟩ hK
    rw [fillP_all] at bG
    have cS := bS.cell 0
    have cA := bA.cell
    have fA := bA.free
    have cR := bR.cell
    have fR := bR.free
    have hlA := bA.lt
    have hlR := bR.lt
    simp at cS
    have hOk : DskOk ⟨d.size, contentsD d, [], (opD d).left⟩ (some ⟨w2.heap.size, 0, none⟩) none d.pages.length 0 := flush_ok hvh.out.1 (fun x hx => (hvh.out.2 x hx).2.2) hp2000 hr.2.2.2 (by simp [maxLen]; omega) ok2.left
    gi_wp2
    have h0 : w2.heap.size ≠ w.heap.size := by omega
    have h01 : w2.heap.size ≠ w.heap.size + 1 := by omega
    have zG := ((bG.setO (a := ⟨w.heap.size, 1, none⟩) h0 (.slice (some ⟨w2.heap.size, 0, none⟩) d.pages.length d.pages.length)).setO (a := ⟨w.heap.size, 2, none⟩) h0 (.slice none 0 0)).setO4 (v0 := .int .i64 (opD d).size) (v1 := .slice (some ⟨w2.heap.size, 0, none⟩) d.pages.length d.pages.length) (v2 := .slice none 0 0) (v3 := .int .i64 (opD d).left) h01
    have zR := (((bR.setO (a := ⟨w.heap.size, 1, none⟩) (by simp) (.slice (some ⟨w2.heap.size, 0, none⟩) d.pages.length d.pages.length)).setO (a := ⟨w.heap.size, 2, none⟩) (by simp) (.slice none 0 0))).set4 (v0 := .int .i64 (opD d).size) (v1 := .slice (some ⟨w2.heap.size, 0, none⟩) d.pages.length d.pages.length) (v2 := .slice none 0 0) (v3 := .int .i64 (opD d).left)
    have zB := below_set4 (b := w.heap.size + 1) (v0 := .int .i64 (opD d).size) (v1 := .slice (some ⟨w2.heap.size, 0, none⟩) d.pages.length d.pages.length) (v2 := .slice none 0 0) (v3 := .int .i64 (opD d).left) (below_set1 (b := w.heap.size) (k := 2) (v := .slice none 0 0) (below_set1 (b := w.heap.size) (k := 1) (v := .slice (some ⟨w2.heap.size, 0, none⟩) d.pages.length d.pages.length) hB (by omega)) (by omega)) (by omega)
    have zK := (((((((KeepsOthers.setCell W ⟨w.heap.size, 1, none⟩ (.slice (some ⟨w2.heap.size, 0, none⟩) d.pages.length d.pages.length)).trans (KeepsOthers.setCell _ ⟨w.heap.size, 2, none⟩ (.slice none 0 0))).trans (KeepsOthers.setCell _ ⟨w.heap.size + 1, 0, none⟩ (.int .i64 (opD d).size))).trans (KeepsOthers.setCell _ ⟨w.heap.size + 1, 1, none⟩ (.slice (some ⟨w2.heap.size, 0, none⟩) d.pages.length d.pages.length))).trans (KeepsOthers.setCell _ ⟨w.heap.size + 1, 2, none⟩ (.slice none 0 0))).trans (KeepsOthers.setCell _ ⟨w.heap.size + 1, 3, none⟩ (.int .i64 (opD d).left)))).same _ _ hK rfl
    have hzW : W0.heap.size < W.heap.size := (Array.getElem?_eq_some_iff.1 hK).1
    revert zG zR zB zK
    generalize hWf : ((((((W.setCell _ _).setCell _ _).setCell _ _).setCell _ _).setCell _ _).setCell _ _) = Wf
    intro zG zR zB zK
    have hzf : W0.heap.size < Wf.heap.size := (Array.getElem?_eq_some_iff.1 zK).1
    refine ⟨by simp, .inl ⟨_, _, rfl, run_takeDeferred zK, ?_⟩⟩
    have zR' := bx_own zR (grownBy_putObj' _ W0.heap.size (.deferred none)) (fun r e => by cases e; exact ⟨_, zK, rfl⟩)
    have zG' := bx_own zG (grownBy_putObj' _ W0.heap.size (.deferred none)) (fun r e => by cases e; exact ⟨_, zK, rfl⟩)
    have cZ := zR'.cell
    refine ⟨.tuple #[.agg #[.int .i64 (opD d).size, .slice (some ⟨w2.heap.size, 0, none⟩) d.pages.length d.pages.length, .slice none 0 0, .int .i64 (opD d).left], .int .i64 0], ?_, ?_⟩
    · simp [results, Try.f24, go_sem, cZ]
    · refine ⟨_, rfl, ⟨some ⟨w2.heap.size, 0, none⟩, d.pages.length, none, 0, by simp [contentsD, opD], ?_, by intro i h; simp at h, hOk⟩, zB.trans (belowK_b (w := w) (Nat.le_refl _) Wf W0.heap.size _ _ (by omega) zK rfl rfl)⟩
      refine StrsAt.mono (S := (· = w2.heap.size)) (.of_row (by simpa using RowAt.bx zG')) (fun b h => Gr.new (by omega) (by simp; omega))
end
end Go.Proofs.Ytjbcagijfodfgaa
