/- pagelog.Open = openL. -/
import Derived.Test.YtghikgjknhjjgaaDoorQ08
import Derived.Test.YtghikgjknhjjgaaDoorQ06
namespace Go.Proofs.YtghikgjknhjjgaaDoor
set_option maxRecDepth 100000
open Go.RowKit Go.Shelf
section
attribute [local go_sem] Oper.semAt_some
/-- the version and the length that Open has after some pages -/
def pkL (d : Dsk) (frm til : Int) {M : Nat} (pre : List (Fin M)) : Nat × Nat :=
 (pre.zipIdx).foldl (fun a x => if a.1 < ((hdrP (pageL d (frm + x.1.1)) x.2 (areaN d frm til)).getD (0, 0)).1 then (hdrP (pageL d (frm + x.1.1)) x.2 (areaN d frm til)).getD (0, 0) else a) (0, 0)
theorem pkL_snoc (d : Dsk) (frm til : Int) {M : Nat} (pre : List (Fin M)) (x : Fin M) : pkL d frm til (pre ++ [x]) =
  if (pkL d frm til pre).1 < ((hdrP (pageL d (frm + x.1)) pre.length (areaN d frm til)).getD (0, 0)).1 then (hdrP (pageL d (frm + x.1)) pre.length (areaN d frm til)).getD (0, 0) else pkL d frm til pre := by
 unfold pkL
 rw [List.zipIdx_append, List.foldl_append]
 simp
theorem hdr_pos {l : List UInt8} {k : Nat} {a : Int} {p : Nat × Nat} (h : hdrP l k a = some p) : 1 ≤ p.1 ∧ p.1 ≤ 1099511627776 := by
 obtain ⟨q1, q2, q3, q4, _⟩ := hdrP_some (v := p.1) (n := p.2) h
 exact ⟨q3, q4⟩
theorem pkL_two (d : Dsk) (frm til : Int) : pkL d frm til (List.finRange 2) = headL d frm til := by
 rw [headL_G]
 unfold pkL hdG
 simp [List.finRange, List.zipIdx]
 cases hx : hdrP (pageL d frm) 0 (areaN d frm til) with
 | none => simp
 | some x =>
  have := hdr_pos hx
  have h0 : 0 < x.1 := by omega
  simp [h0]
set_option maxHeartbeats 1000000 in
theorem pl_areaW (d : Dsk) (po co : Option Addr) (pc cc : Nat) (frm til : Int) (w : World) (hf : fitE d frm til = 0) :
  Calls Tryd.prog 30 #[.agg (dC d po co pc cc), .int .i64 frm, .int .i64 til] w fun e w' => e = .returned (.int .i64 (areaN d frm til)) ∧ Below w.heap.size w w' := by
 obtain ⟨a1, a2, a3, a4, a5, a6⟩ := area_bd hf
 obtain ⟨h0, h1, h2, h3, h4, h5⟩ := fitE_zero hf
 have hr := rangedB_true (chk_zero h0).1
 have x1 := Bx.new w #[.int .i64 d.size, .slice po d.pages.length pc, .slice co d.cache.length cc, .int .i64 d.left] 30
 have cX := x1.cell
 have lX := x1.lt
 have ha : (til - frm - 2) * d.size = areaN d frm til := rfl
 have Ha := Lib.hid ha
 have b1 : 0 ≤ (til - frm - 2) * d.size := a1
 have b2 : (til - frm - 2) * d.size ≤ 1024000 := a2
 clear hf ha a1 a2 h0
 go_enter Tryd.func30, Tryd.ntmps30
 go_wp2
 go_ret
 exact ⟨by rw [← Ha.out]; rfl, Below.one _ _⟩
theorem KeptU.bx {w w' : World} {b k : Nat} {cs : Array Value} {t : TypeId} (h : KeptU b w w') (hx : Bx w k cs t) (hk : k ≠ b) (ht : t ≠ 5) : Bx w' k cs t :=
 h k _ hx hk (fun _ _ e => by injection e with _ e _; exact ht e)
theorem isBd_grown {B b : Nat} {bs : List Value} {w w' : World} {row : Option Nat} (h : IsBd B b bs w) (hg : w.grownBy w' row) (hb : some b ≠ row) (ho : ∀ p v, w.heap[b]? = some (.cells #[p, v] 75 (0, 0)) → ∀ k, v.ownBlock = some k → some k ≠ row) : IsBd B b bs w' := by
 have hlt : b < w.heap.size := by rcases h with h | h <;> exact h.lt
 refine h.imp ?_ ?_ <;>
 ·
  rintro ⟨h1, v, h2, h3, h4⟩
  exact ⟨h1, v, (hg.block b hlt hb).trans h2, ownsRow_gb h3 hg (ho _ v h2), h4⟩
theorem isBd_own_ne {B b k : Nat} {bs : List Value} {w : World} {lp : Loop} (h : IsBd B b bs w) (hl : w.heap[k]? = some (.loop lp)) : ∀ p v, w.heap[b]? = some (.cells #[p, v] 75 (0, 0)) → v.ownBlock ≠ some k := by
 intro p v hv e
 obtain ⟨q, h1, u, h2, h3, h4⟩ : ∃ q, BdAt B b q bs w := by rcases h with h | h <;> exact ⟨_, h⟩
 rw [h2] at hv
 obtain ⟨rfl, rfl⟩ : q = p ∧ u = v := by simpa using hv
 obtain ⟨cs, fr, hc⟩ := ownsRow_obj h3 e
 rw [hc] at hl
 cases hl
/-- the bytes of the pages that are read so far -/
def flL (d : Dsk) (i : Int) {M : Nat} (pre : List (Fin M)) : List UInt8 := (pre.map fun x => pageL d (i + x.1)).flatten
theorem flL_snoc (d : Dsk) (i : Int) {M : Nat} (pre : List (Fin M)) (x : Fin M) : flL d i (pre ++ [x]) = flL d i pre ++ pageL d (i + x.1) := by simp [flL]
theorem flL_all (d : Dsk) (i : Int) (M : Nat) : flL d i (List.finRange M) = pagesL d i M := by
 unfold flL pagesL
 congr 1
 apply List.ext_getElem <;> simp
theorem heap_st8 {w : World} {b k : Nat} (h : k ≠ b) (v0 v1 v2 v3 v4 v5 v6 v7 : Value) : (st8 w b v0 v1 v2 v3 v4 v5 v6 v7).heap[k]? = w.heap[k]? := by
 unfold st8
 rw [Below.heap_setCell _ _ _ _ h, Below.heap_setCell _ _ _ _ h, Below.heap_setCell _ _ _ _ h, Below.heap_setCell _ _ _ _ h, Below.heap_setCell _ _ _ _ h, Below.heap_setCell _ _ _ _ h, Below.heap_setCell _ _ _ _ h, Below.heap_setCell _ _ _ _ h]
set_option maxRecDepth 100000 in
set_option maxHeartbeats 1000000 in
theorem pl_Open_ok (d : Dsk) (v : Value) (frm til : Int) (w : World) (hD : DskV w v d) (hf : fitE d frm til = 0) :
  Calls Tryd.prog 13 #[v, .int .i64 frm, .int .i64 til] w (RetLE w (openL d frm til).1 (openL d frm til).2) := by
 have hD0 := hD
 obtain ⟨po, pc, co, cc, rfl⟩ := hD.agg
 have hbd := area_bd hf
 have hfz := fitE_zero hf
 obtain ⟨N, hN⟩ : ∃ N, w.heap.size = N := ⟨_, rfl⟩
 obtain ⟨W0, hW0⟩ : ∃ W0, (((w.alloc (.cells (dC d po co pc cc) 30)).alloc (.cells #[.int .i64 frm] 3)).alloc (.cells #[.int .i64 til] 3)).alloc (.cells lgZ 32) = W0 := ⟨_, rfl⟩
 have x0 : Bx W0 N (dC d po co pc cc) 30 := by subst hW0 hN; exact (((Bx.new w _ _).alloc _).alloc _).alloc _
 have x1 : Bx W0 (N + 1) #[.int .i64 frm] 3 := by subst hW0 hN; exact ((Bx.newAt _ _ _ _ (by simp)).alloc _).alloc _
 have x2 : Bx W0 (N + 1 + 1) #[.int .i64 til] 3 := by subst hW0 hN; exact (Bx.newAt _ _ _ _ (by simp)).alloc _
 have x3 : Bx W0 (N + 1 + 1 + 1) lgZ 32 := by subst hW0 hN; exact Bx.newAt _ _ _ _ (by simp)
 have hB0 : Below w.heap.size w W0 := by subst hW0; exact (((Below.one w _).alloc (by simp) _).alloc (by simp; omega) _).alloc (by simp; omega) _
 have hz0 : W0.heap.size = N + 4 := by subst hW0 hN; simp
 clear hD
 obtain ⟨n, hn⟩ : ∃ n, 9 ≤ n := ⟨9, Nat.le_refl _⟩
 refine (callsIn_wide (n := n)).1 ?_
 have hro : Fence.wide.round = none := rfl
 have h1 : 1 ≤ n := by omega
 refine callsIn_of_wp_marks Tryd.func13 rfl trivial ?_ hro
 simp only [Tryd.ntmps13, List.size_toArray, List.length_cons, List.length_nil, Nat.reduceAdd, Nat.reduceSub, Array.replicate_succ, Array.replicate_zero, List.push_toArray, List.append_toArray, List.nil_append, List.cons_append]
 have hfit := fun W vv (h : DskV W vv d) => by have := pl_fits d vv frm til W h; rw [hf] at this; exact this
 have Hfit := Lib.hid hfit
 have c0 := x0.cell
 have c1 := x1.cell 0
 have c2 := x2.cell 0
 have l0 := x0.lt
 simp at c1 c2
 have Hbd := Lib.hid hbd
 have Hfz := Lib.hid hfz
 have Hf := Lib.hid hf
 clear hfit hbd hfz hf
 gi_wp2_with (refine ⟨trivial, ?_⟩; gi_at_call 27; refine (callsIn_wide.2 (Hfit.out _ _ (hD0.below hB0))).mono ?_)
 rintro e w1 ⟨rfl, hb1⟩
 have y0 := x0.belowAll hb1
 have y1 := x1.belowAll hb1
 have y2 := x2.belowAll hb1
 have y3 := x3.belowAll hb1
 have hB1 := btr hB0 hb1
 have hz1 : N + 4 ≤ w1.heap.size := by have := hb1.size; omega
 clear c0 c1 c2 l0 x0 x1 x2 x3 hW0 hb1
 have c0 := y0.cell
 have c1 := y1.cell 0
 have c2 := y2.cell 0
 have l0 := y0.lt
 have l1 := y1.lt
 have l2 := y2.lt
 simp at c1 c2
 have hw2 : IntKind.i64.wrap (frm + 2) = frm + 2 := IntWalk.i64_in _ (by have := Hfz.out; have := rangedB_true (chk_zero this.1).1; omega)
 obtain ⟨g, hg⟩ : ∃ g, w1.heap.size = g := ⟨_, rfl⟩
 obtain ⟨W1, hW1⟩ : ∃ W1, ((w1.alloc (.cells (lgC d po co pc cc frm til 0 none 0 0) 32)).alloc (.cells #[.int .i64 0] 3)).alloc (.cells #[.int .i64 0] 3) = W1 := ⟨_, rfl⟩
 have z0 : Bx W1 N (dC d po co pc cc) 30 := by subst hW1; exact ((y0.alloc _).alloc _).alloc _
 have z1 : Bx W1 (N + 1) #[.int .i64 frm] 3 := by subst hW1; exact ((y1.alloc _).alloc _).alloc _
 have z2 : Bx W1 (N + 1 + 1) #[.int .i64 til] 3 := by subst hW1; exact ((y2.alloc _).alloc _).alloc _
 have z3 : Bx W1 (N + 1 + 1 + 1) lgZ 32 := by subst hW1; exact ((y3.alloc _).alloc _).alloc _
 have z4 : Bx W1 g (lgC d po co pc cc frm til 0 none 0 0) 32 := by subst hW1 hg; exact ((Bx.new _ _ _).alloc _).alloc _
 have z5 : Bx W1 (g + 1) #[.int .i64 0] 3 := by subst hW1 hg; exact (Bx.newAt _ _ _ _ (by simp)).alloc _
 have z6 : Bx W1 (g + 1 + 1) #[.int .i64 0] 3 := by subst hW1 hg; exact Bx.newAt _ _ _ _ (by simp)
 have hBB : Below w.heap.size w W1 := by subst hW1; exact ((hB1.alloc (by omega) _).alloc (by simp; omega) _).alloc (by simp; omega) _
 have hzz : W1.heap.size = g + 3 := by subst hW1 hg; simp
 have e0 := z0.cell
 have e1 := z1.cell 0
 have e2 := z2.cell 0
 have m0 := z0.lt
 have m1 := z1.lt
 have m2 := z2.lt
 simp at e1 e2
 rw [← hW1] at e0 e1 e2 m0 m1 m2
 have HW1 := Lib.hid hW1
 rw [hg] at l0 l1 l2
 clear hW1
 unfold lgC at e0 e1 e2 m0 m1 m2
 gi_wp2_with (refine ⟨trivial, ?_⟩; gi_at_call 28; refine (pc_in _ _ _ _ _ _ _ _).mono ?_; rintro e w' ⟨rfl, rfl⟩)
 rw [HW1.out]
 obtain ⟨W2, hW2⟩ : ∃ W2, ((W1.alloc (.cells (dC d po co pc cc) 30)).alloc (.cells #[.int .i64 frm] 3)).alloc (.cells #[.int .i64 (frm + 2)] 3) = W2 := ⟨_, rfl⟩
 rw [hW2]
 have u0 : Bx W2 N (dC d po co pc cc) 30 := by subst hW2; exact ((z0.alloc _).alloc _).alloc _
 have u1 : Bx W2 (N + 1) #[.int .i64 frm] 3 := by subst hW2; exact ((z1.alloc _).alloc _).alloc _
 have u2 : Bx W2 (N + 1 + 1) #[.int .i64 til] 3 := by subst hW2; exact ((z2.alloc _).alloc _).alloc _
 have u3 : Bx W2 (N + 1 + 1 + 1) lgZ 32 := by subst hW2; exact ((z3.alloc _).alloc _).alloc _
 have u4 : Bx W2 g (lgC d po co pc cc frm til 0 none 0 0) 32 := by subst hW2; exact ((z4.alloc _).alloc _).alloc _
 have u5 : Bx W2 (g + 1) #[.int .i64 0] 3 := by subst hW2; exact ((z5.alloc _).alloc _).alloc _
 have u6 : Bx W2 (g + 1 + 1) #[.int .i64 0] 3 := by subst hW2; exact ((z6.alloc _).alloc _).alloc _
 have u7 : Bx W2 (g + 3) (dC d po co pc cc) 30 := by subst hW2; exact ((Bx.newAt _ _ _ _ hzz.symm).alloc _).alloc _
 have u8 : Bx W2 (g + 4) #[.int .i64 frm] 3 := by subst hW2; exact (Bx.newAt _ _ _ _ (by simp [hzz])).alloc _
 have u9 : Bx W2 (g + 5) #[.int .i64 (frm + 2)] 3 := by subst hW2; exact Bx.newAt _ _ _ _ (by simp [hzz])
 have hBu : Below w.heap.size w W2 := by subst hW2; exact ((hBB.alloc (by omega) _).alloc (by simp; omega) _).alloc (by simp; omega) _
 have hzu : W2.heap.size = g + 6 := by subst hW2; simp [hzz]
 have hgN : N + 4 ≤ g := by omega
 clear z0 z1 z2 z3 z4 z5 z6 e0 e1 e2 m0 m1 m2 c0 c1 c2 l0 l1 l2 y0 y1 y2 y3 hW2 HW1 hBB hzz hB1 hB0 hz0 hg
 have hN2 := hBu.size
 have HNg := Lib.hid hgN
 have hDN : DskR (· < N) w (.agg (dC d po co pc cc)) d := by unfold DskV at hD0; rw [hN] at hD0; exact hD0
 refine rangeFunc_run2 hro h1 (gf := 53) (lb := #[.pointer (some ⟨g + 4, 0, none⟩), .pointer (some ⟨g + 5, 0, none⟩), .pointer (some ⟨g + 3, 0, none⟩)]) rfl trivial (enters_of Tryd.func53 (by kernel_rfl) rfl)
  (encs := fun x : Fin 2 => #[Value.string (bs (pageL d (frm + x.1)))]) (T := fun b => b < N ∨ b = g + 3 ∨ b = g + 4 ∨ b = g + 5) (S := fun ys => ys = List.finRange 2) (N := 2)
  (fun Wa hza hba => fun l J a1 a2 a3 _ => pc_runs (n - 1) (by omega) (g + 4) (g + 5) (g + 3) d po co pc cc frm (frm + 2) 2 rfl Hfz.out.2.2.1 (by have := Hbd.out; have := Hfz.out; have := rangedB_true (chk_zero this.1).1; omega) (S := (· < N)) _ Wa (fun b => .inl) (fun b hb => by have : b < N := hb; omega) (.inr (.inr (.inl rfl))) (.inr (.inr (.inr rfl))) (.inr (.inl rfl)) (hDN.below (btr hBu hba)) (u8.belowAll hba) (u9.belowAll hba) (u7.belowAll hba) l J a1 a2 a3)
  (by omega) (fun _ => rfl)
  (fun pre W => Bx W N (dC d po co pc cc) 30 ∧ Bx W (N + 1) #[.int .i64 frm] 3 ∧ Bx W (N + 1 + 1) #[.int .i64 til] 3 ∧ Bx W (N + 1 + 1 + 1) lgZ 32 ∧ Bx W g (lgC d po co pc cc frm til (pkL d frm til pre).1 none 0 0) 32 ∧ Bx W (g + 1) #[.int .i64 (pkL d frm til pre).2] 3 ∧ Bx W (g + 1 + 1) #[.int .i64 pre.length] 3 ∧ Below w.heap.size w W)
  (fun pre W W' row h hg hr => ⟨h.1.grown hg (fun e => by have := hr _ e.symm; omega), h.2.1.grown hg (fun e => by have := hr _ e.symm; omega), h.2.2.1.grown hg (fun e => by have := hr _ e.symm; omega), h.2.2.2.1.grown hg (fun e => by have := hr _ e.symm; omega), h.2.2.2.2.1.grown hg (fun e => by have := hr _ e.symm; omega), h.2.2.2.2.2.1.grown hg (fun e => by have := hr _ e.symm; omega), h.2.2.2.2.2.2.1.grown hg (fun e => by have := hr _ e.symm; omega), h.2.2.2.2.2.2.2.grown hg h.2.2.2.2.2.2.2.size (fun k e => by have := hr _ e; omega)⟩)
  ⟨u0, u1, u2, u3, u4, u5, u6, hBu⟩
  (fun x => { tmps := #[.agg (dC d po co pc cc), .int .i64 frm, .int .i64 til, .pointer (some ⟨N, 0, none⟩), .pointer (some ⟨N + 1, 0, none⟩), .pointer (some ⟨N + 1 + 1, 0, none⟩), .pointer (some ⟨N + 1 + 1 + 1, 0, none⟩), .int .i64 0, .int .i64 0, .pointer (some ⟨g, 0, none⟩), .pointer (some ⟨g + 1, 0, none⟩), .pointer (some ⟨g + 1 + 1, 0, none⟩), .string (bs (pageL d (frm + x.1))), undef, undef, undef, undef, undef, undef, undef,
   .agg (dC d po co pc cc), .int .i64 frm, .int .i64 til, .int .i64 0, .int .i64 0, .bool false, undef, undef, .agg (dC d po co pc cc), .int .i64 frm, .int .i64 til, .agg (lgC d po co pc cc frm til 0 none 0 0), .agg (dC d po co pc cc), .int .i64 frm, .int .i64 frm, .int .i64 (frm + 2), .func (.func 53) #[] #[.pointer (some ⟨g + 4, 0, none⟩), .pointer (some ⟨g + 5, 0, none⟩), .pointer (some ⟨g + 3, 0, none⟩)], .string (bs (pageL d (frm + x.1))), undef, undef, undef, undef, undef, undef, undef, undef, undef, undef, undef, undef, undef, undef, undef, undef, undef, undef, undef, undef, undef, undef, undef, undef, undef, undef, undef, undef, undef, undef, undef, undef, undef, undef, undef, undef, undef, undef, undef, undef, undef, undef, undef, undef, undef, undef, undef, undef], defers := [] }) ?assign ?body ?done
 case assign =>
  intro l x W K hK
  gi_wp2
  exact hK
 case body =>
  rintro l pre x W ⟨q0, q1, q2, q3, q4, q5, q6, hB⟩ hWz hlt
  have hsn := pkL_snoc d frm til pre x
  have hplen : (pre ++ [x]).length = pre.length + 1 := by simp
  obtain ⟨k, hk⟩ : ∃ k, pre.length = k := ⟨_, rfl⟩
  obtain ⟨V, hV⟩ : ∃ V, (pkL d frm til pre).1 = V := ⟨_, rfl⟩
  obtain ⟨m, hm⟩ : ∃ m, (pkL d frm til pre).2 = m := ⟨_, rfl⟩
  obtain ⟨P, hP⟩ : ∃ P, bs (pageL d (frm + x.1)) = P := ⟨_, rfl⟩
  have hPl : P.data.toList = pageL d (frm + x.1) := by rw [← hP]
  have hb := Hbd.out
  have hz := Hfz.out
  have hPs : P.size = d.size.toNat := by rw [← len_size, hPl]; exact pageL_len hz.1 (by have := x.2; omega) (by have := x.2; omega)
  obtain ⟨rx, ry, rb, hr⟩ : ∃ rx ry rb, rdX P.data.toList k (areaN d frm til) = (rx, ry, rb) := ⟨_, _, _, rfl⟩
  have hread : ∀ W', Calls Tryd.prog 29 #[.string P, .int .i64 k, .int .i64 (areaN d frm til)] W' fun e w' => e = .returned (.tuple #[.int .i64 rx, .int .i64 ry, .bool rb]) ∧ Below W'.heap.size W' w' := fun W' => pl_readX P k _ W' (by omega) (by omega) (by omega) hr
  have harea := fun W' => pl_areaW d po co pc cc frm til W' Hf.out
  obtain ⟨A, hA⟩ : ∃ A, areaN d frm til = A := ⟨_, rfl⟩
  rw [hA] at hread hr
  simp only [hA] at harea
  rw [hk, hV] at hsn
  rw [hk] at hplen q6 hlt
  rw [hV] at q4
  rw [hm] at q5
  rw [hPl] at hr
  have Hread := Lib.hid hread
  have Harea := Lib.hid harea
  have Hsn := Lib.hid hsn
  have Hr := Lib.hid hr
  have HA := Lib.hid hA
  have Hlen := Lib.hid hplen
  have Hm := Lib.hid hm
  have HV := Lib.hid hV
  have Hk2 := Lib.hid hlt
  simp only [hP]
  clear hread harea hsn hr hA hplen hm hV hPl hPs hb hz hk hlt u0 u1 u2 u3 u4 u5 u6 u7 u8 u9 hBu hP
  have c0 := q0.cell
  have c1 := q1.cell 0
  have c2 := q2.cell 0
  have c6 := q6.cell 0
  simp at c1 c2 c6
  have l0 := q0.lt
  have l1 := q1.lt
  have l2 := q2.lt
  have l6 := q6.lt
  have cQ := Lat.cells W
  gi_wp2
  refine wpIn_region_lz (lets_round _ l) 14 0 #[true, true, true, true, true, true, true, true, true, true, true, true, true, true] (fun i => if i = 5 then some (annK (.int .i64 A)) else if i = 6 then some (annK (.tuple #[.int .i64 rx, .int .i64 ry, .bool rb])) else none) (by kernel_rfl) (by rfl) (by rfl) (by kernel_rfl) ?_
  simp only [List.take_succ_cons, List.take_zero]
  refine LW.block 5 5 (by rfl) (by kernel_rfl) (by kernel_rfl) ?_
  simp only [List.take_succ_cons, List.take_zero, List.drop_succ_cons, List.drop_zero]
  repeat (first | go_big_quiet_skip | (go_big_quiet_want; go_big_quiet_op; go_big_quiet_on))
  refine wpQuiet_nil ?_
  refine LW.lzy _ (by rfl) (by rfl) ?_ ?_
  ·
   intro yL _
   unfold lzAt
   go_simp
   exact lz_constB (Harea.out _)
  intro _
  simp only [Act.put, List.setIfInBounds_toArray, List.set_cons_zero, List.set_cons_succ]
  (try simp only [annK])
  refine LW.lzy _ (by rfl) (by rfl) ?_ ?_
  ·
   intro yL _
   unfold lzAt
   go_simp
   exact lz_constB (Hread.out _)
  intro _
  simp only [Act.put, List.setIfInBounds_toArray, List.set_cons_zero, List.set_cons_succ]
  (try simp only [annK])
  refine LW.block 7 14 (by rfl) (by kernel_rfl) (by kernel_rfl) ?_
  simp only [List.take_succ_cons, List.take_zero, List.drop_succ_cons, List.drop_zero]
  repeat (first | go_big_quiet_skip | (go_big_quiet_want; go_big_quiet_op; go_big_quiet_on))
  refine wpQuiet_nil ?_
  refine LW.done ?_
  intro W' hG
  have hG := hG.below
  refine ⟨by kernel_rfl, ?_⟩
  have HBl : Hid (W'.heap[g + 6]? = W.heap[g + 6]? ∧ W'.heap[g + 6 + 1]? = W.heap[g + 6 + 1]?) := Lib.hid ⟨hG.block _ (by omega), hG.block _ (by omega)⟩
  have HBm : Hid (W'.heap[W2.heap.size]? = W.heap[W2.heap.size]? ∧ W'.heap[W2.heap.size + 1]? = W.heap[W2.heap.size + 1]?) := Lib.hid ⟨hG.block _ (by omega), hG.block _ (by omega)⟩
  have hBw : Hid (Below w.heap.size w W') := Lib.hid (btr hB hG)
  have HKT : Hid (KeepT (fun b => b < N ∨ b = g + 3 ∨ b = g + 4 ∨ b = g + 5) W W') := Lib.hid (KeepT.below hG)
  have y0 := q0.belowAll hG
  have y1 := q1.belowAll hG
  have y2 := q2.belowAll hG
  have y3 := q3.belowAll hG
  have y4 := q4.belowAll hG
  have y5 := q5.belowAll hG
  have y6 := q6.belowAll hG
  have hB' : Hid (Below N w W') := Lib.hid (by rw [← hN]; exact btr hB hG)
  clear c0 c1 c2 c6 l0 l1 l2 l6 cQ q0 q1 q2 q3 q4 q5 q6 hG
  have c4 := y4.cell
  have f4 := y4.free
  have l4 := y4.lt
  have c5 := y5.cell 0
  have f5 := y5.free
  have l5 := y5.lt
  have c6 := y6.cell 0
  have f6 := y6.free
  have l6 := y6.lt
  simp at c5 c6
  have hk1 : IntKind.i64.wrap ((k : Int) + 1) = (k : Int) + 1 := IntWalk.i64_in _ (by have := Hk2.out; omega)
  have hgN := HNg.out
  have hr := Hr.out
  unfold rdX at hr
  cases hh : hdrP (pageL d (frm + x.1)) k A with
  | none =>
   rw [hh] at hr
   have hrb : rb = false := by injection hr with _ hr; injection hr with _ hr; exact hr.symm
   have Hsame : Hid (pkL d frm til (pre ++ [x]) = pkL d frm til pre) := Lib.hid (by rw [Hsn.out, HA.out, hh]; simp)
   clear hr hh
   rw [hrb]
   clear hrb
   gi_wp2
   refine ⟨(Below.heap_setCell _ _ _ _ (by first | (simp; done) | (simp; omega))).trans (by first | exact HBl.out.1 | exact HBm.out.1), (Below.heap_setCell _ _ _ _ (by first | (simp; done) | (simp; omega))).trans (by first | exact HBl.out.2 | exact HBm.out.2), HKT.out.trans (KeepT.set _ _ (by first | (simp; done) | (simp; omega))), y0.setO (by first | (simp; done) | (simp; omega)) _, y1.setO (by first | (simp; done) | (simp; omega)) _, y2.setO (by first | (simp; done) | (simp; omega)) _, y3.setO (by first | (simp; done) | (simp; omega)) _, ?_, ?_, ?_, below_set1 (b := g + 1 + 1) (by first | exact hB'.out | exact hBw.out) (by omega)⟩
   ·
    rw [Hsame.out, HV.out]; exact y4.setO (by first | (simp; done) | (simp; omega)) _
   ·
    rw [Hsame.out, Hm.out]; exact y5.setO (by first | (simp; done) | (simp; omega)) _
   ·
    rw [Hlen.out]; simpa using y6.set 0 (.int .i64 ((k : Int) + 1))
  | some p =>
   rw [hh] at hr
   obtain ⟨p1, p2⟩ := p
   have hrb : rb = true := by injection hr with _ hr; injection hr with _ hr; exact hr.symm
   have hrx : rx = p1 := by injection hr with hr _; exact hr.symm
   have hry : ry = p2 := by injection hr with _ hr; injection hr with hr _; exact hr.symm
   rw [hrb, hrx, hry]
   clear hr hrb hrx hry
   by_cases hgt : V < p1
   ·
    have hgt' : (V : Int) < p1 := by omega
    have Hsame : Hid (pkL d frm til (pre ++ [x]) = (p1, p2)) := Lib.hid (by rw [Hsn.out, HA.out, hh]; simp [hgt])
    clear hh hgt
    gi_wp2
    refine ⟨(Below.heap_setCell _ _ _ _ (by first | (simp; done) | (simp; omega))).trans ((Below.heap_setCell _ _ _ _ (by first | (simp; done) | (simp; omega))).trans ((Below.heap_setCell _ _ _ _ (by first | (simp; done) | (simp; omega))).trans (by first | exact HBl.out.1 | exact HBm.out.1))), (Below.heap_setCell _ _ _ _ (by first | (simp; done) | (simp; omega))).trans ((Below.heap_setCell _ _ _ _ (by first | (simp; done) | (simp; omega))).trans ((Below.heap_setCell _ _ _ _ (by first | (simp; done) | (simp; omega))).trans (by first | exact HBl.out.2 | exact HBm.out.2))), HKT.out.trans (((KeepT.set _ _ (by first | (simp; done) | (simp; omega))).trans (KeepT.set _ _ (by first | (simp; done) | (simp; omega)))).trans (KeepT.set _ _ (by first | (simp; done) | (simp; omega)))),
     ((y0.setO (by first | (simp; done) | (simp; omega)) _).setO (by first | (simp; done) | (simp; omega)) _).setO (by first | (simp; done) | (simp; omega)) _, ((y1.setO (by first | (simp; done) | (simp; omega)) _).setO (by first | (simp; done) | (simp; omega)) _).setO (by first | (simp; done) | (simp; omega)) _, ((y2.setO (by first | (simp; done) | (simp; omega)) _).setO (by first | (simp; done) | (simp; omega)) _).setO (by first | (simp; done) | (simp; omega)) _, ((y3.setO (by first | (simp; done) | (simp; omega)) _).setO (by first | (simp; done) | (simp; omega)) _).setO (by first | (simp; done) | (simp; omega)) _, ?_, ?_, ?_, below_set1 (b := g + 1 + 1) (below_set1 (b := g + 1) (below_set1 (b := g) (by first | exact hB'.out | exact hBw.out) (by omega)) (by omega)) (by omega)⟩
    ·
     rw [Hsame.out]; have := ((y4.set 6 (.int .i64 p1)).setO (a := ⟨g + 1, 0, none⟩) (by first | (simp; done) | (simp; omega)) (.int .i64 p2)).setO (a := ⟨g + 1 + 1, 0, none⟩) (by first | (simp; done) | (simp; omega)) (.int .i64 ((k : Int) + 1)); simpa using this
    ·
     rw [Hsame.out]; have := ((y5.setO (a := ⟨g, 6, none⟩) (by first | (simp; done) | (simp; omega)) (.int .i64 p1)).set 0 (.int .i64 p2)).setO (a := ⟨g + 1 + 1, 0, none⟩) (by first | (simp; done) | (simp; omega)) (.int .i64 ((k : Int) + 1)); simpa using this
    ·
     rw [Hlen.out]; have := ((y6.setO (a := ⟨g, 6, none⟩) (by first | (simp; done) | (simp; omega)) (.int .i64 p1)).setO (a := ⟨g + 1, 0, none⟩) (by first | (simp; done) | (simp; omega)) (.int .i64 p2)).set 0 (.int .i64 ((k : Int) + 1)); simpa using this
   ·
    have hgt' : ¬ (V : Int) < p1 := by omega
    have Hsame : Hid (pkL d frm til (pre ++ [x]) = pkL d frm til pre) := Lib.hid (by rw [Hsn.out, HA.out, hh]; simp [hgt])
    clear hh hgt
    gi_wp2
    refine ⟨(Below.heap_setCell _ _ _ _ (by first | (simp; done) | (simp; omega))).trans (by first | exact HBl.out.1 | exact HBm.out.1), (Below.heap_setCell _ _ _ _ (by first | (simp; done) | (simp; omega))).trans (by first | exact HBl.out.2 | exact HBm.out.2), HKT.out.trans (KeepT.set _ _ (by first | (simp; done) | (simp; omega))), y0.setO (by first | (simp; done) | (simp; omega)) _, y1.setO (by first | (simp; done) | (simp; omega)) _, y2.setO (by first | (simp; done) | (simp; omega)) _, y3.setO (by first | (simp; done) | (simp; omega)) _, ?_, ?_, ?_, below_set1 (b := g + 1 + 1) (by first | exact hB'.out | exact hBw.out) (by omega)⟩
    ·
     rw [Hsame.out, HV.out]; exact y4.setO (by first | (simp; done) | (simp; omega)) _
    ·
     rw [Hsame.out, Hm.out]; exact y5.setO (by first | (simp; done) | (simp; omega)) _
    ·
     rw [Hlen.out]; simpa using y6.set 0 (.int .i64 ((k : Int) + 1))
 case done =>
  rintro xs W rfl ⟨q0, q1, q2, q3, q4, q5, q6, hB⟩ hK
  rw [pkL_two] at q4 q5
  have hGb := Lib.hid (headL_bd d frm til)
  obtain ⟨V, hV⟩ : ∃ V, (headL d frm til).1 = V := ⟨_, rfl⟩
  obtain ⟨m, hm⟩ : ∃ m, (headL d frm til).2 = m := ⟨_, rfl⟩
  rw [hV] at q4
  rw [hm] at q5
  have HV := Lib.hid hV
  have Hm := Lib.hid hm
  rw [hzu] at hK
  clear hV hm u0 u1 u2 u3 u4 u5 u6 u7 u8 u9 hBu
  have c0 := q0.cell
  have c1 := q1.cell 0
  have c2 := q2.cell 0
  have c4 := q4.cell
  simp at c1 c2
  have l0 := q0.lt
  have l1 := q1.lt
  have l2 := q2.lt
  have l4 := q4.lt
  have hgN := HNg.out
  by_cases hV0 : V = 0
  ·
   have Ho := Lib.hid (openL_nohead Hf.out (by rw [HV.out]; exact hV0))
   rw [hV0] at c4
   simp only [Int.natCast_zero] at c4
   clear hV0
   have cX := q3.cell
   have lX := q3.lt
   have fX := q3.free
   obtain ⟨Wf, hWf⟩ : ∃ Wf, st8 W (N + 1 + 1 + 1) (.int .i64 0) (.slice none 0 0) (.slice none 0 0) (.int .i64 0) (.int .i64 0) (.int .i64 0) (.int .i64 0) (.slice none 0 0) = Wf := ⟨_, rfl⟩
   have zR : Bx Wf (N + 1 + 1 + 1) lgZ 32 := by subst hWf; exact q3.set8
   have zB : Below w.heap.size w Wf := by subst hWf; exact below_set8 hB (by omega)
   have zK : Wf.heap[g + 6]? = some (.deferred (some [])) := by subst hWf; exact (heap_st8 (by omega) _ _ _ _ _ _ _ _).trans hK
   have HWf := Lib.hid hWf
   clear hWf
   gi_wp2
   have HW := HWf.out
   unfold st8 at HW
   rw [HW]
   have zR' := bx_own zR (grownBy_putObj' _ (g + 6) (.deferred none)) (fun r e => by cases e; exact ⟨_, zK, rfl⟩)
   have cZ := zR'.cell
   refine ⟨by simp, .inl ⟨_, _, rfl, (by first | exact run_takeDeferred zK | (rw [hzu]; exact run_takeDeferred zK)), ?_⟩⟩
   refine ⟨.tuple #[.agg lgZ, .int .i64 25], ?_, ?_⟩
   ·
    simp [results, Tryd.f13, go_sem, cZ]
   ·
    rw [Ho.out]
    exact ⟨_, rfl, LgV.zero _, zB.trans (belowK_b (w := w) (Nat.le_refl _) Wf (g + 6) _ _ (by omega) zK rfl rfl)⟩
  ·
   have hV1 : ((V : Int) == 0) = false := by rw [beq_eq_false_iff_ne]; omega
   have HV0 := Lib.hid hV0
   clear hV0
   obtain ⟨h, hh⟩ : ∃ h, W.heap.size = h := ⟨_, rfl⟩
   have hgh : g + 6 < h := by rw [← hh]; exact (Array.getElem?_eq_some_iff.1 hK).1
   have e0 := (q0.alloc (.cells #[.pointer none, .slice none 0 0] 75)).cell
   have e1 := (q1.alloc (.cells #[.pointer none, .slice none 0 0] 75)).cell 0
   have e2 := (q2.alloc (.cells #[.pointer none, .slice none 0 0] 75)).cell 0
   simp at e1 e2
   have i0 : IsBd h h [] (W.alloc (.cells #[.pointer none, .slice none 0 0] 75)) := by rw [← hh]; exact Lib.fresh_isBuilder _ _ W
   have I0 := Lib.hid i0
   clear i0
   gi_wp2_with (refine ⟨trivial, ?_⟩; gi_at_call 28; refine (pc_in _ _ _ _ _ _ _ _).mono ?_; rintro e w' ⟨rfl, rfl⟩)
   obtain ⟨W5, hW5⟩ : ∃ W5, (((W.alloc (.cells #[.pointer none, .slice none 0 0] 75)).alloc (.cells (dC d po co pc cc) 30)).alloc (.cells #[.int .i64 (frm + 2)] 3)).alloc (.cells #[.int .i64 til] 3) = W5 := ⟨_, rfl⟩
   rw [hW5]
   have r3 : Bx W5 (N + 1 + 1 + 1) lgZ 32 := by subst hW5; exact (((q3.alloc _).alloc _).alloc _).alloc _
   have r4 : Bx W5 g (lgC d po co pc cc frm til V none 0 0) 32 := by subst hW5; exact (((q4.alloc _).alloc _).alloc _).alloc _
   have r5 : Bx W5 (g + 1) #[.int .i64 m] 3 := by subst hW5; exact (((q5.alloc _).alloc _).alloc _).alloc _
   have r6 : Bx W5 h #[.pointer none, .slice none 0 0] 75 := by subst hW5 hh; exact (((Bx.new _ _ _).alloc _).alloc _).alloc _
   have r7 : Bx W5 (h + 1) (dC d po co pc cc) 30 := by subst hW5; exact ((Bx.newAt _ _ _ _ (by simp [hh])).alloc _).alloc _
   have r8 : Bx W5 (h + 2) #[.int .i64 (frm + 2)] 3 := by subst hW5; exact (Bx.newAt _ _ _ _ (by simp [hh])).alloc _
   have r9 : Bx W5 (h + 3) #[.int .i64 til] 3 := by subst hW5; exact Bx.newAt _ _ _ _ (by simp [hh])
   have hbh : Below h (W.alloc (.cells #[.pointer none, .slice none 0 0] 75)) W5 := by subst hW5; exact (((Below.refl _ _).alloc (by simp; omega) _).alloc (by simp; omega) _).alloc (by simp; omega) _
   have hbw5 : Below (W.alloc (.cells #[.pointer none, .slice none 0 0] 75)).heap.size (W.alloc (.cells #[.pointer none, .slice none 0 0] 75)) W5 := by subst hW5; exact (((Below.refl _ _).alloc (Nat.le_refl _) _).alloc (by first | (simp; done) | (simp; omega)) _).alloc (by first | (simp; done) | (simp; omega)) _
   have rI : IsBd h h (bytesV []) W5 := isBd_below I0.out hbw5
   have hB5 : Below w.heap.size w W5 := by subst hW5; exact ((((hB.alloc (by omega) _).alloc (by simp; omega) _).alloc (by simp; omega) _).alloc (by simp; omega) _)
   have hK5 : W5.heap[g + 6]? = some (.deferred (some [])) := by
    subst hW5
    rw [Below.heap_alloc _ _ _ (by simp; omega), Below.heap_alloc _ _ _ (by simp; omega), Below.heap_alloc _ _ _ (by simp; omega), Below.heap_alloc _ _ _ (by omega)]
    exact hK
   have hz5 : W5.heap.size = h + 4 := by subst hW5; simp [hh]
   obtain ⟨M, hM⟩ : ∃ M : Nat, (til - frm - 2).toNat = M := ⟨_, rfl⟩
   have hM1 : til = frm + 2 + M := by have := Hbd.out; omega
   have HM := Lib.hid hM
   have HM1 := Lib.hid hM1
   have hMb : M ≤ 2000 := by have := Hbd.out; omega
   clear hM hM1 q0 q1 q2 q3 q4 q5 q6 hB hK c0 c1 c2 c4 l0 l1 l2 l4 e0 e1 e2 I0 hW5 hbh hbw5
   have hN5 := hB5.size
   refine rangeFunc_run3 hro h1 (gf := 53) (lb := #[.pointer (some ⟨h + 2, 0, none⟩), .pointer (some ⟨h + 3, 0, none⟩), .pointer (some ⟨h + 1, 0, none⟩)]) rfl trivial (enters_of Tryd.func53 (by kernel_rfl) rfl)
    (encs := fun x : Fin M => #[Value.string (bs (pageL d (frm + 2 + x.1)))]) (T := fun b => b < N ∨ b = h + 1 ∨ b = h + 2 ∨ b = h + 3) (S := fun ys => ys = List.finRange M) (N := M)
    (fun Wa hza hba => fun l J a1 a2 a3 _ => pc_runs (n - 1) (by omega) (h + 2) (h + 3) (h + 1) d po co pc cc (frm + 2) til M HM1.out (by have := Hfz.out; omega) (by have := Hfz.out; have := rangedB_true (chk_zero this.1).1; omega) (S := (· < N)) _ Wa (fun b => .inl) (fun b hb => by have : b < N := hb; omega) (.inr (.inr (.inl rfl))) (.inr (.inr (.inr rfl))) (.inr (.inl rfl)) (hDN.below (btr hB5 hba)) (r8.belowAll hba) (r9.belowAll hba) (r7.belowAll hba) l J a1 a2 a3)
    (by omega) (fun _ => rfl)
    (fun pre W => Bx W (N + 1 + 1 + 1) lgZ 32 ∧ Bx W g (lgC d po co pc cc frm til V none 0 0) 32 ∧ Bx W (g + 1) #[.int .i64 m] 3 ∧ Bx W (h + 1) (dC d po co pc cc) 30 ∧ Bx W (h + 2) #[.int .i64 (frm + 2)] 3 ∧ Bx W (h + 3) #[.int .i64 til] 3 ∧ W.heap[g + 6]? = some (.deferred (some [])) ∧
     IsBd h h (bytesV (flL d (frm + 2) pre)) W ∧ (∀ p v, W.heap[h]? = some (.cells #[p, v] 75 (0, 0)) → v.ownBlock ≠ some (h + 5)) ∧ (flL d (frm + 2) pre).length = pre.length * d.size.toNat ∧ Below w.heap.size w W)
    (fun pre Wa Wb row hi hg hr => ⟨hi.1.grown hg (fun e => by have := hr _ e.symm; omega), hi.2.1.grown hg (fun e => by have := hr _ e.symm; omega), hi.2.2.1.grown hg (fun e => by have := hr _ e.symm; omega), hi.2.2.2.1.grown hg (fun e => by have := hr _ e.symm; omega), hi.2.2.2.2.1.grown hg (fun e => by have := hr _ e.symm; omega), hi.2.2.2.2.2.1.grown hg (fun e => by have := hr _ e.symm; omega),
     (hg.block _ (Array.getElem?_eq_some_iff.1 hi.2.2.2.2.2.2.1).1 (fun e => by have := hr _ e.symm; omega)).trans hi.2.2.2.2.2.2.1,
     isBd_grown hi.2.2.2.2.2.2.2.1 hg (fun e => by have := hr _ e.symm; omega) (fun p v hv k hk e => hi.2.2.2.2.2.2.2.2.1 p v hv (by rw [hk]; have := hr k e.symm; rw [this, hz5])),
     (fun p v hv => hi.2.2.2.2.2.2.2.2.1 p v (by
      have hlt : h < Wa.heap.size := by rcases hi.2.2.2.2.2.2.2.1 with hh | hh <;> exact hh.lt
      rw [← hg.block h hlt (fun e => by have := hr _ e.symm; omega)]; exact hv)), hi.2.2.2.2.2.2.2.2.2.1, hi.2.2.2.2.2.2.2.2.2.2.grown hg hi.2.2.2.2.2.2.2.2.2.2.size (fun k e => by have := hr _ e; omega)⟩)
    ⟨r3, r4, r5, r7, r8, r9, hK5, rI, (fun p v hv => by unfold Bx at r6; rw [r6] at hv; have e : Value.pointer none = p ∧ Value.slice none 0 0 = v := (by simpa using hv); rw [← e.2]; simp [Value.ownBlock]), by simp [flL], hB5⟩
    (fun x => { tmps := #[.agg (dC d po co pc cc), .int .i64 frm, .int .i64 til, .pointer (some ⟨N, 0, none⟩), .pointer (some ⟨N + 1, 0, none⟩), .pointer (some ⟨N + 1 + 1, 0, none⟩), .pointer (some ⟨N + 1 + 1 + 1, 0, none⟩), .int .i64 0, .int .i64 0, .pointer (some ⟨g, 0, none⟩), .pointer (some ⟨g + 1, 0, none⟩), .pointer (some ⟨g + 1 + 1, 0, none⟩), undef, undef, undef, undef, .pointer (some ⟨h, 0, none⟩), .string (bs (pageL d (frm + 2 + x.1))), undef, undef,
     .agg (dC d po co pc cc), .int .i64 frm, .int .i64 til, .int .i64 0, .int .i64 0, .bool false, undef, undef, .agg (dC d po co pc cc), .int .i64 frm, .int .i64 til, .agg (lgC d po co pc cc frm til 0 none 0 0), .agg (dC d po co pc cc), .int .i64 frm, .int .i64 frm, .int .i64 (frm + 2), .func (.func 53) #[] #[.pointer (some ⟨g + 4, 0, none⟩), .pointer (some ⟨g + 5, 0, none⟩), .pointer (some ⟨g + 3, 0, none⟩)],
     undef, undef, undef, undef, undef, undef, undef, undef, undef, undef, undef, undef, undef, undef, undef, undef, undef, undef, undef, undef, undef, undef, undef, undef, .pointer (some ⟨g, 3 + 3, none⟩), .int .i64 V, .bool false, undef, .agg (dC d po co pc cc), .int .i64 frm, .int .i64 (frm + 2), .int .i64 til, .func (.func 53) #[] #[.pointer (some ⟨h + 2, 0, none⟩), .pointer (some ⟨h + 3, 0, none⟩), .pointer (some ⟨h + 1, 0, none⟩)], .string (bs (pageL d (frm + 2 + x.1))), undef, undef, undef, undef, undef, undef, undef, undef, undef, undef, undef, undef, undef, undef, undef], defers := [] }) ?assign2 ?body2 ?done2
   case assign2 =>
    intro l x W K hK
    gi_wp2
    exact hK
   case body2 =>
    rintro l pre x Wb ⟨s3, s4, s5, s7, s8, s9, sK, sI, sO, sL, sB⟩ hWz hD4 hL5 hlt
    obtain ⟨lp, hL5⟩ := hL5
    rw [hz5] at hD4 hL5
    have hpl : (pageL d (frm + 2 + x.1)).length = d.size.toNat := by have h0 := Hfz.out; have := x.2; have := HM1.out; exact pageL_len h0.1 (by omega) (by omega)
    have hdz : d.size.toNat ≤ 512 := by have := Hbd.out; omega
    have hmul : pre.length * d.size.toNat ≤ 2000 * 512 := Nat.mul_le_mul (by omega) hdz
    have hws := (lets_round Tryd.prog l).calls (n := n - 1 - 1 - 1) (bd_WriteStringK sI (pageL d (frm + 2 + x.1)) (by omega) (by have := hB5.size; omega))
    have Hws := Lib.hid hws
    have hh1 : 1 ≤ n - 1 - 1 := by omega
    have S3 := Lib.hid s3
    have S4 := Lib.hid s4
    have S5 := Lib.hid s5
    have S7 := Lib.hid s7
    have S8 := Lib.hid s8
    have S9 := Lib.hid s9
    have SK := Lib.hid sK
    have SI := Lib.hid sI
    have SL := Lib.hid sL
    have SB := Lib.hid sB
    have SD := Lib.hid hD4
    have SLp := Lib.hid hL5
    have Hpl := Lib.hid hpl
    have HWz := Lib.hid hWz
    clear s3 s4 s5 s7 s8 s9 sK sI sO sL sB hD4 hL5 hws hpl hmul r3 r4 r5 r6 r7 r8 r9 rI hK5 hWz
    gi_wp2_with (refine ⟨trivial, ?_⟩; gi_at_call 31; refine Hws.out.mono ?_)
    rintro e w6 ⟨rfl, hI6, hk6, hb6⟩
    have HI6 := Lib.hid hI6
    have Hk6 := Lib.hid hk6
    have Hb6 := Lib.hid hb6
    have hD6 := Lib.hid (hk6 (h + 4) _ SD.out (by omega) (by intro cs fr e; cases e))
    have hL6 := Lib.hid (hk6 (h + 5) _ SLp.out (by omega) (by intro cs fr e; cases e))
    clear hI6 hk6 hb6
    have hDD : Hid (w6.heap[h + 4]? = Wb.heap[h + 4]?) := Lib.hid (hD6.out.trans SD.out.symm)
    have hLL : Hid (w6.heap[h + 4 + 1]? = Wb.heap[h + 4 + 1]?) := Lib.hid (hL6.out.trans SLp.out.symm)
    have hDD2 : Hid (w6.heap[W5.heap.size]? = Wb.heap[W5.heap.size]?) := Lib.hid (by rw [hz5]; exact hDD.out)
    have hLL2 : Hid (w6.heap[W5.heap.size + 1]? = Wb.heap[W5.heap.size + 1]?) := Lib.hid (by rw [hz5]; exact hLL.out)
    have hBx : Hid (Below w.heap.size w w6) := Lib.hid (SB.out.trans (Hb6.out.mono (by omega)))
    have hBy : Hid (Below N w w6) := Lib.hid (by rw [← hN]; exact hBx.out)
    gi_wp2
    refine ⟨(by first | exact hDD.out | exact hDD2.out), (by first | exact hLL.out | exact hLL2.out), ?_, S3.out.below Hb6.out (by omega), S4.out.below Hb6.out (by omega), S5.out.below Hb6.out (by omega), Hk6.out.bx S7.out (by omega) (by decide), Hk6.out.bx S8.out (by omega) (by decide), Hk6.out.bx S9.out (by omega) (by decide), (Hb6.out.block _ (by omega)).trans SK.out, ?_, isBd_own_ne HI6.out hL6.out, ?_, (by first | exact hBx.out | exact hBy.out)⟩
    ·
     intro k o hk ho
     rcases hk with hk | rfl | rfl | rfl
     ·
      exact (Hb6.out.block k (by omega)).trans ho
     ·
      have := S7.out; unfold Bx at this; rw [this] at ho; cases ho; exact Hk6.out.bx S7.out (by omega) (by decide)
     ·
      have := S8.out; unfold Bx at this; rw [this] at ho; cases ho; exact Hk6.out.bx S8.out (by omega) (by decide)
     ·
      have := S9.out; unfold Bx at this; rw [this] at ho; cases ho; exact Hk6.out.bx S9.out (by omega) (by decide)
    ·
     rw [flL_snoc]; exact HI6.out
    ·
     rw [flL_snoc, List.length_append, SL.out, Hpl.out, List.length_append, List.length_singleton, Nat.succ_mul]
   case done2 =>
    rintro xs Wb rfl ⟨s3, s4, s5, s7, s8, s9, sK, sI, sO, sL, sB⟩ hK5
    rw [hz5] at hK5
    have hfl : flL d (frm + 2) (List.finRange M) = areaL d frm til := by rw [flL_all]; unfold areaL; rw [HM.out]
    rw [hfl] at sI
    obtain ⟨T, hT⟩ : ∃ T, bs (areaL d frm til) = T := ⟨_, rfl⟩
    have hTs : (T.size : Int) = areaN d frm til := by rw [← hT, bs_size, areaL_len Hf.out]
    have hmb : (m : Int) ≤ areaN d frm til := by have := hGb.out.2.2; rw [HV.out, Hm.out] at this; exact this HV0.out
    have hg1 : (0 : Int) ≤ m := by omega
    have hg2 : (m : Int) ≤ T.size := by omega
    obtain ⟨U, hU⟩ : ∃ U, T.extract 0 m = U := ⟨_, rfl⟩
    have hUl : U.data.toList = (areaL d frm til).take m := by rw [← hU, cut_list, ← hT]; simp
    have hUs : U.size ≤ 2000000 := by
     rw [← len_size, hUl, List.length_take]
     have ha := areaL_len Hf.out
     have := Hbd.out
     omega
    obtain ⟨r, hr⟩ : ∃ r, recsOf ((areaL d frm til).take m) = r := ⟨_, rfl⟩
    have hrec : ∀ W', Calls Tryd.prog 32 #[.string U] W' (RecsE W' r) := fun W' => by have := pl_records U W' hUs; rw [hUl, hr] at this; exact this
    have hne : areaL d frm til ≠ [] := by
     intro e
     have ha := areaL_len Hf.out
     rw [e] at ha
     have hb := Hbd.out
     have hz := Hfz.out
     have : 1 * 24 ≤ (til - frm - 2) * d.size := Int.mul_le_mul (by omega) hb.2.2.1 (by omega) (by omega)
     unfold areaN at ha
     simp at ha
     omega
    have hWh : h + 4 < Wb.heap.size := (Array.getElem?_eq_some_iff.1 hK5).1
    have T3 := Lib.hid s3.drew
    have T4 := Lib.hid s4.drew
    have t5 : Bx Wb.drew (g + 1) #[.int .i64 m] 3 := s5.drew
    have TK : Hid (Wb.drew.heap[g + 6]? = some (.deferred (some []))) := Lib.hid sK
    have TK5 : Hid (Wb.drew.heap[h + 4]? = some (.deferred (some []))) := Lib.hid hK5
    have hI' := isBd_below sI (Below.drew (Below.refl Wb.heap.size Wb))
    have TI := Lib.hid hI'
    have TB := Lib.hid sB.drew
    have THz : Hid (h + 4 < Wb.drew.heap.size) := Lib.hid hWh
    have Hrec := Lib.hid hrec
    have Hr := Lib.hid hr
    have HT := Lib.hid hT
    have Hne := Lib.hid hne
    have hU' := hU
    clear hT hTs hmb hUl hUs hrec hr hne hfl s7 s8 s9 sO sL sI s3 s4 s5 sK sB hI' r3 r4 r5 r6 r7 r8 r9 rI hWh hU hK5
    gi_wp2
    refine wpIn_wide.2 ?_
    refine wp_region_startP #[false, false, false, false, false, false, false, false, false] 9 (by kernel_rfl) (by rfl) rfl ?_
    have hstr : Calls Tryd.prog 33 #[.pointer (some ⟨h, 0, none⟩)] Wb.drew _ := bd_StringK TI.out Hne.out
    rw [HT.out] at hstr
    have Hstr := Lib.hid hstr
    clear hstr
    generalize Wb.drew = Wd at *
    refine wpAny_ready (rs := [0, 1]) (by kernel_rfl) (by simp) ?_
    refine AllReady.cons rfl (fun K hK => ?_) (AllReady.cons rfl (fun K hK => ?_) AllReady.nil)
    ·
     go_simp
     refine Hstr.out.mono ?_
     rintro e w6 ⟨rfl, hk6, hb6⟩
     refine hK _ _ ?_
     clear hK K
     have V3 := Lib.hid (T3.out.below hb6 (by omega))
     have V4 := Lib.hid (T4.out.below hb6 (by omega))
     have v5 := t5.below hb6 (by omega)
     have VK := Lib.hid (hk6 _ _ TK.out (by omega) (by intro cs fr e; cases e))
     have VK5 := Lib.hid (hk6 _ _ TK5.out (by omega) (by intro cs fr e; cases e))
     have hNh := TB.out.size
     have VB := Lib.hid (TB.out.trans (hb6.mono (by omega)))
     have VHz : Hid (h + 4 < w6.heap.size) := Lib.hid (Nat.lt_of_lt_of_le THz.out hb6.size)
     clear hk6 hb6
     simp only [List.setIfInBounds_toArray, List.set_cons_zero]
     refine wpAny_ready (rs := [1]) (by kernel_rfl) (by simp) ?_
     refine AllReady.cons rfl (fun K hK => ?_) AllReady.nil
     have c5 := v5.cell 0
     simp at c5
     go_simp
     refine hK _ _ ?_
     clear hK K
     simp only [List.setIfInBounds_toArray, List.set_cons_zero, List.set_cons_succ]
     refine wpAny_ready (rs := [2]) (by kernel_rfl) (by simp) ?_
     refine AllReady.cons rfl (fun K hK => ?_) AllReady.nil
     go_simp
     refine hK _ _ ?_
     clear hK K
     simp only [List.setIfInBounds_toArray, List.set_cons_zero, List.set_cons_succ]
     refine wpAny_ready (rs := [3]) (by kernel_rfl) (by simp) ?_
     refine AllReady.cons rfl (fun K hK => ?_) AllReady.nil
     go_simp
     refine (Hrec.out w6).mono ?_
     rintro e w7 ⟨o, c, rfl, hsl, hst, hb7⟩
     refine hK _ _ ?_
     clear hK K
     simp only [List.setIfInBounds_toArray, List.set_cons_zero, List.set_cons_succ]
     have x3 := V3.out.belowAll hb7
     have x4 := V4.out.belowAll hb7
     have xK : w7.heap[g + 6]? = some (.deferred (some [])) := (hb7.block _ (by have := VHz.out; omega)).trans VK.out
     have xK5 : w7.heap[h + 4]? = some (.deferred (some [])) := (hb7.block _ VHz.out).trans VK5.out
     have xB := btr VB.out hb7
     have hz67 := hb7.size
     have hz6 := VHz.out
     have Hsl := Lib.hid hsl
     have Hst := Lib.hid hst
     clear hsl hst hb7
     cases r with
     | none =>
      have Ho := Lib.hid (openL_norecs Hf.out (by rw [HV.out]; exact HV0.out) (by rw [Hm.out]; exact Hr.out))
      refine wpAny_ready (rs := [4]) (by kernel_rfl) (by simp) ?_
      refine AllReady.cons rfl (fun K hK => ?_) AllReady.nil
      go_simp
      refine hK _ _ ?_
      clear hK K
      simp only [List.setIfInBounds_toArray, List.set_cons_zero, List.set_cons_succ]
      refine wpAny_ready (rs := [5, 6]) (by kernel_rfl) (by simp) ?_
      refine AllReady.cons rfl (fun K hK => ?_) (AllReady.cons rfl (fun K hK => ?_) AllReady.nil)
      ·
       go_simp
       refine hK _ _ ?_
       clear hK K
       simp only [List.setIfInBounds_toArray, List.set_cons_zero, List.set_cons_succ]
       refine wpAny_ready (rs := [6, 7]) (by kernel_rfl) (by simp) ?_
       refine AllReady.cons rfl (fun K hK => ?_) (AllReady.cons rfl (fun K hK => ?_) AllReady.nil)
       ·
        go_simp
        refine hK _ _ ?_
        clear hK K
        simp only [List.setIfInBounds_toArray, List.set_cons_zero, List.set_cons_succ]
        refine wpAny_ready (rs := [7]) (by kernel_rfl) (by simp) ?_
        refine AllReady.cons rfl (fun K hK => ?_) AllReady.nil
        go_simp
        refine hK _ _ ?_
        clear hK K
        simp only [List.setIfInBounds_toArray, List.set_cons_zero, List.set_cons_succ]
        refine wpAny_ready (rs := [8]) (by kernel_rfl) (by simp) ?_
        refine AllReady.cons rfl (fun K hK => ?_) AllReady.nil
        go_simp
        refine hK _ _ ?_
        clear hK K
        simp only [List.setIfInBounds_toArray, List.set_cons_zero, List.set_cons_succ]
        refine wpAny_done (by kernel_rfl) ?_ _
        have cX := x3.cell
        have lX := x3.lt
        have fX := x3.free
        obtain ⟨Wf, hWf⟩ : ∃ Wf, st8 w7 (N + 1 + 1 + 1) (.int .i64 0) (.slice none 0 0) (.slice none 0 0) (.int .i64 0) (.int .i64 0) (.int .i64 0) (.int .i64 0) (.slice none 0 0) = Wf := ⟨_, rfl⟩
        have zR : Bx Wf (N + 1 + 1 + 1) lgZ 32 := by subst hWf; exact x3.set8
        have zB : Below w.heap.size w Wf := by subst hWf; exact below_set8 xB (by omega)
        have zK : Wf.heap[g + 6]? = some (.deferred (some [])) := by subst hWf; exact (heap_st8 (by omega) _ _ _ _ _ _ _ _).trans xK
        have zK5 : Wf.heap[h + 4]? = some (.deferred (some [])) := by subst hWf; exact (heap_st8 (by omega) _ _ _ _ _ _ _ _).trans xK5
        have HWf := Lib.hid hWf
        clear hWf xK xK5
        gi_wp2
        have HW := HWf.out
        unfold st8 at HW
        rw [HW]
        refine leave2 zK5 zK (by omega) ?_
        have zR2 : Bx (markW Wf (h + 4) (g + 6)) (N + 1 + 1 + 1) lgZ 32 := (markW_other (by omega) (by omega)).trans zR
        have zB1 := markW_below (b1 := h + 4) (b2 := g + 6) zB (by omega) (by omega)
        clear zR zB zK zK5 HWf HW
        generalize markW Wf (h + 4) (g + 6) = Wg at *
        have cZ := zR2.cell
        refine ⟨.tuple #[.agg lgZ, .int .i64 25], ?_, ?_⟩
        ·
         simp [results, Tryd.f13, go_sem, cZ]
        ·
         rw [Ho.out]
         exact ⟨_, rfl, LgV.zero _, zB1⟩
       ·
        go_simp
        refine hK _ _ ?_
        clear hK K
        simp only [List.setIfInBounds_toArray, List.set_cons_zero, List.set_cons_succ]
        refine wpAny_ready (rs := [6]) (by kernel_rfl) (by simp) ?_
        refine AllReady.cons rfl (fun K hK => ?_) AllReady.nil
        go_simp
        refine hK _ _ ?_
        clear hK K
        simp only [List.setIfInBounds_toArray, List.set_cons_zero, List.set_cons_succ]
        refine wpAny_ready (rs := [8]) (by kernel_rfl) (by simp) ?_
        refine AllReady.cons rfl (fun K hK => ?_) AllReady.nil
        go_simp
        refine hK _ _ ?_
        clear hK K
        simp only [List.setIfInBounds_toArray, List.set_cons_zero, List.set_cons_succ]
        refine wpAny_done (by kernel_rfl) ?_ _
        have cX := x3.cell
        have lX := x3.lt
        have fX := x3.free
        obtain ⟨Wf, hWf⟩ : ∃ Wf, st8 w7 (N + 1 + 1 + 1) (.int .i64 0) (.slice none 0 0) (.slice none 0 0) (.int .i64 0) (.int .i64 0) (.int .i64 0) (.int .i64 0) (.slice none 0 0) = Wf := ⟨_, rfl⟩
        have zR : Bx Wf (N + 1 + 1 + 1) lgZ 32 := by subst hWf; exact x3.set8
        have zB : Below w.heap.size w Wf := by subst hWf; exact below_set8 xB (by omega)
        have zK : Wf.heap[g + 6]? = some (.deferred (some [])) := by subst hWf; exact (heap_st8 (by omega) _ _ _ _ _ _ _ _).trans xK
        have zK5 : Wf.heap[h + 4]? = some (.deferred (some [])) := by subst hWf; exact (heap_st8 (by omega) _ _ _ _ _ _ _ _).trans xK5
        have HWf := Lib.hid hWf
        clear hWf xK xK5
        gi_wp2
        have HW := HWf.out
        unfold st8 at HW
        rw [HW]
        refine leave2 zK5 zK (by omega) ?_
        have zR2 : Bx (markW Wf (h + 4) (g + 6)) (N + 1 + 1 + 1) lgZ 32 := (markW_other (by omega) (by omega)).trans zR
        have zB1 := markW_below (b1 := h + 4) (b2 := g + 6) zB (by omega) (by omega)
        clear zR zB zK zK5 HWf HW
        generalize markW Wf (h + 4) (g + 6) = Wg at *
        have cZ := zR2.cell
        refine ⟨.tuple #[.agg lgZ, .int .i64 25], ?_, ?_⟩
        ·
         simp [results, Tryd.f13, go_sem, cZ]
        ·
         rw [Ho.out]
         exact ⟨_, rfl, LgV.zero _, zB1⟩
      ·
       go_simp
       refine hK _ _ ?_
       clear hK K
       simp only [List.setIfInBounds_toArray, List.set_cons_zero, List.set_cons_succ]
       refine wpAny_ready (rs := [5]) (by kernel_rfl) (by simp) ?_
       refine AllReady.cons rfl (fun K hK => ?_) AllReady.nil
       go_simp
       refine hK _ _ ?_
       clear hK K
       simp only [List.setIfInBounds_toArray, List.set_cons_zero, List.set_cons_succ]
       refine wpAny_ready (rs := [7]) (by kernel_rfl) (by simp) ?_
       refine AllReady.cons rfl (fun K hK => ?_) AllReady.nil
       go_simp
       refine hK _ _ ?_
       clear hK K
       simp only [List.setIfInBounds_toArray, List.set_cons_zero, List.set_cons_succ]
       refine wpAny_ready (rs := [8]) (by kernel_rfl) (by simp) ?_
       refine AllReady.cons rfl (fun K hK => ?_) AllReady.nil
       go_simp
       refine hK _ _ ?_
       clear hK K
       simp only [List.setIfInBounds_toArray, List.set_cons_zero, List.set_cons_succ]
       refine wpAny_done (by kernel_rfl) ?_ _
       have cX := x3.cell
       have lX := x3.lt
       have fX := x3.free
       obtain ⟨Wf, hWf⟩ : ∃ Wf, st8 w7 (N + 1 + 1 + 1) (.int .i64 0) (.slice none 0 0) (.slice none 0 0) (.int .i64 0) (.int .i64 0) (.int .i64 0) (.int .i64 0) (.slice none 0 0) = Wf := ⟨_, rfl⟩
       have zR : Bx Wf (N + 1 + 1 + 1) lgZ 32 := by subst hWf; exact x3.set8
       have zB : Below w.heap.size w Wf := by subst hWf; exact below_set8 xB (by omega)
       have zK : Wf.heap[g + 6]? = some (.deferred (some [])) := by subst hWf; exact (heap_st8 (by omega) _ _ _ _ _ _ _ _).trans xK
       have zK5 : Wf.heap[h + 4]? = some (.deferred (some [])) := by subst hWf; exact (heap_st8 (by omega) _ _ _ _ _ _ _ _).trans xK5
       have HWf := Lib.hid hWf
       clear hWf xK xK5
       gi_wp2
       have HW := HWf.out
       unfold st8 at HW
       rw [HW]
       refine leave2 zK5 zK (by omega) ?_
       have zR2 : Bx (markW Wf (h + 4) (g + 6)) (N + 1 + 1 + 1) lgZ 32 := (markW_other (by omega) (by omega)).trans zR
       have zB1 := markW_below (b1 := h + 4) (b2 := g + 6) zB (by omega) (by omega)
       clear zR zB zK zK5 HWf HW
       generalize markW Wf (h + 4) (g + 6) = Wg at *
       have cZ := zR2.cell
       refine ⟨.tuple #[.agg lgZ, .int .i64 25], ?_, ?_⟩
       ·
        simp [results, Tryd.f13, go_sem, cZ]
       ·
        rw [Ho.out]
        exact ⟨_, rfl, LgV.zero _, zB1⟩
     | some rl =>
      have ho := Lib.hid (openL_ok Hf.out (by rw [HV.out]; exact HV0.out) (by rw [Hm.out]; exact Hr.out))
      refine wpAny_ready (rs := [4]) (by kernel_rfl) (by simp) ?_
      refine AllReady.cons rfl (fun K hK => ?_) AllReady.nil
      go_simp
      refine hK _ _ ?_
      clear hK K
      simp only [List.setIfInBounds_toArray, List.set_cons_zero, List.set_cons_succ]
      refine wpAny_ready (rs := [5, 6]) (by kernel_rfl) (by simp) ?_
      refine AllReady.cons rfl (fun K hK => ?_) (AllReady.cons rfl (fun K hK => ?_) AllReady.nil)
      ·
       go_simp
       refine hK _ _ ?_
       clear hK K
       simp only [List.setIfInBounds_toArray, List.set_cons_zero, List.set_cons_succ]
       refine wpAny_ready (rs := [6, 7]) (by kernel_rfl) (by simp) ?_
       refine AllReady.cons rfl (fun K hK => ?_) (AllReady.cons rfl (fun K hK => ?_) AllReady.nil)
       ·
        go_simp
        refine hK _ _ ?_
        clear hK K
        simp only [List.setIfInBounds_toArray, List.set_cons_zero, List.set_cons_succ]
        refine wpAny_ready (rs := [7]) (by kernel_rfl) (by simp) ?_
        refine AllReady.cons rfl (fun K hK => ?_) AllReady.nil
        go_simp
        refine hK _ _ ?_
        clear hK K
        simp only [List.setIfInBounds_toArray, List.set_cons_zero, List.set_cons_succ]
        refine wpAny_ready (rs := [8]) (by kernel_rfl) (by simp) ?_
        refine AllReady.cons rfl (fun K hK => ?_) AllReady.nil
        go_simp
        refine hK _ _ ?_
        clear hK K
        simp only [List.setIfInBounds_toArray, List.set_cons_zero, List.set_cons_succ]
        refine wpAny_done (by kernel_rfl) ?_ _
        have cX := x3.cell
        have lX := x3.lt
        have fX := x3.free
        have c4 := x4.cell
        have f4 := x4.free
        have l4 := x4.lt
        obtain ⟨Wf, hWf⟩ : ∃ Wf, st8 (w7.setCell ⟨g, 7, none⟩ (.slice o rl.length c)) (N + 1 + 1 + 1) (.int .i64 d.size) (.slice po d.pages.length pc) (.slice co d.cache.length cc) (.int .i64 d.left) (.int .i64 frm) (.int .i64 til) (.int .i64 V) (.slice o rl.length c) = Wf := ⟨_, rfl⟩
        have zR : Bx Wf (N + 1 + 1 + 1) (lgC d po co pc cc frm til V o rl.length c) 32 := by subst hWf; exact (x3.setO (a := ⟨g, 7, none⟩) (by simp; omega) _).set8
        have zB : Below w.heap.size w Wf := by subst hWf; exact below_set8 (below_set1 (b := g) xB (by omega)) (by omega)
        have zK : Wf.heap[g + 6]? = some (.deferred (some [])) := by subst hWf; exact ((heap_st8 (by omega) _ _ _ _ _ _ _ _).trans (Below.heap_setCell _ _ _ _ (by simp))).trans xK
        have zK5 : Wf.heap[h + 4]? = some (.deferred (some [])) := by subst hWf; exact ((heap_st8 (by omega) _ _ _ _ _ _ _ _).trans (Below.heap_setCell _ _ _ _ (by simp; omega))).trans xK5
        have zS : StrsAt (fun b => w6.heap.size ≤ b ∧ b < w7.heap.size) Wf o rl := by subst hWf; exact Hst.out.same (((Same.refl _ _).set1 (b := g) (k := 7) (by omega)).set8 (by omega))
        have zz : Wf.heap.size = w7.heap.size := by subst hWf; rw [size_set8]; simp
        have HWf := Lib.hid hWf
        have HzS := Lib.hid zS
        clear hWf xK xK5 zS
        gi_wp2
        have HW := HWf.out
        unfold st8 at HW
        rw [HW]
        refine leave2 zK5 zK (by omega) ?_
        have zR2 : Bx (markW Wf (h + 4) (g + 6)) (N + 1 + 1 + 1) (lgC d po co pc cc frm til V o rl.length c) 32 := (markW_other (by omega) (by omega)).trans zR
        have zB1 := markW_below (b1 := h + 4) (b2 := g + 6) zB (by omega) (by omega)
        have zS1 := HzS.out.same (w' := markW Wf (h + 4) (g + 6)) (fun b hb => markW_other (by omega) (by omega))
        have zz1 : (markW Wf (h + 4) (g + 6)).heap.size = w7.heap.size := by rw [← zz]; simp [markW, World.putObj]
        clear zR zB zK zK5 HWf HW HzS zz
        generalize markW Wf (h + 4) (g + 6) = Wg at *
        have cZ := zR2.cell
        refine ⟨.tuple #[.agg (lgC d po co pc cc frm til V o rl.length c), .int .i64 0], ?_, ?_⟩
        ·
         simp [results, Tryd.f13, go_sem, cZ]
        ·
         rw [ho.out, HV.out]
         exact ⟨_, rfl, ⟨po, pc, co, cc, o, c, rfl, hD0.below zB1, Hsl.out, zS1.mono (fun b hb => by omega)⟩, zB1⟩
       ·
        go_simp
        refine hK _ _ ?_
        clear hK K
        simp only [List.setIfInBounds_toArray, List.set_cons_zero, List.set_cons_succ]
        refine wpAny_ready (rs := [6]) (by kernel_rfl) (by simp) ?_
        refine AllReady.cons rfl (fun K hK => ?_) AllReady.nil
        go_simp
        refine hK _ _ ?_
        clear hK K
        simp only [List.setIfInBounds_toArray, List.set_cons_zero, List.set_cons_succ]
        refine wpAny_ready (rs := [8]) (by kernel_rfl) (by simp) ?_
        refine AllReady.cons rfl (fun K hK => ?_) AllReady.nil
        go_simp
        refine hK _ _ ?_
        clear hK K
        simp only [List.setIfInBounds_toArray, List.set_cons_zero, List.set_cons_succ]
        refine wpAny_done (by kernel_rfl) ?_ _
        have cX := x3.cell
        have lX := x3.lt
        have fX := x3.free
        have c4 := x4.cell
        have f4 := x4.free
        have l4 := x4.lt
        obtain ⟨Wf, hWf⟩ : ∃ Wf, st8 (w7.setCell ⟨g, 7, none⟩ (.slice o rl.length c)) (N + 1 + 1 + 1) (.int .i64 d.size) (.slice po d.pages.length pc) (.slice co d.cache.length cc) (.int .i64 d.left) (.int .i64 frm) (.int .i64 til) (.int .i64 V) (.slice o rl.length c) = Wf := ⟨_, rfl⟩
        have zR : Bx Wf (N + 1 + 1 + 1) (lgC d po co pc cc frm til V o rl.length c) 32 := by subst hWf; exact (x3.setO (a := ⟨g, 7, none⟩) (by simp; omega) _).set8
        have zB : Below w.heap.size w Wf := by subst hWf; exact below_set8 (below_set1 (b := g) xB (by omega)) (by omega)
        have zK : Wf.heap[g + 6]? = some (.deferred (some [])) := by subst hWf; exact ((heap_st8 (by omega) _ _ _ _ _ _ _ _).trans (Below.heap_setCell _ _ _ _ (by simp))).trans xK
        have zK5 : Wf.heap[h + 4]? = some (.deferred (some [])) := by subst hWf; exact ((heap_st8 (by omega) _ _ _ _ _ _ _ _).trans (Below.heap_setCell _ _ _ _ (by simp; omega))).trans xK5
        have zS : StrsAt (fun b => w6.heap.size ≤ b ∧ b < w7.heap.size) Wf o rl := by subst hWf; exact Hst.out.same (((Same.refl _ _).set1 (b := g) (k := 7) (by omega)).set8 (by omega))
        have zz : Wf.heap.size = w7.heap.size := by subst hWf; rw [size_set8]; simp
        have HWf := Lib.hid hWf
        have HzS := Lib.hid zS
        clear hWf xK xK5 zS
        gi_wp2
        have HW := HWf.out
        unfold st8 at HW
        rw [HW]
        refine leave2 zK5 zK (by omega) ?_
        have zR2 : Bx (markW Wf (h + 4) (g + 6)) (N + 1 + 1 + 1) (lgC d po co pc cc frm til V o rl.length c) 32 := (markW_other (by omega) (by omega)).trans zR
        have zB1 := markW_below (b1 := h + 4) (b2 := g + 6) zB (by omega) (by omega)
        have zS1 := HzS.out.same (w' := markW Wf (h + 4) (g + 6)) (fun b hb => markW_other (by omega) (by omega))
        have zz1 : (markW Wf (h + 4) (g + 6)).heap.size = w7.heap.size := by rw [← zz]; simp [markW, World.putObj]
        clear zR zB zK zK5 HWf HW HzS zz
        generalize markW Wf (h + 4) (g + 6) = Wg at *
        have cZ := zR2.cell
        refine ⟨.tuple #[.agg (lgC d po co pc cc frm til V o rl.length c), .int .i64 0], ?_, ?_⟩
        ·
         simp [results, Tryd.f13, go_sem, cZ]
        ·
         rw [ho.out, HV.out]
         exact ⟨_, rfl, ⟨po, pc, co, cc, o, c, rfl, hD0.below zB1, Hsl.out, zS1.mono (fun b hb => by omega)⟩, zB1⟩
      ·
       go_simp
       refine hK _ _ ?_
       clear hK K
       simp only [List.setIfInBounds_toArray, List.set_cons_zero, List.set_cons_succ]
       refine wpAny_ready (rs := [5]) (by kernel_rfl) (by simp) ?_
       refine AllReady.cons rfl (fun K hK => ?_) AllReady.nil
       go_simp
       refine hK _ _ ?_
       clear hK K
       simp only [List.setIfInBounds_toArray, List.set_cons_zero, List.set_cons_succ]
       refine wpAny_ready (rs := [7]) (by kernel_rfl) (by simp) ?_
       refine AllReady.cons rfl (fun K hK => ?_) AllReady.nil
       go_simp
       refine hK _ _ ?_
       clear hK K
       simp only [List.setIfInBounds_toArray, List.set_cons_zero, List.set_cons_succ]
       refine wpAny_ready (rs := [8]) (by kernel_rfl) (by simp) ?_
       refine AllReady.cons rfl (fun K hK => ?_) AllReady.nil
       go_simp
       refine hK _ _ ?_
       clear hK K
       simp only [List.setIfInBounds_toArray, List.set_cons_zero, List.set_cons_succ]
       refine wpAny_done (by kernel_rfl) ?_ _
       have cX := x3.cell
       have lX := x3.lt
       have fX := x3.free
       have c4 := x4.cell
       have f4 := x4.free
       have l4 := x4.lt
       obtain ⟨Wf, hWf⟩ : ∃ Wf, st8 (w7.setCell ⟨g, 7, none⟩ (.slice o rl.length c)) (N + 1 + 1 + 1) (.int .i64 d.size) (.slice po d.pages.length pc) (.slice co d.cache.length cc) (.int .i64 d.left) (.int .i64 frm) (.int .i64 til) (.int .i64 V) (.slice o rl.length c) = Wf := ⟨_, rfl⟩
       have zR : Bx Wf (N + 1 + 1 + 1) (lgC d po co pc cc frm til V o rl.length c) 32 := by subst hWf; exact (x3.setO (a := ⟨g, 7, none⟩) (by simp; omega) _).set8
       have zB : Below w.heap.size w Wf := by subst hWf; exact below_set8 (below_set1 (b := g) xB (by omega)) (by omega)
       have zK : Wf.heap[g + 6]? = some (.deferred (some [])) := by subst hWf; exact ((heap_st8 (by omega) _ _ _ _ _ _ _ _).trans (Below.heap_setCell _ _ _ _ (by simp))).trans xK
       have zK5 : Wf.heap[h + 4]? = some (.deferred (some [])) := by subst hWf; exact ((heap_st8 (by omega) _ _ _ _ _ _ _ _).trans (Below.heap_setCell _ _ _ _ (by simp; omega))).trans xK5
       have zS : StrsAt (fun b => w6.heap.size ≤ b ∧ b < w7.heap.size) Wf o rl := by subst hWf; exact Hst.out.same (((Same.refl _ _).set1 (b := g) (k := 7) (by omega)).set8 (by omega))
       have zz : Wf.heap.size = w7.heap.size := by subst hWf; rw [size_set8]; simp
       have HWf := Lib.hid hWf
       have HzS := Lib.hid zS
       clear hWf xK xK5 zS
       gi_wp2
       have HW := HWf.out
       unfold st8 at HW
       rw [HW]
       refine leave2 zK5 zK (by omega) ?_
       have zR2 : Bx (markW Wf (h + 4) (g + 6)) (N + 1 + 1 + 1) (lgC d po co pc cc frm til V o rl.length c) 32 := (markW_other (by omega) (by omega)).trans zR
       have zB1 := markW_below (b1 := h + 4) (b2 := g + 6) zB (by omega) (by omega)
       have zS1 := HzS.out.same (w' := markW Wf (h + 4) (g + 6)) (fun b hb => markW_other (by omega) (by omega))
       have zz1 : (markW Wf (h + 4) (g + 6)).heap.size = w7.heap.size := by rw [← zz]; simp [markW, World.putObj]
       clear zR zB zK zK5 HWf HW HzS zz
       generalize markW Wf (h + 4) (g + 6) = Wg at *
       have cZ := zR2.cell
       refine ⟨.tuple #[.agg (lgC d po co pc cc frm til V o rl.length c), .int .i64 0], ?_, ?_⟩
       ·
        simp [results, Tryd.f13, go_sem, cZ]
       ·
        rw [ho.out, HV.out]
        exact ⟨_, rfl, ⟨po, pc, co, cc, o, c, rfl, hD0.below zB1, Hsl.out, zS1.mono (fun b hb => by omega)⟩, zB1⟩
    ·
     have c5 := t5.cell 0
     simp at c5
     go_simp
     refine hK _ _ ?_
     clear hK K
     simp only [List.setIfInBounds_toArray, List.set_cons_zero, List.set_cons_succ]
     clear c5
     refine wpAny_ready (rs := [0]) (by kernel_rfl) (by simp) ?_
     refine AllReady.cons rfl (fun K hK => ?_) AllReady.nil
     go_simp
     refine Hstr.out.mono ?_
     rintro e w6 ⟨rfl, hk6, hb6⟩
     refine hK _ _ ?_
     clear hK K
     have V3 := Lib.hid (T3.out.below hb6 (by omega))
     have V4 := Lib.hid (T4.out.below hb6 (by omega))
     have v5 := t5.below hb6 (by omega)
     have VK := Lib.hid (hk6 _ _ TK.out (by omega) (by intro cs fr e; cases e))
     have VK5 := Lib.hid (hk6 _ _ TK5.out (by omega) (by intro cs fr e; cases e))
     have hNh := TB.out.size
     have VB := Lib.hid (TB.out.trans (hb6.mono (by omega)))
     have VHz : Hid (h + 4 < w6.heap.size) := Lib.hid (Nat.lt_of_lt_of_le THz.out hb6.size)
     clear hk6 hb6
     simp only [List.setIfInBounds_toArray, List.set_cons_zero]
     refine wpAny_ready (rs := [2]) (by kernel_rfl) (by simp) ?_
     refine AllReady.cons rfl (fun K hK => ?_) AllReady.nil
     go_simp
     refine hK _ _ ?_
     clear hK K
     simp only [List.setIfInBounds_toArray, List.set_cons_zero, List.set_cons_succ]
     refine wpAny_ready (rs := [3]) (by kernel_rfl) (by simp) ?_
     refine AllReady.cons rfl (fun K hK => ?_) AllReady.nil
     go_simp
     refine (Hrec.out w6).mono ?_
     rintro e w7 ⟨o, c, rfl, hsl, hst, hb7⟩
     refine hK _ _ ?_
     clear hK K
     simp only [List.setIfInBounds_toArray, List.set_cons_zero, List.set_cons_succ]
     have x3 := V3.out.belowAll hb7
     have x4 := V4.out.belowAll hb7
     have xK : w7.heap[g + 6]? = some (.deferred (some [])) := (hb7.block _ (by have := VHz.out; omega)).trans VK.out
     have xK5 : w7.heap[h + 4]? = some (.deferred (some [])) := (hb7.block _ VHz.out).trans VK5.out
     have xB := btr VB.out hb7
     have hz67 := hb7.size
     have hz6 := VHz.out
     have Hsl := Lib.hid hsl
     have Hst := Lib.hid hst
     clear hsl hst hb7
     cases r with
     | none =>
      have Ho := Lib.hid (openL_norecs Hf.out (by rw [HV.out]; exact HV0.out) (by rw [Hm.out]; exact Hr.out))
      refine wpAny_ready (rs := [4]) (by kernel_rfl) (by simp) ?_
      refine AllReady.cons rfl (fun K hK => ?_) AllReady.nil
      go_simp
      refine hK _ _ ?_
      clear hK K
      simp only [List.setIfInBounds_toArray, List.set_cons_zero, List.set_cons_succ]
      refine wpAny_ready (rs := [5, 6]) (by kernel_rfl) (by simp) ?_
      refine AllReady.cons rfl (fun K hK => ?_) (AllReady.cons rfl (fun K hK => ?_) AllReady.nil)
      ·
       go_simp
       refine hK _ _ ?_
       clear hK K
       simp only [List.setIfInBounds_toArray, List.set_cons_zero, List.set_cons_succ]
       refine wpAny_ready (rs := [6, 7]) (by kernel_rfl) (by simp) ?_
       refine AllReady.cons rfl (fun K hK => ?_) (AllReady.cons rfl (fun K hK => ?_) AllReady.nil)
       ·
        go_simp
        refine hK _ _ ?_
        clear hK K
        simp only [List.setIfInBounds_toArray, List.set_cons_zero, List.set_cons_succ]
        refine wpAny_ready (rs := [7]) (by kernel_rfl) (by simp) ?_
        refine AllReady.cons rfl (fun K hK => ?_) AllReady.nil
        go_simp
        refine hK _ _ ?_
        clear hK K
        simp only [List.setIfInBounds_toArray, List.set_cons_zero, List.set_cons_succ]
        refine wpAny_ready (rs := [8]) (by kernel_rfl) (by simp) ?_
        refine AllReady.cons rfl (fun K hK => ?_) AllReady.nil
        go_simp
        refine hK _ _ ?_
        clear hK K
        simp only [List.setIfInBounds_toArray, List.set_cons_zero, List.set_cons_succ]
        refine wpAny_done (by kernel_rfl) ?_ _
        have cX := x3.cell
        have lX := x3.lt
        have fX := x3.free
        obtain ⟨Wf, hWf⟩ : ∃ Wf, st8 w7 (N + 1 + 1 + 1) (.int .i64 0) (.slice none 0 0) (.slice none 0 0) (.int .i64 0) (.int .i64 0) (.int .i64 0) (.int .i64 0) (.slice none 0 0) = Wf := ⟨_, rfl⟩
        have zR : Bx Wf (N + 1 + 1 + 1) lgZ 32 := by subst hWf; exact x3.set8
        have zB : Below w.heap.size w Wf := by subst hWf; exact below_set8 xB (by omega)
        have zK : Wf.heap[g + 6]? = some (.deferred (some [])) := by subst hWf; exact (heap_st8 (by omega) _ _ _ _ _ _ _ _).trans xK
        have zK5 : Wf.heap[h + 4]? = some (.deferred (some [])) := by subst hWf; exact (heap_st8 (by omega) _ _ _ _ _ _ _ _).trans xK5
        have HWf := Lib.hid hWf
        clear hWf xK xK5
        gi_wp2
        have HW := HWf.out
        unfold st8 at HW
        rw [HW]
        refine leave2 zK5 zK (by omega) ?_
        have zR2 : Bx (markW Wf (h + 4) (g + 6)) (N + 1 + 1 + 1) lgZ 32 := (markW_other (by omega) (by omega)).trans zR
        have zB1 := markW_below (b1 := h + 4) (b2 := g + 6) zB (by omega) (by omega)
        clear zR zB zK zK5 HWf HW
        generalize markW Wf (h + 4) (g + 6) = Wg at *
        have cZ := zR2.cell
        refine ⟨.tuple #[.agg lgZ, .int .i64 25], ?_, ?_⟩
        ·
         simp [results, Tryd.f13, go_sem, cZ]
        ·
         rw [Ho.out]
         exact ⟨_, rfl, LgV.zero _, zB1⟩
       ·
        go_simp
        refine hK _ _ ?_
        clear hK K
        simp only [List.setIfInBounds_toArray, List.set_cons_zero, List.set_cons_succ]
        refine wpAny_ready (rs := [6]) (by kernel_rfl) (by simp) ?_
        refine AllReady.cons rfl (fun K hK => ?_) AllReady.nil
        go_simp
        refine hK _ _ ?_
        clear hK K
        simp only [List.setIfInBounds_toArray, List.set_cons_zero, List.set_cons_succ]
        refine wpAny_ready (rs := [8]) (by kernel_rfl) (by simp) ?_
        refine AllReady.cons rfl (fun K hK => ?_) AllReady.nil
        go_simp
        refine hK _ _ ?_
        clear hK K
        simp only [List.setIfInBounds_toArray, List.set_cons_zero, List.set_cons_succ]
        refine wpAny_done (by kernel_rfl) ?_ _
        have cX := x3.cell
        have lX := x3.lt
        have fX := x3.free
        obtain ⟨Wf, hWf⟩ : ∃ Wf, st8 w7 (N + 1 + 1 + 1) (.int .i64 0) (.slice none 0 0) (.slice none 0 0) (.int .i64 0) (.int .i64 0) (.int .i64 0) (.int .i64 0) (.slice none 0 0) = Wf := ⟨_, rfl⟩
        have zR : Bx Wf (N + 1 + 1 + 1) lgZ 32 := by subst hWf; exact x3.set8
        have zB : Below w.heap.size w Wf := by subst hWf; exact below_set8 xB (by omega)
        have zK : Wf.heap[g + 6]? = some (.deferred (some [])) := by subst hWf; exact (heap_st8 (by omega) _ _ _ _ _ _ _ _).trans xK
        have zK5 : Wf.heap[h + 4]? = some (.deferred (some [])) := by subst hWf; exact (heap_st8 (by omega) _ _ _ _ _ _ _ _).trans xK5
        have HWf := Lib.hid hWf
        clear hWf xK xK5
        gi_wp2
        have HW := HWf.out
        unfold st8 at HW
        rw [HW]
        refine leave2 zK5 zK (by omega) ?_
        have zR2 : Bx (markW Wf (h + 4) (g + 6)) (N + 1 + 1 + 1) lgZ 32 := (markW_other (by omega) (by omega)).trans zR
        have zB1 := markW_below (b1 := h + 4) (b2 := g + 6) zB (by omega) (by omega)
        clear zR zB zK zK5 HWf HW
        generalize markW Wf (h + 4) (g + 6) = Wg at *
        have cZ := zR2.cell
        refine ⟨.tuple #[.agg lgZ, .int .i64 25], ?_, ?_⟩
        ·
         simp [results, Tryd.f13, go_sem, cZ]
        ·
         rw [Ho.out]
         exact ⟨_, rfl, LgV.zero _, zB1⟩
      ·
       go_simp
       refine hK _ _ ?_
       clear hK K
       simp only [List.setIfInBounds_toArray, List.set_cons_zero, List.set_cons_succ]
       refine wpAny_ready (rs := [5]) (by kernel_rfl) (by simp) ?_
       refine AllReady.cons rfl (fun K hK => ?_) AllReady.nil
       go_simp
       refine hK _ _ ?_
       clear hK K
       simp only [List.setIfInBounds_toArray, List.set_cons_zero, List.set_cons_succ]
       refine wpAny_ready (rs := [7]) (by kernel_rfl) (by simp) ?_
       refine AllReady.cons rfl (fun K hK => ?_) AllReady.nil
       go_simp
       refine hK _ _ ?_
       clear hK K
       simp only [List.setIfInBounds_toArray, List.set_cons_zero, List.set_cons_succ]
       refine wpAny_ready (rs := [8]) (by kernel_rfl) (by simp) ?_
       refine AllReady.cons rfl (fun K hK => ?_) AllReady.nil
       go_simp
       refine hK _ _ ?_
       clear hK K
       simp only [List.setIfInBounds_toArray, List.set_cons_zero, List.set_cons_succ]
       refine wpAny_done (by kernel_rfl) ?_ _
       have cX := x3.cell
       have lX := x3.lt
       have fX := x3.free
       obtain ⟨Wf, hWf⟩ : ∃ Wf, st8 w7 (N + 1 + 1 + 1) (.int .i64 0) (.slice none 0 0) (.slice none 0 0) (.int .i64 0) (.int .i64 0) (.int .i64 0) (.int .i64 0) (.slice none 0 0) = Wf := ⟨_, rfl⟩
       have zR : Bx Wf (N + 1 + 1 + 1) lgZ 32 := by subst hWf; exact x3.set8
       have zB : Below w.heap.size w Wf := by subst hWf; exact below_set8 xB (by omega)
       have zK : Wf.heap[g + 6]? = some (.deferred (some [])) := by subst hWf; exact (heap_st8 (by omega) _ _ _ _ _ _ _ _).trans xK
       have zK5 : Wf.heap[h + 4]? = some (.deferred (some [])) := by subst hWf; exact (heap_st8 (by omega) _ _ _ _ _ _ _ _).trans xK5
       have HWf := Lib.hid hWf
       clear hWf xK xK5
       gi_wp2
       have HW := HWf.out
       unfold st8 at HW
       rw [HW]
       refine leave2 zK5 zK (by omega) ?_
       have zR2 : Bx (markW Wf (h + 4) (g + 6)) (N + 1 + 1 + 1) lgZ 32 := (markW_other (by omega) (by omega)).trans zR
       have zB1 := markW_below (b1 := h + 4) (b2 := g + 6) zB (by omega) (by omega)
       clear zR zB zK zK5 HWf HW
       generalize markW Wf (h + 4) (g + 6) = Wg at *
       have cZ := zR2.cell
       refine ⟨.tuple #[.agg lgZ, .int .i64 25], ?_, ?_⟩
       ·
        simp [results, Tryd.f13, go_sem, cZ]
       ·
        rw [Ho.out]
        exact ⟨_, rfl, LgV.zero _, zB1⟩
     | some rl =>
      have ho := Lib.hid (openL_ok Hf.out (by rw [HV.out]; exact HV0.out) (by rw [Hm.out]; exact Hr.out))
      refine wpAny_ready (rs := [4]) (by kernel_rfl) (by simp) ?_
      refine AllReady.cons rfl (fun K hK => ?_) AllReady.nil
      go_simp
      refine hK _ _ ?_
      clear hK K
      simp only [List.setIfInBounds_toArray, List.set_cons_zero, List.set_cons_succ]
      refine wpAny_ready (rs := [5, 6]) (by kernel_rfl) (by simp) ?_
      refine AllReady.cons rfl (fun K hK => ?_) (AllReady.cons rfl (fun K hK => ?_) AllReady.nil)
      ·
       go_simp
       refine hK _ _ ?_
       clear hK K
       simp only [List.setIfInBounds_toArray, List.set_cons_zero, List.set_cons_succ]
       refine wpAny_ready (rs := [6, 7]) (by kernel_rfl) (by simp) ?_
       refine AllReady.cons rfl (fun K hK => ?_) (AllReady.cons rfl (fun K hK => ?_) AllReady.nil)
       ·
        go_simp
        refine hK _ _ ?_
        clear hK K
        simp only [List.setIfInBounds_toArray, List.set_cons_zero, List.set_cons_succ]
        refine wpAny_ready (rs := [7]) (by kernel_rfl) (by simp) ?_
        refine AllReady.cons rfl (fun K hK => ?_) AllReady.nil
        go_simp
        refine hK _ _ ?_
        clear hK K
        simp only [List.setIfInBounds_toArray, List.set_cons_zero, List.set_cons_succ]
        refine wpAny_ready (rs := [8]) (by kernel_rfl) (by simp) ?_
        refine AllReady.cons rfl (fun K hK => ?_) AllReady.nil
        go_simp
        refine hK _ _ ?_
        clear hK K
        simp only [List.setIfInBounds_toArray, List.set_cons_zero, List.set_cons_succ]
        refine wpAny_done (by kernel_rfl) ?_ _
        have cX := x3.cell
        have lX := x3.lt
        have fX := x3.free
        have c4 := x4.cell
        have f4 := x4.free
        have l4 := x4.lt
        obtain ⟨Wf, hWf⟩ : ∃ Wf, st8 (w7.setCell ⟨g, 7, none⟩ (.slice o rl.length c)) (N + 1 + 1 + 1) (.int .i64 d.size) (.slice po d.pages.length pc) (.slice co d.cache.length cc) (.int .i64 d.left) (.int .i64 frm) (.int .i64 til) (.int .i64 V) (.slice o rl.length c) = Wf := ⟨_, rfl⟩
        have zR : Bx Wf (N + 1 + 1 + 1) (lgC d po co pc cc frm til V o rl.length c) 32 := by subst hWf; exact (x3.setO (a := ⟨g, 7, none⟩) (by simp; omega) _).set8
        have zB : Below w.heap.size w Wf := by subst hWf; exact below_set8 (below_set1 (b := g) xB (by omega)) (by omega)
        have zK : Wf.heap[g + 6]? = some (.deferred (some [])) := by subst hWf; exact ((heap_st8 (by omega) _ _ _ _ _ _ _ _).trans (Below.heap_setCell _ _ _ _ (by simp))).trans xK
        have zK5 : Wf.heap[h + 4]? = some (.deferred (some [])) := by subst hWf; exact ((heap_st8 (by omega) _ _ _ _ _ _ _ _).trans (Below.heap_setCell _ _ _ _ (by simp; omega))).trans xK5
        have zS : StrsAt (fun b => w6.heap.size ≤ b ∧ b < w7.heap.size) Wf o rl := by subst hWf; exact Hst.out.same (((Same.refl _ _).set1 (b := g) (k := 7) (by omega)).set8 (by omega))
        have zz : Wf.heap.size = w7.heap.size := by subst hWf; rw [size_set8]; simp
        have HWf := Lib.hid hWf
        have HzS := Lib.hid zS
        clear hWf xK xK5 zS
        gi_wp2
        have HW := HWf.out
        unfold st8 at HW
        rw [HW]
        refine leave2 zK5 zK (by omega) ?_
        have zR2 : Bx (markW Wf (h + 4) (g + 6)) (N + 1 + 1 + 1) (lgC d po co pc cc frm til V o rl.length c) 32 := (markW_other (by omega) (by omega)).trans zR
        have zB1 := markW_below (b1 := h + 4) (b2 := g + 6) zB (by omega) (by omega)
        have zS1 := HzS.out.same (w' := markW Wf (h + 4) (g + 6)) (fun b hb => markW_other (by omega) (by omega))
        have zz1 : (markW Wf (h + 4) (g + 6)).heap.size = w7.heap.size := by rw [← zz]; simp [markW, World.putObj]
        clear zR zB zK zK5 HWf HW HzS zz
        generalize markW Wf (h + 4) (g + 6) = Wg at *
        have cZ := zR2.cell
        refine ⟨.tuple #[.agg (lgC d po co pc cc frm til V o rl.length c), .int .i64 0], ?_, ?_⟩
        ·
         simp [results, Tryd.f13, go_sem, cZ]
        ·
         rw [ho.out, HV.out]
         exact ⟨_, rfl, ⟨po, pc, co, cc, o, c, rfl, hD0.below zB1, Hsl.out, zS1.mono (fun b hb => by omega)⟩, zB1⟩
       ·
        go_simp
        refine hK _ _ ?_
        clear hK K
        simp only [List.setIfInBounds_toArray, List.set_cons_zero, List.set_cons_succ]
        refine wpAny_ready (rs := [6]) (by kernel_rfl) (by simp) ?_
        refine AllReady.cons rfl (fun K hK => ?_) AllReady.nil
        go_simp
        refine hK _ _ ?_
        clear hK K
        simp only [List.setIfInBounds_toArray, List.set_cons_zero, List.set_cons_succ]
        refine wpAny_ready (rs := [8]) (by kernel_rfl) (by simp) ?_
        refine AllReady.cons rfl (fun K hK => ?_) AllReady.nil
        go_simp
        refine hK _ _ ?_
        clear hK K
        simp only [List.setIfInBounds_toArray, List.set_cons_zero, List.set_cons_succ]
        refine wpAny_done (by kernel_rfl) ?_ _
        have cX := x3.cell
        have lX := x3.lt
        have fX := x3.free
        have c4 := x4.cell
        have f4 := x4.free
        have l4 := x4.lt
        obtain ⟨Wf, hWf⟩ : ∃ Wf, st8 (w7.setCell ⟨g, 7, none⟩ (.slice o rl.length c)) (N + 1 + 1 + 1) (.int .i64 d.size) (.slice po d.pages.length pc) (.slice co d.cache.length cc) (.int .i64 d.left) (.int .i64 frm) (.int .i64 til) (.int .i64 V) (.slice o rl.length c) = Wf := ⟨_, rfl⟩
        have zR : Bx Wf (N + 1 + 1 + 1) (lgC d po co pc cc frm til V o rl.length c) 32 := by subst hWf; exact (x3.setO (a := ⟨g, 7, none⟩) (by simp; omega) _).set8
        have zB : Below w.heap.size w Wf := by subst hWf; exact below_set8 (below_set1 (b := g) xB (by omega)) (by omega)
        have zK : Wf.heap[g + 6]? = some (.deferred (some [])) := by subst hWf; exact ((heap_st8 (by omega) _ _ _ _ _ _ _ _).trans (Below.heap_setCell _ _ _ _ (by simp))).trans xK
        have zK5 : Wf.heap[h + 4]? = some (.deferred (some [])) := by subst hWf; exact ((heap_st8 (by omega) _ _ _ _ _ _ _ _).trans (Below.heap_setCell _ _ _ _ (by simp; omega))).trans xK5
        have zS : StrsAt (fun b => w6.heap.size ≤ b ∧ b < w7.heap.size) Wf o rl := by subst hWf; exact Hst.out.same (((Same.refl _ _).set1 (b := g) (k := 7) (by omega)).set8 (by omega))
        have zz : Wf.heap.size = w7.heap.size := by subst hWf; rw [size_set8]; simp
        have HWf := Lib.hid hWf
        have HzS := Lib.hid zS
        clear hWf xK xK5 zS
        gi_wp2
        have HW := HWf.out
        unfold st8 at HW
        rw [HW]
        refine leave2 zK5 zK (by omega) ?_
        have zR2 : Bx (markW Wf (h + 4) (g + 6)) (N + 1 + 1 + 1) (lgC d po co pc cc frm til V o rl.length c) 32 := (markW_other (by omega) (by omega)).trans zR
        have zB1 := markW_below (b1 := h + 4) (b2 := g + 6) zB (by omega) (by omega)
        have zS1 := HzS.out.same (w' := markW Wf (h + 4) (g + 6)) (fun b hb => markW_other (by omega) (by omega))
        have zz1 : (markW Wf (h + 4) (g + 6)).heap.size = w7.heap.size := by rw [← zz]; simp [markW, World.putObj]
        clear zR zB zK zK5 HWf HW HzS zz
        generalize markW Wf (h + 4) (g + 6) = Wg at *
        have cZ := zR2.cell
        refine ⟨.tuple #[.agg (lgC d po co pc cc frm til V o rl.length c), .int .i64 0], ?_, ?_⟩
        ·
         simp [results, Tryd.f13, go_sem, cZ]
        ·
         rw [ho.out, HV.out]
         exact ⟨_, rfl, ⟨po, pc, co, cc, o, c, rfl, hD0.below zB1, Hsl.out, zS1.mono (fun b hb => by omega)⟩, zB1⟩
      ·
       go_simp
       refine hK _ _ ?_
       clear hK K
       simp only [List.setIfInBounds_toArray, List.set_cons_zero, List.set_cons_succ]
       refine wpAny_ready (rs := [5]) (by kernel_rfl) (by simp) ?_
       refine AllReady.cons rfl (fun K hK => ?_) AllReady.nil
       go_simp
       refine hK _ _ ?_
       clear hK K
       simp only [List.setIfInBounds_toArray, List.set_cons_zero, List.set_cons_succ]
       refine wpAny_ready (rs := [7]) (by kernel_rfl) (by simp) ?_
       refine AllReady.cons rfl (fun K hK => ?_) AllReady.nil
       go_simp
       refine hK _ _ ?_
       clear hK K
       simp only [List.setIfInBounds_toArray, List.set_cons_zero, List.set_cons_succ]
       refine wpAny_ready (rs := [8]) (by kernel_rfl) (by simp) ?_
       refine AllReady.cons rfl (fun K hK => ?_) AllReady.nil
       go_simp
       refine hK _ _ ?_
       clear hK K
       simp only [List.setIfInBounds_toArray, List.set_cons_zero, List.set_cons_succ]
       refine wpAny_done (by kernel_rfl) ?_ _
       have cX := x3.cell
       have lX := x3.lt
       have fX := x3.free
       have c4 := x4.cell
       have f4 := x4.free
       have l4 := x4.lt
       obtain ⟨Wf, hWf⟩ : ∃ Wf, st8 (w7.setCell ⟨g, 7, none⟩ (.slice o rl.length c)) (N + 1 + 1 + 1) (.int .i64 d.size) (.slice po d.pages.length pc) (.slice co d.cache.length cc) (.int .i64 d.left) (.int .i64 frm) (.int .i64 til) (.int .i64 V) (.slice o rl.length c) = Wf := ⟨_, rfl⟩
       have zR : Bx Wf (N + 1 + 1 + 1) (lgC d po co pc cc frm til V o rl.length c) 32 := by subst hWf; exact (x3.setO (a := ⟨g, 7, none⟩) (by simp; omega) _).set8
       have zB : Below w.heap.size w Wf := by subst hWf; exact below_set8 (below_set1 (b := g) xB (by omega)) (by omega)
       have zK : Wf.heap[g + 6]? = some (.deferred (some [])) := by subst hWf; exact ((heap_st8 (by omega) _ _ _ _ _ _ _ _).trans (Below.heap_setCell _ _ _ _ (by simp))).trans xK
       have zK5 : Wf.heap[h + 4]? = some (.deferred (some [])) := by subst hWf; exact ((heap_st8 (by omega) _ _ _ _ _ _ _ _).trans (Below.heap_setCell _ _ _ _ (by simp; omega))).trans xK5
       have zS : StrsAt (fun b => w6.heap.size ≤ b ∧ b < w7.heap.size) Wf o rl := by subst hWf; exact Hst.out.same (((Same.refl _ _).set1 (b := g) (k := 7) (by omega)).set8 (by omega))
       have zz : Wf.heap.size = w7.heap.size := by subst hWf; rw [size_set8]; simp
       have HWf := Lib.hid hWf
       have HzS := Lib.hid zS
       clear hWf xK xK5 zS
       gi_wp2
       have HW := HWf.out
       unfold st8 at HW
       rw [HW]
       refine leave2 zK5 zK (by omega) ?_
       have zR2 : Bx (markW Wf (h + 4) (g + 6)) (N + 1 + 1 + 1) (lgC d po co pc cc frm til V o rl.length c) 32 := (markW_other (by omega) (by omega)).trans zR
       have zB1 := markW_below (b1 := h + 4) (b2 := g + 6) zB (by omega) (by omega)
       have zS1 := HzS.out.same (w' := markW Wf (h + 4) (g + 6)) (fun b hb => markW_other (by omega) (by omega))
       have zz1 : (markW Wf (h + 4) (g + 6)).heap.size = w7.heap.size := by rw [← zz]; simp [markW, World.putObj]
       clear zR zB zK zK5 HWf HW HzS zz
       generalize markW Wf (h + 4) (g + 6) = Wg at *
       have cZ := zR2.cell
       refine ⟨.tuple #[.agg (lgC d po co pc cc frm til V o rl.length c), .int .i64 0], ?_, ?_⟩
       ·
        simp [results, Tryd.f13, go_sem, cZ]
       ·
        rw [ho.out, HV.out]
        exact ⟨_, rfl, ⟨po, pc, co, cc, o, c, rfl, hD0.below zB1, Hsl.out, zS1.mono (fun b hb => by omega)⟩, zB1⟩
end
end Go.Proofs.YtghikgjknhjjgaaDoor
