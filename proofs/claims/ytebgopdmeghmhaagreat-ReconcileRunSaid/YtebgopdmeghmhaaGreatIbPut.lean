/- iblt.put: a digest counted in a table. -/
import Derived.Test.YtebgopdmeghmhaaGreatIbNew
namespace Go.Proofs.YtebgopdmeghmhaaGreat
open Go.RowKit Go.Shelf

def addC (c : Cl) (d : List UInt8) (q : Int) : Cl := ⟨wrap64 (c.n + q), xorD c.k d, xorD c.s (sumL d)⟩
def putAt (d : List UInt8) (q : Int) (t : List Cl) (part : Nat) : List Cl := t.set (posN d t.length part) (addC (t.getD (posN d t.length part) Cl.zero) d q)
/-- the table with a digest counted q times more -/
def putT (t : List Cl) (d : List UInt8) (q : Int) : List Cl := (List.range 3).foldl (putAt d q) t
theorem putAt_len (d : List UInt8) (q : Int) (t : List Cl) (p : Nat) : (putAt d q t p).length = t.length := by simp [putAt]
theorem foldP_len (d : List UInt8) (q : Int) (ps : List Nat) : ∀ t : List Cl, (ps.foldl (putAt d q) t).length = t.length := by
  induction ps with
  | nil => intro t; rfl
  | cons p ps ih => intro t; rw [List.foldl_cons, ih, putAt_len]
theorem putT_len (t : List Cl) (d : List UInt8) (q : Int) : (putT t d q).length = t.length := foldP_len d q _ t
theorem addC_ok {c : Cl} (h : c.ok) {d : List UInt8} (hd : d.length = 32) (q : Int) : (addC c d q).ok := ⟨xorD_len h.1 hd, xorD_len h.2 (sumL_len d)⟩
theorem Tok.get {t : List Cl} (h : Tok t) (i : Nat) : (t.getD i Cl.zero).ok := by
  rw [List.getD_eq_getElem?_getD]
  cases hi : t[i]? with
  | none => exact Cl.zero_ok
  | some c => exact h c (List.mem_of_getElem? hi)
theorem Tok.set {t : List Cl} (h : Tok t) (i : Nat) {c : Cl} (hc : c.ok) : Tok (t.set i c) := by
  intro x hx
  rcases List.mem_or_eq_of_mem_set hx with h1 | rfl
  · exact h x h1
  · exact hc
theorem putAt_ok {t : List Cl} (h : Tok t) {d : List UInt8} (hd : d.length = 32) (q : Int) (p : Nat) : Tok (putAt d q t p) := h.set _ (addC_ok (h.get _) hd q)
theorem foldP_ok {d : List UInt8} (hd : d.length = 32) (q : Int) (ps : List Nat) : ∀ {t : List Cl}, Tok t → Tok (ps.foldl (putAt d q) t) := by
  induction ps with
  | nil => intro t h; exact h
  | cons p ps ih => intro t h; exact ih (putAt_ok h hd q p)
theorem putT_ok {t : List Cl} (h : Tok t) {d : List UInt8} (hd : d.length = 32) (q : Int) : Tok (putT t d q) := foldP_ok hd q _ h
theorem tabC_set (t : List Cl) (i : Nat) (c : Cl) : (tabC t).set i c.cells = tabC (t.set i c) := by simp [tabC, List.map_set]
theorem KeepsOthers.setCells {b : Nat} : ∀ (l : List Value) (o : Nat) (W : World), KeepsOthers W (W.setCells b o l)
  | [], _, W => KeepsOthers.refl W
  | v :: l, o, W => (KeepsOthers.setCell W ⟨b, o, none⟩ v).trans (KeepsOthers.setCells l (o + 1) _)
theorem KeepsOthers.of_below {W W' : World} {B : Nat} (h : Below B W W') (hB : W.heap.size ≤ B) : KeepsOthers W W' := ⟨h.size, fun k _o hk _ => (h.block k (Nat.lt_of_lt_of_le (Array.getElem?_eq_some_iff.1 hk).1 hB)).trans hk⟩
theorem ownsRow_own {A B : World} {row : Option Nat} {base : Nat} {e : TypeId} {m : Nat} {v : Value} {n : Nat} {xs : List Value} (hs : A.ownsRow base e m v n xs) (hg : A.grownBy B row) (hr : ∀ r, row = some r → ∃ o : Obj, A.heap[r]? = some o ∧ o.isCells = false) : B.ownsRow base e m v n xs := by
  refine hs.kept hg ?_
  by_cases h : v.ownBlock = none
  · exact .inl h
  · refine .inr fun e => ?_
    rcases hs.2 with ⟨rfl, _⟩ | ⟨g, cap, cur, rfl, _, hgg, _⟩
    · exact h rfl
    · obtain ⟨o, ho, hc⟩ := hr g (by rw [← e]; rfl)
      rw [hgg] at ho
      cases ho
      cases hc
/-- slices.Clone of a table -/
theorem clone_tab {S : Nat → Prop} {w : World} {v : Value} {t : List Cl} (h : TabR S w v t) (hl : 0 < t.length) (hm : t.length ≤ 1000000) :
    Calls Tryz.prog 71 #[v] w fun e w' => ∃ g cap, e = .returned (.slice (some ⟨g, 0, none⟩) t.length cap) ∧ w'.ownsRow w.heap.size 67 65 (.slice (some ⟨g, 0, none⟩) t.length cap) t.length (tabC t).flatten ∧ Below w.heap.size w w' := by
  obtain ⟨b, off, c, rfl, h1, h2, _, hb, _⟩ := h.at hl
  obtain ⟨ic, hi, hz, hs, hby⟩ := info_parts infoCl
  have hlen : (tabC t).flatten.length = t.length * 65 := by rw [flat_len (tabC_len h.2), tabC_size]
  have hcl := AnyE.slices_Clone Tryz.l_clone ic _ 65 72 hi hz hs hby (by kernel_rfl) (by decide) sizeOfCl b off t.length c (tabC t).flatten w hlen (by unfold maxLen; omega) (by omega)
    (fun j u hj => by
      obtain ⟨⟨o', c', e', hs', hr⟩, _⟩ := h
      rw [tabC_size] at e'
      obtain ⟨rfl, rfl⟩ : some (⟨b, off, none⟩ : Addr) = o' ∧ c = c' := by simpa using e'
      have := hr.src _ rfl j u hj
      rwa [Addr.add_lit] at this)
    (fun u hu => by
      obtain ⟨x, hx, hu⟩ := List.mem_flatten.1 hu
      obtain ⟨c, _, rfl⟩ := List.mem_map.1 hx
      exact Array.all_eq_true_iff_forall_mem.1 (Cl.one c) u (by simpa using hu))
  refine hcl.mono ?_
  rintro e w' ⟨v', rfl, ho, hne, hB⟩
  rcases ho.2 with ⟨rfl, h0⟩ | ⟨g, cap, cur, rfl, _⟩
  · omega
  · exact ⟨g, cap, rfl, ho, hB⟩
section
attribute [local go_sem] Oper.semAt_some
set_option maxRecDepth 100000 in
set_option maxHeartbeats 1600000 in
theorem iblt_put {S : Nat → Prop} (w : World) (v : Value) (t : List Cl) (d : List UInt8) (q : Int) (h : TabR S w v t) (hl3 : 3 ≤ t.length) (hm : t.length ≤ 1000000) (hd : d.length = 32) :
    Calls Tryz.prog 44 #[v, dgV d, .int .i64 q] w fun e w' => ∃ g cap, e = .returned (.slice (some ⟨g, 0, none⟩) t.length cap) ∧ w'.ownsRow w.heap.size 67 65 (.slice (some ⟨g, 0, none⟩) t.length cap) t.length (tabC (putT t d q)).flatten ∧ Below w.heap.size w w' := by
  obtain ⟨o, c, rfl⟩ : ∃ o c, v = .slice o t.length c := by obtain ⟨⟨o, c, e, _⟩, _⟩ := h; rw [tabC_size] at e; exact ⟨o, c, e⟩
  obtain ⟨cd, hcd⟩ : ∃ c, (bytesV d).toArray = c := ⟨_, rfl⟩
  have hcl : cd.size = 32 := by rw [← hcd]; simp [bytesV, hd]
  have hcells := fun F nF hF hro => cells_in F nF hF hro d (t.length : Int)
  unfold dgV at hcells ⊢
  rw [hcd] at hcells ⊢
  have hB0 := ((Below.one w (.cells #[.slice o t.length c] 24)).alloc (by simp) (.cells cd 39)).alloc (by simp; omega) (.cells #[.int .i64 q] 3)
  have xt := ((Bx.new w #[.slice o t.length c] 24).alloc (.cells cd 39)).alloc (.cells #[.int .i64 q] 3)
  have xd := (Bx.new (w.alloc (.cells #[.slice o t.length c] 24)) cd 39).alloc (.cells #[.int .i64 q] 3)
  have xq := Bx.new ((w.alloc (.cells #[.slice o t.length c] 24)).alloc (.cells cd 39)) #[.int .i64 q] 3
  simp only [World.size_alloc] at xd xq
  have h1 := (((h.below ((Below.refl _ _).alloc (Nat.le_refl _) (.cells #[.slice o t.length c] 24))).below ((Below.refl _ _).alloc (Nat.le_refl _) (.cells cd 39))).below ((Below.refl _ _).alloc (Nat.le_refl _) (.cells #[.int .i64 q] 3)))
  have hclone := clone_tab h1 (by omega) hm
  have Hcells := Lib.hid hcells
  have Hcl := Lib.hid hcl
  have Hcd := Lib.hid hcd
  have hok := Lib.hid h.2
  clear hcells hcl hcd h h1
  obtain ⟨nF, hn⟩ : ∃ n, 9 ≤ n := ⟨9, Nat.le_refl _⟩
  refine (callsIn_wide (n := nF)).1 ?_
  have hro : Fence.wide.round = none := rfl
  have hn1 : 1 ≤ nF := by omega
  refine callsIn_of_wp_marks Tryz.func44 rfl trivial ?_ hro
  simp only [Tryz.ntmps44, List.size_toArray, List.length_cons, List.length_nil, Nat.reduceAdd, Nat.reduceSub, Array.replicate_succ, Array.replicate_zero, List.push_toArray, List.append_toArray, List.nil_append, List.cons_append]
  have c0 := xt.cell 0
  simp at c0
  have HB0 := Lib.hid hB0
  gi_wp2_with (refine ⟨trivial, ?_⟩; gi_at_call 71; refine (callsIn_wide.2 hclone).mono ?_)
  clear c0 hclone
  rintro e w1 ⟨g, cap, rfl, ho, hb1⟩
  have xt := xt.belowAll hb1
  have xd := xd.belowAll hb1
  have xq := xq.belowAll hb1
  have hB1 := Below.then HB0.out hb1 HB0.out.size
  simp only [World.size_alloc] at ho
  have hg := (ho.lt g rfl)
  clear hB0 HB0 hb1
  have lt0 := xt.lt
  have f0 := xt.free 0
  have c0 := xt.cell 0
  simp at c0
  have xd2 := xd.setO (a := ⟨w.heap.size, 0, none⟩) (by simp) (.slice (some ⟨g, 0, none⟩) t.length cap)
  have c1 := (xt.set 0 (.slice (some ⟨g, 0, none⟩) t.length cap)).cell 0
  simp at c1
  gi_wp2_with (first
    | (refine wpListIn_load_mid rfl 39 (.tmp 4) rfl (w.heap.size + 1) 0 rfl cd.toList _ xd2.range Tryz.underlying39 rfl (by rw [sizeDg]; simp [Hcl.out]) ?_)
    | (refine ⟨trivial, ?_⟩; gi_at_call 72; refine (Hcells.out Fence.wide _ trivial hro _).mono ?_; rintro e w' ⟨rfl, rfl⟩))
  have xt2 := xt.set 0 (.slice (some ⟨g, 0, none⟩) t.length cap)
  have xq2 := xq.setO (a := ⟨w.heap.size, 0, none⟩) (by simp; omega) (.slice (some ⟨g, 0, none⟩) t.length cap)
  have ho2 := ownsRow_set ho (a := ⟨w.heap.size, 0, none⟩) (by simp [Value.ownBlock]; omega) (.slice (some ⟨g, 0, none⟩) t.length cap)
  have hB2 := below_set1 (b := w.heap.size) (k := 0) (v := .slice (some ⟨g, 0, none⟩) t.length cap) hB1 (Nat.le_refl _)
  have hz2 : (w1.setCell ⟨w.heap.size, 0, none⟩ (.slice (some ⟨g, 0, none⟩) t.length cap)).heap.size = w1.heap.size := by simp
  generalize w1.setCell ⟨w.heap.size, 0, none⟩ (.slice (some ⟨g, 0, none⟩) t.length cap) = w2 at *
  simp only [List.setIfInBounds_toArray, List.set_cons_zero] at xt2
  have yn := Bx.newAt (w2.alloc (.cells cd 39)) #[.int .i64 t.length] 3 (w1.heap.size + 1) (by simp [hz2])
  have yd := (Bx.newAt w2 cd 39 w1.heap.size hz2.symm).alloc (.cells #[.int .i64 t.length] 3)
  have xt3 := (xt2.alloc (.cells cd 39)).alloc (.cells #[.int .i64 t.length] 3)
  have xd3 := (xd2.alloc (.cells cd 39)).alloc (.cells #[.int .i64 t.length] 3)
  have xq3 := (xq2.alloc (.cells cd 39)).alloc (.cells #[.int .i64 t.length] 3)
  have ho3 := (ho2.alloc (.cells cd 39)).alloc (.cells #[.int .i64 t.length] 3)
  have hB3 := (hB2.alloc hB2.size (.cells cd 39)).alloc (by have := hB2.size; simp; omega) (.cells #[.int .i64 t.length] 3)
  have hz3 : ((w2.alloc (.cells cd 39)).alloc (.cells #[.int .i64 t.length] 3)).heap.size = w1.heap.size + 2 := by simp [hz2]
  generalize (w2.alloc (.cells cd 39)).alloc (.cells #[.int .i64 t.length] 3) = W0 at *
  have hgw : Hid (w.heap.size + 1 + 1 + 1 ≤ g ∧ g < w1.heap.size ∧ W0.heap.size = w1.heap.size + 2) := Lib.hid ⟨hg.1, hg.2, hz3⟩
  clear xt xd xq xt2 xd2 xq2 ho ho2 hB1 hB2 c0 c1 f0 hz2 lt0
  refine wpIn_rangeFunc_ownH hro hn1 (gf := 97) (lb := #[.pointer (some ⟨w1.heap.size + 1, 0, none⟩), .pointer (some ⟨w1.heap.size, 0, none⟩)]) rfl trivial (enters_of Tryz.func97 (by kernel_rfl) rfl)
    (cells_stops Fence.wide (nF - 1) trivial hro (by omega) d hd t.length hl3 hm (w1.heap.size + 1) w1.heap.size (fun b => b = w1.heap.size ∨ b = w1.heap.size + 1) (.inr rfl) (.inl rfl) W0 yn (by rw [Hcd.out]; exact yd)) KeepT.trans
    (fun W l o o' hl _ _ _ => KeepT.put W o' (by rintro (h | h) <;> omega)) (Below.refl _ _) (fun _ => rfl)
    (fun (pre : List (Fin 3)) W => W.ownsRow (w.heap.size + 1 + 1 + 1) 67 65 (.slice (some ⟨g, 0, none⟩) t.length cap) t.length (tabC ((pre.map Fin.val).foldl (putAt d q) t)).flatten ∧ Bx W w.heap.size #[.slice (some ⟨g, 0, none⟩) t.length cap] 24 ∧ Bx W (w.heap.size + 1) cd 39 ∧ Bx W (w.heap.size + 1 + 1) #[.int .i64 q] 3 ∧ Below w.heap.size w W)
    (fun _ _ _ => False)
    (fun s A B row hs hg' hr => ⟨ownsRow_own hs.1 hg' (fun r e => (hr r e).2), bx_own hs.2.1 hg' (fun r e => (hr r e).2), bx_own hs.2.2.1 hg' (fun r e => (hr r e).2), bx_own hs.2.2.2.1 hg' (fun r e => (hr r e).2), hs.2.2.2.2.grown hg' hs.2.2.2.2.size (fun k e => by have := (hr k e).1; omega)⟩)
    (fun c => fun _ _ _ _ h _ _ => h)
    ⟨ho3, xt3, xd3, xq3, hB3⟩
    (fun (x : Fin 3) a' _ => a' = { tmps := #[.slice o t.length c, .agg cd, .int .i64 q, .pointer (some ⟨w.heap.size, 0, none⟩), .pointer (some ⟨w.heap.size + 1, 0, none⟩), .pointer (some ⟨w.heap.size + 1 + 1, 0, none⟩), .slice none 0 0, .int .i64 (posN d t.length x.1), .slice o t.length c, .slice (some ⟨g, 0, none⟩) t.length cap, .agg cd, .slice (some ⟨g, 0, none⟩) t.length cap, .int .i64 t.length, .func (.func 97) #[] #[.pointer (some ⟨w1.heap.size + 1, 0, none⟩), .pointer (some ⟨w1.heap.size, 0, none⟩)], .int .i64 (posN d t.length x.1), undef, undef, undef, undef, undef, undef, undef, undef, undef, undef, undef, undef, undef, undef, undef, undef, undef, undef, undef, undef, undef, undef, undef, undef, undef, undef, undef], defers := [] })
    (fun x a' _ _ _ _ h _ _ => h)
    ?assign ?body ?done ?stop
  case assign =>
    intro l pre x W K hI hK
    gi_wp2
    exact hK _ _ (KeepsFrom.refl _ _) (KeepT.refl _ _) hI rfl
  case body =>
    rintro l pre ⟨x, hx3⟩ a' W hl hrec ⟨ho, xt, xd, xq, hB⟩ rfl hlt
    have hg := hgw.out
    have hgw2 := hgw
    obtain ⟨tt, htt⟩ : ∃ tt, (pre.map Fin.val).foldl (putAt d q) t = tt := ⟨_, rfl⟩
    have htl : tt.length = t.length := by rw [← htt]; exact foldP_len d q _ t
    have htk : Tok tt := by rw [← htt]; exact foldP_ok hd q _ hok.out
    have hnext : ((pre ++ [(⟨x, hx3⟩ : Fin 3)]).map Fin.val).foldl (putAt d q) t = putAt d q tt x := by rw [List.map_append, List.foldl_append, htt]; rfl
    rw [htt] at ho
    have hp := posN_lt (d := d) hx3 hl3
    have hpa : putAt d q tt x = tt.set (posN d t.length x) (addC (tt.getD (posN d t.length x) Cl.zero) d q) := by unfold putAt; rw [htl]
    have Hnext := Lib.hid (hnext.trans hpa)
    clear hnext hpa htt
    obtain ⟨p, hpe⟩ : ∃ p, posN d t.length x = p := ⟨_, rfl⟩
    rw [hpe] at hp Hnext
    rw [hpe]
    have hp' : (p : Int) < (t.length : Int) := by omega
    have hck := htk.get p
    have hrow : ∀ w', Below W.heap.size W w' → w'.rangeAt g (p * 65) (tt.getD p Cl.zero).cells := fun w' hb => by
      have ho' := ownsRow_belowAll ho hb
      obtain ⟨o', c', e', _, hr, _⟩ := ownsRow_at ho'
      obtain ⟨rfl, rfl⟩ : some (⟨g, 0, none⟩ : Addr) = o' ∧ cap = c' := by simpa using e'
      have hsg := hr.seg (tabC_len htk) (i := p) (by rw [tabC_size, htl]; exact hp)
      rw [Nat.zero_add] at hsg
      have e2 : (tabC tt)[p]'(by rw [tabC_size, htl]; exact hp) = (tt.getD p Cl.zero).cells := by simp [tabC, List.getD_eq_getElem?_getD, List.getElem?_eq_getElem (show p < tt.length by omega)]
      rw [e2] at hsg
      exact hsg
    generalize tt.getD p Cl.zero = ck at *
    have hr0 := hrow W (Below.refl _ _)
    have cN := Cl.count_at hr0
    have hkR := Cl.keys_at hck hr0
    have hsR := Cl.sums_at hck hr0
    have HkR := Lib.hid hkR
    have HsR := Lib.hid hsR
    have hxk : ∀ V, Calls Tryz.prog 46 #[dgV ck.k, .agg cd] V fun e w' => e = .returned (dgV (xorD ck.k d)) ∧ Below V.heap.size V w' := fun V => by
      have := sha_xor ck.k d hck.1 hd V
      rw [show dgV d = .agg cd by unfold dgV; rw [Hcd.out]] at this
      exact this
    have hxs : ∀ V, Calls Tryz.prog 46 #[dgV ck.s, dgV (sumL d)] V fun e w' => e = .returned (dgV (xorD ck.s (sumL d))) ∧ Below V.heap.size V w' := fun V => sha_xor ck.s (sumL d) hck.2 (sumL_len d) V
    have hxc : ∀ V, Calls Tryz.prog 73 #[.agg cd] V fun e w' => e = .returned (dgV (sumL d)) ∧ Below V.heap.size V w' := fun V => by
      have := iblt_check d hd V
      rw [show dgV d = .agg cd by unfold dgV; rw [Hcd.out]] at this
      exact this
    have Hxk := Lib.hid hxk
    have Hxs := Lib.hid hxs
    have Hxc := Lib.hid hxc
    have hbd := run_buildCl (wrap64 (ck.n + q)) (xorD ck.k d) (xorD ck.s (sumL d)) (xorD_len hck.1 hd) (xorD_len hck.2 (sumL_len d))
    have Hbd := Lib.hid hbd
    have Hck := Lib.hid hck
    have Hrow := Lib.hid hrow
    have Htl := Lib.hid htl
    have Htk := Lib.hid htk
    have Ho := Lib.hid ho
    have hkl : (bytesV ck.k).length = 32 := by rw [bytesV_len, hck.1]
    have hsl : (bytesV ck.s).length = 32 := by rw [bytesV_len, hck.2]
    have Hkl := Lib.hid hkl
    have Hsl := Lib.hid hsl
    have lg : g < W.heap.size := (ho.lt g rfl).2
    have ct := xt.cell 0
    have cq := xq.cell 0
    simp at ct cq
    have lt := xt.lt
    have ld := xd.lt
    have lq := xq.lt
    clear hxk hxs hxc hbd hck hrow htl htk ho hkl hsl hkR hsR hr0 hpe hg hgw
    have cQ := Lat.cells W
    gi_wp2
    refine wpIn_region_lz (lets_round _ l) 26 1 #[true, true, true, true, true, true, true, true, true, true, true, true, true, true, true, true, true, true, true, true, true, true, true, true, true, true, false] (fun i => if i = 15 then some (annK (dgV (xorD ck.k d))) else if i = 22 then some (annK (dgV (sumL d))) else if i = 23 then some (annK (dgV (xorD ck.s (sumL d)))) else if i = 24 then some (annK (Cl.V ⟨wrap64 (ck.n + q), xorD ck.k d, xorD ck.s (sumL d)⟩)) else none) (by kernel_rfl) (by rfl) (by rfl) (by kernel_rfl) ?_
    simp only [List.take_succ_cons, List.take_zero]
    refine LW.block 15 15 (by rfl) (by kernel_rfl) (by kernel_rfl) ?_
    simp only [List.take_succ_cons, List.take_zero, List.drop_succ_cons, List.drop_zero]
    repeat (first | go_big_quiet_skip | (go_big_quiet_want; first | ((first | (refine quiet_load_row 39 (.tmp 27) rfl g (p * 65 + 1) rfl (bytesV ck.k) _ (lat_range HkR.out lg) Tryz.underlying39 rfl (by rw [sizeDg, Hkl.out]) ?_) | (refine quiet_load_row 39 (.tmp 4) rfl (w.heap.size + 1) 0 rfl cd.toList _ (lat_range xd.range ld) Tryz.underlying39 rfl (by rw [sizeDg]; simp [Hcl.out]) ?_)); simp only [Act.put, List.setIfInBounds_toArray, List.set_cons_zero, List.set_cons_succ]; go_big_quiet_on) | (go_big_quiet_op; go_big_quiet_on)))
    refine wpQuiet_nil ?_
    refine LW.lzy _ (by rfl) (by rfl) ?_ ?_
    · intro yL _
      unfold lzAt
      go_simp
      exact lz_constB (Hxk.out _)
    intro _
    simp only [Act.put, List.setIfInBounds_toArray, List.set_cons_zero, List.set_cons_succ]
    (try simp only [annK])
    refine LW.block 6 22 (by rfl) (by kernel_rfl) (by kernel_rfl) ?_
    simp only [List.take_succ_cons, List.take_zero, List.drop_succ_cons, List.drop_zero]
    repeat (first | go_big_quiet_skip | (go_big_quiet_want; first | ((first | (refine quiet_load_row 39 (.tmp 34) rfl g (p * 65 + 33) rfl (bytesV ck.s) _ (lat_range HsR.out lg) Tryz.underlying39 rfl (by rw [sizeDg, Hsl.out]) ?_) | (refine quiet_load_row 39 (.tmp 4) rfl (w.heap.size + 1) 0 rfl cd.toList _ (lat_range xd.range ld) Tryz.underlying39 rfl (by rw [sizeDg]; simp [Hcl.out]) ?_)); simp only [Act.put, List.setIfInBounds_toArray, List.set_cons_zero, List.set_cons_succ]; go_big_quiet_on) | (go_big_quiet_op; go_big_quiet_on)))
    refine wpQuiet_nil ?_
    refine LW.lzy _ (by rfl) (by rfl) ?_ ?_
    · intro yL _
      unfold lzAt
      go_simp
      exact lz_constB (Hxc.out _)
    intro _
    simp only [Act.put, List.setIfInBounds_toArray, List.set_cons_zero, List.set_cons_succ]
    (try simp only [annK])
    refine LW.lzy _ (by rfl) (by rfl) ?_ ?_
    · intro yL _
      unfold lzAt
      go_simp
      exact lz_constB (Hxs.out _)
    intro _
    simp only [Act.put, List.setIfInBounds_toArray, List.set_cons_zero, List.set_cons_succ]
    (try simp only [annK])
    refine LW.lzy _ (by rfl) (by rfl) ?_ ?_
    · intro yL _
      exact lz_value (exec_build 67 _ rfl #[(0, .int .i64 (wrap64 (ck.n + q))), (1, dgV (xorD ck.k d)), (2, dgV (xorD ck.s (sumL d)))] (by kernel_rfl) (Hbd.out _))
    intro _
    simp only [Act.put, List.setIfInBounds_toArray, List.set_cons_zero, List.set_cons_succ]
    (try simp only [annK])
    refine LW.block 1 26 (by rfl) (by kernel_rfl) (by kernel_rfl) ?_
    simp only [List.take_succ_cons, List.take_zero, List.drop_succ_cons, List.drop_zero]
    repeat (first | go_big_quiet_skip | (go_big_quiet_want; go_big_quiet_op; go_big_quiet_on))
    refine wpQuiet_nil ?_
    refine LW.done ?_
    intro W' hG
    have ho2 := ownsRow_belowAll Ho.out hG.below
    have hcl2 : (Cl.cells ⟨wrap64 (ck.n + q), xorD ck.k d, xorD ck.s (sumL d)⟩).length = 65 := Cl.len (addC_ok Hck.out hd q)
    have ho2' : W'.ownsRow (w.heap.size + 1 + 1 + 1) 67 65 (.slice (some ⟨g, 0, none⟩) (tabC tt).length cap) (tabC tt).length (tabC tt).flatten := by rw [tabC_size, Htl.out]; exact ho2
    obtain ⟨hset, hthere⟩ := ownsRow_seg (tabC_len Htk.out) ho2' (i := p) (by rw [tabC_size, Htl.out]; exact hp) hcl2 (by decide)
    rw [tabC_set, tabC_size, Htl.out] at hset
    have xt2 := xt.belowAll hG.below
    have xd2 := xd.belowAll hG.below
    have xq2 := xq.belowAll hG.below
    have hB2 := Below.then hB hG.below hB.size
    have hzz := hgw2.out
    refine wpAnyIn_one 26 (by kernel_rfl) (by rfl) (by rfl) (by kernel_rfl) ?_
    refine wpIn_store_mid 67 (.tmp 40) (.tmp 39) rfl g (p * 65) (Cl.cells ⟨wrap64 (ck.n + q), xorD ck.k d, xorD ck.s (sumL d)⟩).toArray rfl rfl (by rw [List.size_toArray, hcl2]; exact hthere) (by rw [sizeCl, List.size_toArray, hcl2]) (Cl.one _) ?_
    clear cQ
    have hk0 : KeepsOthers W W' := KeepsOthers.of_below hG.below (Nat.le_refl _)
    have hkT : KeepT (fun b => b = w1.heap.size ∨ b = w1.heap.size + 1) W W' := KeepT.of_below hG.below (Nat.le_refl _)
    gi_wp2
    refine ⟨(hk0.trans (KeepsOthers.setCells _ _ _)).from _, hkT.trans (KeepT.setCells (by rintro (h | h) <;> omega) _ _ _), ?_, xt2.setCellsO (by omega) _ _, xd2.setCellsO (by omega) _ _, xq2.setCellsO (by omega) _ _, below_setCells (by omega) _ _ _ hB2⟩
    rw [Hnext.out]
    exact hset
  case done =>
    rintro D ys W hD rfl ⟨ho, xt, xd, xq, hB⟩ hK
    have ct := xt.cell 0
    simp at ct
    have hput : ((parts 3).map Fin.val).foldl (putAt d q) t = putT t d q := rfl
    rw [hput] at ho
    gi_wp2
    refine ⟨by simp, .inl ⟨_, _, rfl, run_takeDeferred hK, ?_⟩⟩
    refine ⟨.slice (some ⟨g, 0, none⟩) t.length cap, by simp [results, Tryz.results44, go_sem], g, cap, rfl, ?_, hB.trans (belowK_b (w := w) (Nat.le_refl _) _ D _ _ (by have := hB.size; omega) hK rfl rfl)⟩
    have ho4 := ownsRow_own ho (grownBy_putObj' _ D (.deferred none)) (fun r e => by cases e; exact ⟨_, hK, rfl⟩)
    rcases ho4 with ⟨l1, l2⟩
    refine ⟨l1, ?_⟩
    rcases l2 with h | ⟨g', cap', cur, e1, e2, e3⟩
    · exact .inl h
    · exact .inr ⟨g', cap', cur, e1, by omega, e3⟩
  case stop =>
    rintro D c pre W hD _ h
    exact h.elim
end
end Go.Proofs.YtebgopdmeghmhaaGreat
