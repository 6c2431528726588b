/- iblt.Insert. -/
import Derived.Test.YtfligkncdlocaaaIbPure
namespace Go.Proofs.Ytfligkncdlocaaa
open Go.RowKit Go.Shelf

/-- the three cells of a digest hold counts -/
def fitB (t : List Cl) (d : List UInt8) : Bool := (List.range 3).all fun p => countsB (t.getD (posN d t.length p) Cl.zero).n
def insT (t : List Cl) (d : List UInt8) : List Cl × Int := if checkT t = 0 then (if fitB (putT t d 1) d then (putT t d 1, 0) else ([], 4)) else ([], checkT t)
theorem checkT_cases (t : List Cl) : checkT t = 0 ∨ checkT t = 2 := by
  unfold checkT
  split
  · split <;> simp
  · simp
theorem checkT_len {t : List Cl} (h : checkT t = 0) : allowedB t.length = true ∧ t.any (fun c => !countsB c.n) = false := by
  unfold checkT at h
  cases ha : allowedB (t.length : Int)
  · rw [ha] at h; simp at h
  · rw [ha] at h
    cases hk : t.any (fun c => !countsB c.n)
    · exact ⟨rfl, rfl⟩
    · rw [hk] at h; simp at h
/-- what a call hands back: a table of its own, an error -/
def TabE (w : World) (x : List Cl × Int) (e : Ending) (w' : World) : Prop := ∃ v, e = .returned (.tuple #[v, .int .i64 x.2]) ∧ TabR (fun b => w.heap.size ≤ b ∧ b < w'.heap.size) w' v x.1 ∧ Below w.heap.size w w'
theorem TabR.nil0 (S : Nat → Prop) (w : World) : TabR S w (.slice none 0 0) [] := ⟨RowsR.nil S w, fun _ h => by cases h⟩
theorem TabR.owns {w : World} {base : Nat} {v : Value} {t : List Cl} (h : w.ownsRow base 50 65 v t.length (tabC t).flatten) (hok : Tok t) : TabR (fun b => base ≤ b ∧ b < w.heap.size) w v t := ⟨RowsR.owns (by rw [tabC_size]; exact h), hok⟩
section
attribute [local go_sem] Oper.semAt_some
set_option maxRecDepth 100000 in
set_option maxHeartbeats 1600000 in
theorem iblt_Insert {S : Nat → Prop} (w : World) (v : Value) (t : List Cl) (d : List UInt8) (h : TabR S w v t) (hm : t.length ≤ 1000000) (hd : d.length = 32) :
    Calls Try.prog 16 #[v, dgV d] w (TabE w (insT t d)) := by
  obtain ⟨o, c, rfl⟩ : ∃ o c, v = .slice o t.length c := by obtain ⟨⟨o, c, e, _⟩, _⟩ := h; rw [tabC_size] at e; exact ⟨o, c, e⟩
  obtain ⟨cd, hcd⟩ : ∃ c, (bytesV d).toArray = c := ⟨_, rfl⟩
  have hcl : cd.size = 32 := by rw [← hcd]; simp [bytesV, hd]
  have hdg : dgV d = .agg cd := by unfold dgV; rw [hcd]
  have hcells := fun F nF hF hro => cells_in F nF hF hro d (t.length : Int)
  rw [hdg] at hcells ⊢
  rw [hcd] at hcells
  have hB0 := (((Below.one w (.cells #[.slice o t.length c] 23)).alloc (by simp) (.cells cd 31)).alloc (by simp; omega) (.cells #[.slice none 0 0] 23)).alloc (by simp; omega) (.cells #[.int .i64 0] 32)
  have xt := (((Bx.new w #[.slice o t.length c] 23).alloc (.cells cd 31)).alloc (.cells #[.slice none 0 0] 23)).alloc (.cells #[.int .i64 0] 32)
  have xd := ((Bx.new (w.alloc (.cells #[.slice o t.length c] 23)) cd 31).alloc (.cells #[.slice none 0 0] 23)).alloc (.cells #[.int .i64 0] 32)
  have xr := (Bx.new ((w.alloc (.cells #[.slice o t.length c] 23)).alloc (.cells cd 31)) #[.slice none 0 0] 23).alloc (.cells #[.int .i64 0] 32)
  have xe := Bx.new (((w.alloc (.cells #[.slice o t.length c] 23)).alloc (.cells cd 31)).alloc (.cells #[.slice none 0 0] 23)) #[.int .i64 0] 32
  simp only [World.size_alloc] at xd xr xe
  have hb4 : Below w.heap.size w ((((w.alloc (.cells #[.slice o t.length c] 23)).alloc (.cells cd 31)).alloc (.cells #[.slice none 0 0] 23)).alloc (.cells #[.int .i64 0] 32)) := hB0
  have h1 := h.below hb4
  have hchk := iblt_Check _ _ t h1 hm
  have Hcells := Lib.hid hcells
  have Hcl := Lib.hid hcl
  have Hcd := Lib.hid hcd
  have Hdg := Lib.hid hdg
  have H1 := Lib.hid h1
  have Hchk := Lib.hid hchk
  have c0 := xt.cell 0
  simp at c0
  have lt0 := xt.lt
  clear hcells hcl hcd hdg h h1 hb4 hchk
  obtain ⟨nF, hn⟩ : ∃ n, 9 ≤ n := ⟨9, Nat.le_refl _⟩
  refine (callsIn_wide (n := nF)).1 ?_
  have hro : Fence.wide.round = none := rfl
  have hn1 : 1 ≤ nF := by omega
  refine callsIn_of_wp_marks Try.func16 rfl trivial ?_ hro
  simp only [Try.ntmps16, List.size_toArray, List.length_cons, List.length_nil, Nat.reduceAdd, Nat.reduceSub, Array.replicate_succ, Array.replicate_zero, List.push_toArray, List.append_toArray, List.nil_append, List.cons_append]
  gi_wp2_with (refine ⟨trivial, ?_⟩; gi_at_call 19; refine (callsIn_wide.2 Hchk.out).mono ?_)
  rintro e w1 ⟨rfl, hb1⟩
  have xt := xt.belowAll hb1
  have xd := xd.belowAll hb1
  have xr := xr.belowAll hb1
  have xe := xe.belowAll hb1
  have hB1 := Below.then hB0 hb1 hB0.size
  have h2 := H1.out.below hb1
  clear c0 lt0 hB0 hb1
  have c0 := xt.cell 0
  have cr := xr.cell 0
  have ce := xe.cell 0
  have fr := xr.free 0
  have fe := xe.free 0
  have lr := xr.lt
  have le := xe.lt
  have lt0 := xt.lt
  have ld := xd.lt
  simp at c0 cr ce
  rcases checkT_cases t with hck | hck
  · have hal := allowedB_iff.1 (checkT_len hck).1
    have hl3 : 3 ≤ t.length := by omega
    have hput := iblt_put w1 _ t d 1 h2 hl3 hm hd
    rw [Hdg.out] at hput
    have Hput := Lib.hid hput
    have hpl := putT_len t d 1
    have hpok := putT_ok h2.2 hd 1
    rw [hck]
    have Hck := Lib.hid hck
    clear hput hal hck
    gi_wp2_with (first
      | (refine wpListIn_load_mid rfl 31 (.tmp 3) rfl (w.heap.size + 1) 0 rfl cd.toList _ xd.range Try.underlying31 rfl (by rw [sizeDg]; simp [Hcl.out]) ?_)
      | (refine ⟨trivial, ?_⟩; gi_at_call 29; refine (callsIn_wide.2 Hput.out).mono ?_))
    rintro e w2 ⟨g, cap, rfl, ho, hb2⟩
    have hg := ho.lt g rfl
    have xt2 := xt.belowAll hb2
    have xd2 := (xd.belowAll hb2).setO (a := ⟨w.heap.size, 0, none⟩) (by simp) (.slice (some ⟨g, 0, none⟩) t.length cap)
    have xr2 := (xr.belowAll hb2).setO (a := ⟨w.heap.size, 0, none⟩) (by simp; omega) (.slice (some ⟨g, 0, none⟩) t.length cap)
    have xe2 := (xe.belowAll hb2).setO (a := ⟨w.heap.size, 0, none⟩) (by simp; omega) (.slice (some ⟨g, 0, none⟩) t.length cap)
    have ho2 := ownsRow_set ho (a := ⟨w.heap.size, 0, none⟩) (by simp [Value.ownBlock]; omega) (.slice (some ⟨g, 0, none⟩) t.length cap)
    have hB2 := below_set1 (b := w.heap.size) (k := 0) (v := .slice (some ⟨g, 0, none⟩) t.length cap) (Below.then hB1 hb2 hB1.size) (Nat.le_refl _)
    clear c0 cr ce fr fe lr le ld lt0
    have c0 := xt2.cell 0
    have f0 := xt2.free 0
    have lt0 := xt2.lt
    have hw1 : w.heap.size + 4 ≤ w1.heap.size := by have := xe.lt; omega
    have xt3 := xt2.set 0 (.slice (some ⟨g, 0, none⟩) t.length cap)
    have c1 := xt3.cell 0
    simp at c0 c1
    simp only [List.setIfInBounds_toArray, List.set_cons_zero] at xt3
    gi_wp2_with (first
      | (refine wpListIn_load_mid rfl 31 (.tmp 3) rfl (w.heap.size + 1) 0 rfl cd.toList _ xd2.range Try.underlying31 rfl (by rw [sizeDg]; simp [Hcl.out]) ?_)
      | (refine ⟨trivial, ?_⟩; gi_at_call 38; refine (Hcells.out Fence.wide _ trivial hro _).mono ?_; rintro e w' ⟨rfl, rfl⟩))
    have hz2 : (w2.setCell ⟨w.heap.size, 0, none⟩ (.slice (some ⟨g, 0, none⟩) t.length cap)).heap.size = w2.heap.size := by simp
    generalize w2.setCell ⟨w.heap.size, 0, none⟩ (.slice (some ⟨g, 0, none⟩) t.length cap) = w3 at *
    have yn := Bx.newAt (w3.alloc (.cells cd 31)) #[.int .i64 t.length] 3 (w2.heap.size + 1) (by simp [hz2])
    have yd := (Bx.newAt w3 cd 31 w2.heap.size hz2.symm).alloc (.cells #[.int .i64 t.length] 3)
    have xt4 := (xt3.alloc (.cells cd 31)).alloc (.cells #[.int .i64 t.length] 3)
    have xr4 := (xr2.alloc (.cells cd 31)).alloc (.cells #[.int .i64 t.length] 3)
    have xe4 := (xe2.alloc (.cells cd 31)).alloc (.cells #[.int .i64 t.length] 3)
    have ho4 := (ho2.alloc (.cells cd 31)).alloc (.cells #[.int .i64 t.length] 3)
    have hB4 := (hB2.alloc hB2.size (.cells cd 31)).alloc (by have := hB2.size; simp; omega) (.cells #[.int .i64 t.length] 3)
    have hz4 : ((w3.alloc (.cells cd 31)).alloc (.cells #[.int .i64 t.length] 3)).heap.size = w2.heap.size + 2 := by simp [hz2]
    generalize (w3.alloc (.cells cd 31)).alloc (.cells #[.int .i64 t.length] 3) = W0 at *
    have hgw : Hid (w1.heap.size ≤ g ∧ g < w2.heap.size ∧ W0.heap.size = w2.heap.size + 2) := Lib.hid ⟨hg.1, hg.2, hz4⟩
    have hw2 := hb2.size
    clear xt3 xt2 xd2 xr2 xe2 ho ho2 hB2 c0 c1 f0 hz2 lt0
    refine wpIn_rangeFunc_ownH hro hn1 (gf := 54) (lb := #[.pointer (some ⟨w2.heap.size + 1, 0, none⟩), .pointer (some ⟨w2.heap.size, 0, none⟩)]) rfl trivial (enters_of Try.func54 (by kernel_rfl) rfl)
      (cells_stops Fence.wide (nF - 1) trivial hro (by omega) d hd t.length hl3 hm (w2.heap.size + 1) w2.heap.size (fun b => b = w2.heap.size ∨ b = w2.heap.size + 1) (.inr rfl) (.inl rfl) W0 yn (by rw [Hcd.out]; exact yd)) KeepT.trans
      (fun W l o o' hl _ _ _ => KeepT.put W o' (by rintro (h | h) <;> omega)) (Below.refl _ _) (fun _ => rfl)
      (fun (pre : List (Fin 3)) W => (∀ p ∈ pre, countsB ((putT t d 1).getD (posN d t.length p.1) Cl.zero).n = true) ∧ W.ownsRow w1.heap.size 50 65 (.slice (some ⟨g, 0, none⟩) t.length cap) t.length (tabC (putT t d 1)).flatten ∧ Bx W w.heap.size #[.slice (some ⟨g, 0, none⟩) t.length cap] 23 ∧ Bx W (w.heap.size + 1 + 1) #[.slice none 0 0] 23 ∧ Bx W (w.heap.size + 1 + 1 + 1) #[.int .i64 0] 32 ∧ Below w.heap.size w W)
      (fun cc (pre : List (Fin 3)) W => cc = .ret ∧ (∃ p ∈ pre, countsB ((putT t d 1).getD (posN d t.length p.1) Cl.zero).n = false) ∧ Bx W (w.heap.size + 1 + 1) #[.slice none 0 0] 23 ∧ Bx W (w.heap.size + 1 + 1 + 1) #[.int .i64 4] 32 ∧ Below w.heap.size w W)
      (fun s A B row hs hg' hr => ⟨hs.1, ownsRow_own hs.2.1 hg' (fun r e => (hr r e).2), bx_own hs.2.2.1 hg' (fun r e => (hr r e).2), bx_own hs.2.2.2.1 hg' (fun r e => (hr r e).2), bx_own hs.2.2.2.2.1 hg' (fun r e => (hr r e).2), hs.2.2.2.2.2.grown hg' hs.2.2.2.2.2.size (fun k e => by have := (hr k e).1; omega)⟩)
      (fun cc => fun s A B row hs hg' hr => ⟨hs.1, hs.2.1, bx_own hs.2.2.1 hg' (fun r e => (hr r e).2), bx_own hs.2.2.2.1 hg' (fun r e => (hr r e).2), hs.2.2.2.2.grown hg' hs.2.2.2.2.size (fun k e => by have := (hr k e).1; omega)⟩)
      ⟨by simp, ho4, xt4, xr4, xe4, hB4⟩
      (fun (x : Fin 3) a' _ => a' = { tmps := #[.slice o t.length c, .agg cd, .pointer (some ⟨w.heap.size, 0, none⟩), .pointer (some ⟨w.heap.size + 1, 0, none⟩), .pointer (some ⟨w.heap.size + 1 + 1, 0, none⟩), .pointer (some ⟨w.heap.size + 1 + 1 + 1, 0, none⟩), .int .i64 0, .int .i64 (posN d t.length x.1), .slice o t.length c, .int .i64 0, .int .i64 0, .bool false, undef, .slice o t.length c, .agg cd, .slice (some ⟨g, 0, none⟩) t.length cap, .agg cd, .slice (some ⟨g, 0, none⟩) t.length cap, .int .i64 t.length, .func (.func 54) #[] #[.pointer (some ⟨w2.heap.size + 1, 0, none⟩), .pointer (some ⟨w2.heap.size, 0, none⟩)], .int .i64 (posN d t.length x.1), undef, undef, undef, undef, undef, undef, undef, undef], defers := [] })
      (fun x a' _ _ _ _ h _ _ => h)
      ?assign ?body ?done ?stop
    case assign =>
      intro l pre x W K hI hK
      gi_wp2
      exact hK _ _ (KeepsFrom.refl _ _) (KeepT.refl _ _) hI rfl
    case body =>
      rintro l pre x a' W hl hrec ⟨hne, ho, xt, xr, xe, hB⟩ rfl hlt
      have hg := hgw.out
      have hp := posN_lt (d := d) x.2 hl3
      obtain ⟨p, hpe⟩ : ∃ p, posN d t.length x.1 = p := ⟨_, rfl⟩
      have hp' : (p : Int) < (t.length : Int) := by omega
      have hrow : W.rangeAt g (p * 65) ((putT t d 1).getD p Cl.zero).cells := by
        obtain ⟨o', c', e', _, hr, _⟩ := ownsRow_at ho
        obtain ⟨rfl, rfl⟩ : some (⟨g, 0, none⟩ : Addr) = o' ∧ cap = c' := by simpa using e'
        have hsg := hr.seg (tabC_len hpok) (i := p) (by rw [tabC_size, hpl]; omega)
        rw [Nat.zero_add] at hsg
        have e2 : (tabC (putT t d 1))[p]'(by rw [tabC_size, hpl]; omega) = ((putT t d 1).getD p Cl.zero).cells := by simp [tabC, List.getD_eq_getElem?_getD, List.getElem?_eq_getElem (show p < (putT t d 1).length by rw [hpl]; omega)]
        rw [e2] at hsg
        exact hsg
      have cN := Cl.count_at hrow
      have Hpe := Lib.hid hpe
      rw [hpe]
      clear hrow hpe
      obtain ⟨cn, hcn⟩ : ∃ n, ((putT t d 1).getD p Cl.zero).n = n := ⟨_, rfl⟩
      rw [hcn] at cN
      have Hcn := Lib.hid hcn
      clear hcn
      have lg := (ho.lt g rfl).2
      have c0 := xt.cell 0
      have cr := xr.cell 0
      have ce := xe.cell 0
      have fr := xr.free 0
      have fe := xe.free 0
      have lr := xr.lt
      have le := xe.lt
      have lt0 := xt.lt
      simp at c0 cr ce
      gi_wp2_with fail
      refine ⟨trivial, fun h => (by simp [Fence.wide] at h), ?_⟩
      refine (CallsIn.inRound l (callsIn_wide.2 (iblt_counts cn _))).mono ?_
      rintro e w' ⟨rfl, rfl⟩
      cases hk : countsB cn
      · gi_wp2
        refine ⟨((KeepsOthers.setCell _ _ _).trans (KeepsOthers.setCell _ _ _)).from _, rfl, ⟨x, by simp, by rw [Hpe.out, Hcn.out, hk]⟩, ?_, ?_, below_set1 (b := w.heap.size + 1 + 1 + 1) (below_set1 (b := w.heap.size + 1 + 1) hB (by omega)) (by omega)⟩
        · simpa using (xr.set 0 (.slice none 0 0)).setO (a := ⟨w.heap.size + 1 + 1 + 1, 0, none⟩) (by simp) (.int .i64 4)
        · simpa using (xe.setO (a := ⟨w.heap.size + 1 + 1, 0, none⟩) (by simp) (.slice none 0 0)).set 0 (.int .i64 4)
      · gi_wp2
        exact ⟨KeepsFrom.refl _ _, KeepT.refl _ _, fun p' hp' => (List.mem_append.1 hp').elim (hne p') (fun e => by simp at e; subst e; rw [Hpe.out, Hcn.out, hk]), ho, xt, xr, xe, hB⟩
    case done =>
      rintro D ys W hD rfl ⟨hne, ho, xt, xr, xe, hB⟩ hK
      have hg := hgw.out
      have hres : insT t d = (putT t d 1, 0) := by
        unfold insT
        rw [Hck.out]
        have : fitB (putT t d 1) d = true := by
          unfold fitB
          rw [List.all_eq_true]
          intro p hp
          have := hne ⟨p, List.mem_range.1 hp⟩ (mem_parts _)
          rw [hpl]; exact this
        rw [this]; rfl
      have Hres := Lib.hid hres
      clear hres
      have c0 := xt.cell 0
      have cr := xr.cell 0
      have ce := xe.cell 0
      have fr := xr.free 0
      have fe := xe.free 0
      have lr := xr.lt
      have le := xe.lt
      have lt0 := xt.lt
      simp at c0 cr ce
      gi_wp2
      have hK' := ((KeepsOthers.setCell W ⟨w.heap.size + 1 + 1, 0, none⟩ (.slice (some ⟨g, 0, none⟩) t.length cap)).trans (KeepsOthers.setCell _ ⟨w.heap.size + 1 + 1 + 1, 0, none⟩ (.int .i64 0))).same D _ hK rfl
      have hB' := below_set1 (b := w.heap.size + 1 + 1 + 1) (k := 0) (v := .int .i64 0) (below_set1 (b := w.heap.size + 1 + 1) (k := 0) (v := .slice (some ⟨g, 0, none⟩) t.length cap) hB (by omega)) (by omega)
      have ho' := ownsRow_set (ownsRow_set ho (a := ⟨w.heap.size + 1 + 1, 0, none⟩) (by simp [Value.ownBlock]; omega) (.slice (some ⟨g, 0, none⟩) t.length cap)) (a := ⟨w.heap.size + 1 + 1 + 1, 0, none⟩) (by simp [Value.ownBlock]; omega) (.int .i64 0)
      have xr' := (xr.set 0 (.slice (some ⟨g, 0, none⟩) t.length cap)).setO (a := ⟨w.heap.size + 1 + 1 + 1, 0, none⟩) (by simp) (.int .i64 0)
      have xe' := (xe.setO (a := ⟨w.heap.size + 1 + 1, 0, none⟩) (by simp) (.slice (some ⟨g, 0, none⟩) t.length cap)).set 0 (.int .i64 0)
      refine ⟨by simp, .inl ⟨_, _, rfl, run_takeDeferred hK', ?_⟩⟩
      have c5 := (bx_own xr' (grownBy_putObj' _ D (.deferred none)) (fun r e => by cases e; exact ⟨_, hK', rfl⟩)).cell 0
      have c6 := (bx_own xe' (grownBy_putObj' _ D (.deferred none)) (fun r e => by cases e; exact ⟨_, hK', rfl⟩)).cell 0
      have ho5 := ownsRow_own ho' (grownBy_putObj' _ D (.deferred none)) (fun r e => by cases e; exact ⟨_, hK', rfl⟩)
      simp at c5 c6
      refine ⟨.tuple #[.slice (some ⟨g, 0, none⟩) t.length cap, .int .i64 0], ?_, .slice (some ⟨g, 0, none⟩) t.length cap, by rw [Hres.out], (by rw [Hres.out]; refine (TabR.owns (by rw [hpl]; exact ho5) hpok).mono fun b hb => ?_; exact ⟨by omega, hb.2⟩), hB'.trans (belowK_b (w := w) (Nat.le_refl _) _ D _ _ (by have := hB4.size; omega) hK' rfl rfl)⟩
      simp [results, Try.results16, go_sem, c5, c6]
    case stop =>
      rintro D cc pre W hD _ ⟨rfl, ⟨p, hp, hpi⟩, xr, xe, hB⟩ hK
      have hres : insT t d = ([], 4) := by
        unfold insT
        rw [Hck.out]
        have : fitB (putT t d 1) d = false := by
          unfold fitB
          rw [List.all_eq_false]
          exact ⟨p.1, List.mem_range.2 p.2, by rw [hpl, hpi]; simp⟩
        rw [this]; rfl
      have Hres := Lib.hid hres
      clear hres
      gi_wp2
      refine ⟨by simp, .inl ⟨_, _, rfl, run_takeDeferred hK, ?_⟩⟩
      have c5 := (bx_own xr (grownBy_putObj' _ D (.deferred none)) (fun r e => by cases e; exact ⟨_, hK, rfl⟩)).cell 0
      have c6 := (bx_own xe (grownBy_putObj' _ D (.deferred none)) (fun r e => by cases e; exact ⟨_, hK, rfl⟩)).cell 0
      simp at c5 c6
      refine ⟨.tuple #[.slice none 0 0, .int .i64 4], ?_, .slice none 0 0, by rw [Hres.out], by rw [Hres.out]; exact TabR.nil0 _ _, hB.trans (belowK_b (w := w) (Nat.le_refl _) _ D _ _ (by have := hB4.size; omega) hK rfl rfl)⟩
      simp [results, Try.results16, go_sem, c5, c6]
  · have hne : insT t d = ([], 2) := by unfold insT; rw [hck]; rfl
    rw [hck]
    have Hne := Lib.hid hne
    clear hck hne
    gi_wp2
    have xr' := (xr.set 0 (.slice none 0 0)).setO (a := ⟨w.heap.size + 1 + 1 + 1, 0, none⟩) (by simp) (.int .i64 2)
    have xe' := (xe.setO (a := ⟨w.heap.size + 1 + 1, 0, none⟩) (by simp) (.slice none 0 0)).set 0 (.int .i64 2)
    have c5 := xr'.cell 0
    have c6 := xe'.cell 0
    simp at c5 c6
    refine ⟨.tuple #[.slice none 0 0, .int .i64 2], ?_, .slice none 0 0, by rw [Hne.out], by rw [Hne.out]; exact TabR.nil0 _ _, below_set1 (b := w.heap.size + 1 + 1 + 1) (below_set1 (b := w.heap.size + 1 + 1) hB1 (by omega)) (by omega)⟩
    simp [results, Try.results16, go_sem, c5, c6]
end
end Go.Proofs.Ytfligkncdlocaaa
