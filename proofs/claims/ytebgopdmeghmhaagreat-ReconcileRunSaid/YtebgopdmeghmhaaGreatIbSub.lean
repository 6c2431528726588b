/- iblt.Of and quiltref47.Of. iblt.Subtract. -/
import Derived.Test.YtebgopdmeghmhaaGreatIbIns
import Derived.Test.YtebgopdmeghmhaaGreatRfPure
namespace Go.Proofs.YtebgopdmeghmhaaGreat
open Go.RowKit

/-- the table of some digests -/
def ofFold (t : List Cl) (l : List (List UInt8)) : List Cl := l.foldl (fun t d => putT t d 1) t
def ofT (n : Int) (l : List (List UInt8)) : List Cl × Int := if allowedB n then (ofFold (newT n) l, 0) else ([], 2)
theorem ofFold_len (l : List (List UInt8)) : ∀ t, (ofFold t l).length = t.length := by
  induction l with
  | nil => intro t; rfl
  | cons d l ih => intro t; show (ofFold (putT t d 1) l).length = _; rw [ih, putT_len]
theorem ofFold_ok {l : List (List UInt8)} (hl : Dok l) : ∀ {t}, Tok t → Tok (ofFold t l) := by
  induction l with
  | nil => intro t h; exact h
  | cons d l ih => intro t h; exact ih (fun x hx => hl x (by simp [hx])) (putT_ok h (hl d (by simp)) 1)
theorem ofFold_snoc (t : List Cl) (l : List (List UInt8)) (d : List UInt8) : ofFold t (l ++ [d]) = putT (ofFold t l) d 1 := by simp [ofFold]
theorem newT_ok (n : Int) : Tok (newT n) := by
  unfold newT
  split
  · exact Tok.rep _
  · intro c hc; cases hc
set_option maxRecDepth 100000 in
set_option maxHeartbeats 1600000 in
theorem iblt_Of {S : Nat → Prop} (w : World) (v : Value) (n : Int) (l : List (List UInt8)) (h : DigR S w v l) (hl : l.length ≤ 1000000) :
    Calls Tryz.prog 19 #[.int .i64 n, v] w (TabE w (ofT n l)) := by
  obtain ⟨o, c, rfl⟩ : ∃ o c, v = .slice o l.length c := by obtain ⟨⟨o, c, e, _⟩, _⟩ := h; rw [digC_size] at e; exact ⟨o, c, e⟩
  obtain ⟨z, hz⟩ : ∃ z : Array Value, Array.replicate 32 (Value.int .u8 0) = z := ⟨_, rfl⟩
  have hz0 := zeroDg
  rw [hz] at hz0
  have hzs : z.size = 32 := by rw [← hz]; simp
  have Z0 := Lib.hid hz0
  have Zs := Lib.hid hzs
  clear hz hz0 hzs
  go_enter Tryz.func19, Tryz.ntmps19
  go_wp2_with fail
  refine (iblt_new n _).mono ?_
  rintro e w1 ⟨vn, rfl, hf, ht, hb1⟩
  unfold newE
  cases ha : allowedB n
  · have hres : ofT n l = ([], 2) := by simp [ofT, ha]
    have Hres := Lib.hid hres
    clear hres
    go_wp2
    refine bodyPost_ret (v := .tuple #[.slice none 0 0, .int .i64 2]) (by simp [results, Tryz.results19, go_sem]) rfl ?_
    exact ⟨.slice none 0 0, by rw [Hres.out], by rw [Hres.out]; exact TabR.nil0 _ _, hb1⟩
  · have hal := allowedB_iff.1 ha
    have ho := ht ha
    have hnl : (newT n).length = n.toNat := by simp [newT, ha]
    have h1 := h.below hb1
    have Hok := Lib.hid h.2
    have hres : ofT n l = (ofFold (newT n) l, 0) := by simp [ofT, ha]
    have Hres := Lib.hid hres
    have hn3 : 3 ≤ (newT n).length := by omega
    have hn4 : (newT n).length ≤ 1000000 := by omega
    have T0 := TabR.owns ho (newT_ok n)
    generalize newT n = t0 at *
    clear hf ht ho hres hal hnl h
    go_wp2
    go_loopw [6, 20] (fun u i wr => ∃ k : Nat, k ≤ l.length ∧ i = .int .i64 k ∧ TabR (fun b => w.heap.size ≤ b ∧ b < wr.heap.size) wr u (ofFold t0 (l.take k)) ∧ DigR S wr (.slice o l.length c) l ∧ Below w.heap.size w wr) (fun _ i _ => l.length - (intOf i).toNat)
    case atStart => exact ⟨0, by omega, rfl, T0, h1, hb1⟩
    case round =>
      clear T0 h1 hb1
      obtain ⟨k, hk, rfl, hT, hD, hB⟩ := hrel
      by_cases hlt : k < l.length
      · have hlt' : (k : Int) < (l.length : Int) := by omega
        obtain ⟨b, off, c', e', _, _, _, hb, hra⟩ := hD.at hlt
        obtain ⟨rfl, rfl⟩ : o = some ⟨b, off, none⟩ ∧ c = c' := by simpa using e'
        have hdl : l[k].length = 32 := Hok.out _ (List.getElem_mem hlt)
        have htl : (ofFold t0 (l.take k)).length = t0.length := ofFold_len _ _
        have hnext : ofFold t0 (l.take (k + 1)) = putT (ofFold t0 (l.take k)) l[k] 1 := by rw [List.take_succ_eq_append_getElem hlt, ofFold_snoc]
        have hpok := putT_ok hT.2 hdl 1
        have Hnext := Lib.hid hnext
        generalize ofFold t0 (l.take k) = tt at *
        generalize l[k] = d at *
        obtain ⟨cd, hcd⟩ : ∃ c, (bytesV d).toArray = c := ⟨_, rfl⟩
        have hcl : cd.size = 32 := by rw [← hcd]; simp [bytesV, hdl]
        have hbl : (bytesV d).length = 32 := by rw [bytesV_len, hdl]
        have h1c : cd.all (·.oneCell') = true := by rw [← hcd]; exact all_oneCell_toArray (bytesV_one _)
        have hdg : dgV d = .agg cd := by unfold dgV; rw [hcd]
        have xb := (Bx.new wr z 39).setAll (cx := cd) (by rw [Zs.out, hcl])
        have hb5 : Below wr.heap.size wr ((wr.alloc (.cells z 39)).setCells wr.heap.size 0 cd.toList) := below_setCells (Nat.le_refl _) _ _ _ (Below.one wr (.cells z 39))
        have hput := iblt_put _ _ tt d 1 (hT.below hb5) (by rw [htl]; exact hn3) (by rw [htl]; exact hn4) hdl
        rw [hdg] at hput
        have Hra := Lib.hid hra
        have Hcl := Lib.hid hcl
        have Hbl := Lib.hid hbl
        have H1c := Lib.hid h1c
        have Hcd := Lib.hid hcd
        have Hpok := Lib.hid hpok
        have htv : ∃ o2 c2, u6 = .slice o2 t0.length c2 := by obtain ⟨⟨o2, c2, e2, _⟩, _⟩ := hT; rw [tabC_size, htl] at e2; exact ⟨o2, c2, e2⟩
        have hpl := putT_len tt d 1
        rw [htl] at hpl
        obtain ⟨o2, c2, rfl⟩ := htv
        rw [htl] at hput
        have Hput := Lib.hid hput
        clear hput hra hcl hbl h1c hcd hdg hnext hpok e'
        go_wp2_with (first
          | (refine wpList_load_mid rfl 39 (.tmp 22) rfl b (off + k * 32) (by first | rfl | (simp)) (bytesV d) _ Hra.out Tryz.underlying39 rfl (by rw [sizeDg, Hbl.out]) ?_)
          | (refine wpList_alloc_row rfl 39 rfl z Z0.out ?_)
          | (refine wpList_store_mid rfl 39 (.tmp 9) (.tmp 23) rfl wr.heap.size 0 cd rfl (by rw [← Hcd.out]; rfl) (there_bx (Bx.new wr z 39) (by rw [Zs.out, Hcl.out]; exact Nat.le_refl _)) (by rw [sizeDg, Hcl.out]) H1c.out ?_)
          | (refine wpList_load_mid rfl 39 (.tmp 9) rfl wr.heap.size 0 rfl cd.toList _ xb.range Tryz.underlying39 rfl (by rw [sizeDg]; simp [Hcl.out]) ?_))
        refine Hput.out.mono ?_
        rintro e w7 ⟨g, cap, rfl, ho7, hb7⟩
        have hbb := hb5.trans (hb7.mono hb5.size)
        have hT7 : TabR (fun b => w.heap.size ≤ b ∧ b < w7.heap.size) w7 (.slice (some ⟨g, 0, none⟩) t0.length cap) (putT tt d 1) := (TabR.owns (by rw [hpl]; exact ho7) Hpok.out).mono (fun b hb => ⟨by have := hb.1; have := hb5.size; have := hB.size; omega, hb.2⟩)
        have hD7 := hD.below hbb
        have hB7 := Below.then hB hbb hB.size
        clear hT hD hB ho7 hb7 hb5
        go_wp2
        go_roundw
        case rel => exact ⟨k + 1, by omega, by go_num, by rw [Hnext.out]; exact hT7, hD7, hB7⟩
        case measure => simp [intOf]; omega
      · obtain rfl : k = l.length := by omega
        have hlt' : ¬ (l.length : Int) < (l.length : Int) := by omega
        rw [List.take_length] at hT
        have htl : (ofFold t0 l).length = t0.length := ofFold_len _ _
        have HT := Lib.hid hT
        have htv : ∃ o2 c2, u6 = .slice o2 t0.length c2 := by obtain ⟨⟨o2, c2, e2, _⟩, _⟩ := hT; rw [tabC_size, htl] at e2; exact ⟨o2, c2, e2⟩
        obtain ⟨o2, c2, rfl⟩ := htv
        clear hT hD
        go_wp2
        refine bodyPost_ret (v := .tuple #[.slice o2 t0.length c2, .int .i64 0]) (by simp [results, Tryz.results19, go_sem]) rfl ?_
        exact ⟨.slice o2 t0.length c2, by rw [Hres.out], by rw [Hres.out]; exact HT.out, hB⟩
end Go.Proofs.YtebgopdmeghmhaaGreat
namespace Go.Proofs.YtebgopdmeghmhaaGreat
open Go.RowKit

def subC (x y : Cl) : Cl := ⟨wrap64 (x.n - y.n), xorD x.k y.k, xorD x.s y.s⟩
def subL (a b : List Cl) : List Cl := List.zipWith subC a b
def subT (a b : List Cl) : List Cl × Int :=
  if checkT a = 0 then (if checkT b = 0 then (if a.length = b.length then (if (subL a b).any (fun c => !countsB c.n) then ([], 4) else (subL a b, 0)) else ([], 10)) else ([], 2)) else ([], 2)
theorem subC_ok {x y : Cl} (hx : x.ok) (hy : y.ok) : (subC x y).ok := ⟨xorD_len hx.1 hy.1, xorD_len hx.2 hy.2⟩
theorem subL_ok {a b : List Cl} (ha : Tok a) (hb : Tok b) : Tok (subL a b) := by
  intro c hc
  obtain ⟨i, hi, rfl⟩ := List.mem_iff_getElem.1 hc
  simp only [subL, List.getElem_zipWith]
  exact subC_ok (ha _ (List.getElem_mem _)) (hb _ (List.getElem_mem _))
/-- the difference so far -/
def subK (a b : List Cl) (k : Nat) : List Cl := (subL a b).take k ++ List.replicate (a.length - k) Cl.zero
theorem subK_len {a b : List Cl} (h : a.length = b.length) {k : Nat} (hk : k ≤ a.length) : (subK a b k).length = a.length := by simp [subK, subL, h]; omega
theorem subK_zero (a b : List Cl) : subK a b 0 = List.replicate a.length Cl.zero := by simp [subK]
theorem subK_ok {a b : List Cl} (ha : Tok a) (hb : Tok b) (k : Nat) : Tok (subK a b k) := by
  intro c hc
  rcases List.mem_append.1 hc with h | h
  · exact subL_ok ha hb c (List.mem_of_mem_take h)
  · rw [(List.mem_replicate.1 h).2]; exact Cl.zero_ok
theorem subK_set {a b : List Cl} (h : a.length = b.length) {k : Nat} (hk : k < a.length) : (subK a b k).set k (subC a[k] (b[k]'(by omega))) = subK a b (k + 1) := by
  have hl : (subL a b).length = a.length := by simp [subL, h]
  unfold subK
  rw [List.set_append_right _ _ (by simp; omega), List.length_take, hl, Nat.min_eq_left (by omega), Nat.sub_self, show a.length - k = (a.length - (k + 1)) + 1 by omega, List.replicate_succ, List.set_cons_zero, List.take_succ_eq_append_getElem (by omega : k < (subL a b).length), List.append_assoc]
  simp [subL]
theorem subK_all {a b : List Cl} (h : a.length = b.length) : subK a b a.length = subL a b := by
  unfold subK
  rw [List.take_of_length_le (by simp [subL, h])]
  simp
set_option maxRecDepth 100000 in
set_option maxHeartbeats 2000000 in
theorem iblt_Subtract {S : Nat → Prop} (w : World) (va vb : Value) (a b : List Cl) (ha : TabR S w va a) (hb : TabR S w vb b) (hma : a.length ≤ 1000000) (hmb : b.length ≤ 1000000) :
    Calls Tryz.prog 20 #[va, vb] w (TabE w (subT a b)) := by
  obtain ⟨oa, ca, rfl⟩ : ∃ o c, va = .slice o a.length c := by obtain ⟨⟨o, c, e, _⟩, _⟩ := ha; rw [tabC_size] at e; exact ⟨o, c, e⟩
  obtain ⟨ob, cb, rfl⟩ : ∃ o c, vb = .slice o b.length c := by obtain ⟨⟨o, c, e, _⟩, _⟩ := hb; rw [tabC_size] at e; exact ⟨o, c, e⟩
  obtain ⟨ic, hic, hz, hs, hby⟩ := info_parts infoCl
  rw [zeroCl'] at hz
  have Hz := Lib.hid hz
  have Ha := Lib.hid ha
  have Hb := Lib.hid hb
  clear hz ha hb
  go_enter Tryz.func20, Tryz.ntmps20
  go_wp2_with fail
  refine (iblt_Check _ _ a Ha.out hma).mono ?_
  rintro e w1 ⟨rfl, hb1⟩
  rcases checkT_cases a with hca | hca
  · rw [hca]
    go_wp2_with fail
    refine (iblt_Check _ _ b (Hb.out.below hb1) hmb).mono ?_
    rintro e w2 ⟨rfl, hb2⟩
    have hB2 := Below.then hb1 hb2 hb1.size
    rcases checkT_cases b with hcb | hcb
    · rw [hcb]
      by_cases hlen : a.length = b.length
      · have hlen' : ((a.length : Int) != (b.length : Int)) = false := by rw [bne_eq_false_iff_eq]; omega
        have hres0 : subT a b = if (subL a b).any (fun c => !countsB c.n) then ([], 4) else (subL a b, 0) := by unfold subT; rw [hca, hcb, if_pos rfl, if_pos rfl, if_pos hlen]
        have Hres := Lib.hid hres0
        have hal := allowedB_iff.1 (checkT_len hca).1
        have hpos : 0 < a.length := by omega
        have Hlen := Lib.hid hlen
        obtain ⟨na, hna⟩ : ∃ n, a.length = n := ⟨_, rfl⟩
        rw [← hlen, hna] at hlen' ⊢
        rw [hna] at hma hpos
        have Hna := Lib.hid hna
        clear hca hcb hres0 hlen hal hna
        go_wp2_with (refine wpList_makeR rfl (.tmp 26) (.tmp 26) 24 rfl 67 ic Cl.zero.cells 65 72 Tryz.underlying24 hic Hz.out hs hby (Cl.len Cl.zero_ok) (by decide) na rfl rfl (by omega) (by unfold maxLen; omega) ?_; intro w3 ho hg hz3)
        have hgl : w2.heap.size < w3.heap.size := by omega
        have hB3 : Below w.heap.size w w3 := hB2.grown hg hB2.size (fun k e => by cases e)
        have ho3 : w3.ownsRow w2.heap.size 67 65 (.slice (some ⟨w2.heap.size, 0, none⟩) na na) na (tabC (subK a b 0)).flatten := by
          rw [subK_zero, tabC_rep, Hna.out]; exact ho
        have hw2 := hB2.size
        obtain ⟨g, hgg⟩ : ∃ g, w2.heap.size = g := ⟨_, rfl⟩
        rw [hgg] at ho3 hw2 ⊢
        clear ho hg hz3 hB2 hb2 hb1 hgl hgg
        go_loopw [30] (fun i wr => ∃ k : Nat, k ≤ na ∧ i = .int .i64 k ∧ (∀ j, j < k → countsB ((subL a b).getD j Cl.zero).n = true) ∧ wr.ownsRow g 67 65 (.slice (some ⟨g, 0, none⟩) na na) na (tabC (subK a b k)).flatten ∧ Below w.heap.size w wr) (fun i _ => na - (intOf i).toNat)
        case atStart => exact ⟨0, by omega, rfl, (fun j h => by omega), ho3, hB3⟩
        case round =>
          clear ho3 hB3
          obtain ⟨k, hk, rfl, hcnt, ho, hB⟩ := hrel
          by_cases hlt : k < na
          · have hlt' : (k : Int) < (na : Int) := by omega
            have hka : k < a.length := by rw [Hna.out]; exact hlt
            have hkb : k < b.length := by rw [← Hlen.out]; exact hka
            obtain ⟨ba, fa, ca', ea, _, _, _, hba, hra⟩ := Ha.out.at hka
            obtain ⟨bb, fb, cb', eb, _, _, _, hbb, hrb⟩ := Hb.out.at hkb
            obtain ⟨rfl, rfl⟩ : oa = some ⟨ba, fa, none⟩ ∧ ca = ca' := by simpa using ea
            obtain ⟨rfl, rfl⟩ : ob = some ⟨bb, fb, none⟩ ∧ cb = cb' := by simpa using eb
            have hxo : a[k].ok := Ha.out.2 _ (List.getElem_mem hka)
            have hyo : b[k].ok := Hb.out.2 _ (List.getElem_mem hkb)
            have hset0 := subK_set Hlen.out hka
            have hsub : (subL a b).getD k Cl.zero = subC a[k] b[k] := by
              have : k < (subL a b).length := by simp [subL]; omega
              rw [List.getD_eq_getElem?_getD, List.getElem?_eq_getElem this]; simp [subL]
            have hskl := subK_len Hlen.out (k := k) (by omega)
            rw [Hna.out] at hskl
            have hsko := subK_ok Ha.out.2 Hb.out.2 k
            have hskl' : (tabC (subK a b k)).length = na := by rw [tabC_size, hskl]
            generalize a[k] = x at *
            generalize b[k] = y at *
            have hra' := rangeAt_below hra hB hba
            have hrb' := rangeAt_below hrb hB hbb
            have lba : ba < wr.heap.size := Nat.lt_of_lt_of_le hba hB.size
            have lbb : bb < wr.heap.size := Nat.lt_of_lt_of_le hbb hB.size
            have cX := Cl.count_at hra'
            have cY := Cl.count_at hrb'
            have HxK := Lib.hid (Cl.keys_at hxo hra')
            have HxS := Lib.hid (Cl.sums_at hxo hra')
            have HyK := Lib.hid (Cl.keys_at hyo hrb')
            have HyS := Lib.hid (Cl.sums_at hyo hrb')
            have HxKl : Hid ((bytesV x.k).length = 32) := Lib.hid (by rw [bytesV_len, hxo.1])
            have HxSl : Hid ((bytesV x.s).length = 32) := Lib.hid (by rw [bytesV_len, hxo.2])
            have HyKl : Hid ((bytesV y.k).length = 32) := Lib.hid (by rw [bytesV_len, hyo.1])
            have HySl : Hid ((bytesV y.s).length = 32) := Lib.hid (by rw [bytesV_len, hyo.2])
            have HX1 := Lib.hid (sha_xor x.k y.k hxo.1 hyo.1)
            have HX2 := Lib.hid (sha_xor x.s y.s hxo.2 hyo.2)
            have Hbd := Lib.hid (run_buildCl (wrap64 (x.n - y.n)) (xorD x.k y.k) (xorD x.s y.s) (xorD_len hxo.1 hyo.1) (xorD_len hxo.2 hyo.2))
            have Hcok : Hid (Cl.ok ⟨wrap64 (x.n - y.n), xorD x.k y.k, xorD x.s y.s⟩) := Lib.hid (subC_ok hxo hyo)
            have Ho := Lib.hid ho
            have Hcnt := Lib.hid hcnt
            have Hset0 := Lib.hid hset0
            have Hsub := Lib.hid hsub
            have Hsko := Lib.hid hsko
            have Hskl := Lib.hid hskl
            have Hskl' := Lib.hid hskl'
            have hgw := (ho.lt g rfl).2
            have cQ := Lat.cells wr
            clear hra hrb hra' hrb' hxo hyo ea eb hset0 hsub hsko hskl hskl' ho hcnt hba hbb
            go_wp2
            refine wp_region_lz 37 1 #[true, true, true, true, true, true, true, true, true, true, true, true, true, true, true, true, true, true, true, true, true, true, true, true, true, true, true, true, true, true, true, true, true, true, true, true, true, false] (fun i => if i = 23 then some (annK (dgV (xorD x.k y.k))) else if i = 34 then some (annK (dgV (xorD x.s y.s))) else if i = 35 then some (annK (Cl.V ⟨wrap64 (x.n - y.n), xorD x.k y.k, xorD x.s y.s⟩)) else none) (by kernel_rfl) (by rfl) (by rfl) (by kernel_rfl) ?_
            simp only [List.take_succ_cons, List.take_zero]
            refine LW.block 23 23 (by rfl) (by kernel_rfl) (by kernel_rfl) ?_
            simp only [List.take_succ_cons, List.take_zero, List.drop_succ_cons, List.drop_zero]
            repeat (first | go_big_quiet_skip | (go_big_quiet_want; first | ((first | (refine quiet_load_row 39 (.tmp 49) rfl ba (fa + k * 65 + 1) (by first | rfl | (simp)) (bytesV x.k) _ (lat_range HxK.out lba) Tryz.underlying39 rfl (by rw [sizeDg, HxKl.out]) ?_) | (refine quiet_load_row 39 (.tmp 54) rfl bb (fb + k * 65 + 1) (by first | rfl | (simp)) (bytesV y.k) _ (lat_range HyK.out lbb) Tryz.underlying39 rfl (by rw [sizeDg, HyKl.out]) ?_) | (refine quiet_load_row 39 (.tmp 60) rfl ba (fa + k * 65 + 33) (by first | rfl | (simp)) (bytesV x.s) _ (lat_range HxS.out lba) Tryz.underlying39 rfl (by rw [sizeDg, HxSl.out]) ?_) | (refine quiet_load_row 39 (.tmp 65) rfl bb (fb + k * 65 + 33) (by first | rfl | (simp)) (bytesV y.s) _ (lat_range HyS.out lbb) Tryz.underlying39 rfl (by rw [sizeDg, HySl.out]) ?_)); simp only [Act.put, List.setIfInBounds_toArray, List.set_cons_zero, List.set_cons_succ]; go_big_quiet_on) | (go_big_quiet_op; go_big_quiet_on)))
            refine wpQuiet_nil ?_
            refine LW.lzy _ (by rfl) (by rfl) ?_ ?_
            · intro yL _
              unfold lzAt
              go_simp
              exact lz_constB (HX1.out _)
            intro _
            simp only [Act.put, List.setIfInBounds_toArray, List.set_cons_zero, List.set_cons_succ]
            (try simp only [annK])
            refine LW.block 10 34 (by rfl) (by kernel_rfl) (by kernel_rfl) ?_
            simp only [List.take_succ_cons, List.take_zero, List.drop_succ_cons, List.drop_zero]
            repeat (first | go_big_quiet_skip | (go_big_quiet_want; first | ((first | (refine quiet_load_row 39 (.tmp 49) rfl ba (fa + k * 65 + 1) (by first | rfl | (simp)) (bytesV x.k) _ (lat_range HxK.out lba) Tryz.underlying39 rfl (by rw [sizeDg, HxKl.out]) ?_) | (refine quiet_load_row 39 (.tmp 54) rfl bb (fb + k * 65 + 1) (by first | rfl | (simp)) (bytesV y.k) _ (lat_range HyK.out lbb) Tryz.underlying39 rfl (by rw [sizeDg, HyKl.out]) ?_) | (refine quiet_load_row 39 (.tmp 60) rfl ba (fa + k * 65 + 33) (by first | rfl | (simp)) (bytesV x.s) _ (lat_range HxS.out lba) Tryz.underlying39 rfl (by rw [sizeDg, HxSl.out]) ?_) | (refine quiet_load_row 39 (.tmp 65) rfl bb (fb + k * 65 + 33) (by first | rfl | (simp)) (bytesV y.s) _ (lat_range HyS.out lbb) Tryz.underlying39 rfl (by rw [sizeDg, HySl.out]) ?_)); simp only [Act.put, List.setIfInBounds_toArray, List.set_cons_zero, List.set_cons_succ]; go_big_quiet_on) | (go_big_quiet_op; go_big_quiet_on)))
            refine wpQuiet_nil ?_
            refine LW.lzy _ (by rfl) (by rfl) ?_ ?_
            · intro yL _
              unfold lzAt
              go_simp
              exact lz_constB (HX2.out _)
            intro _
            simp only [Act.put, List.setIfInBounds_toArray, List.set_cons_zero, List.set_cons_succ]
            (try simp only [annK])
            refine LW.lzy _ (by rfl) (by rfl) ?_ ?_
            · intro yL _
              exact lz_value (exec_build 67 _ rfl #[(0, .int .i64 (wrap64 (x.n - y.n))), (1, dgV (xorD x.k y.k)), (2, dgV (xorD x.s y.s))] (by kernel_rfl) (Hbd.out _))
            intro _
            simp only [Act.put, List.setIfInBounds_toArray, List.set_cons_zero, List.set_cons_succ]
            (try simp only [annK])
            refine LW.block 1 37 (by rfl) (by kernel_rfl) (by kernel_rfl) ?_
            simp only [List.take_succ_cons, List.take_zero, List.drop_succ_cons, List.drop_zero]
            repeat (first | go_big_quiet_skip | (go_big_quiet_want; go_big_quiet_op; go_big_quiet_on))
            refine wpQuiet_nil ?_
            refine LW.done ?_
            intro W' hG
            have ho2 := ownsRow_belowAll Ho.out hG.below
            have hcl2 : (Cl.cells ⟨wrap64 (x.n - y.n), xorD x.k y.k, xorD x.s y.s⟩).length = 65 := Cl.len Hcok.out
            have ho2' : W'.ownsRow g 67 65 (.slice (some ⟨g, 0, none⟩) (tabC (subK a b k)).length na) (tabC (subK a b k)).length (tabC (subK a b k)).flatten := by rw [Hskl'.out]; exact ho2
            obtain ⟨hset, hthere⟩ := ownsRow_seg (tabC_len Hsko.out) ho2' (i := k) (by rw [Hskl'.out]; exact hlt) hcl2 (by decide)
            rw [tabC_set, Hskl'.out, show (subK a b k).set k ⟨wrap64 (x.n - y.n), xorD x.k y.k, xorD x.s y.s⟩ = subK a b (k + 1) from Hset0.out] at hset
            have hB2 := Below.then hB hG.below hB.size
            have hg2 : g < W'.heap.size := Nat.lt_of_lt_of_le hgw hG.below.size
            refine wpAny_ready (rs := [37]) (by kernel_rfl) (by simp) ?_
            refine AllReady.cons rfl (fun K hK => ?_) AllReady.nil
            refine wp_store_mid 67 (.tmp 69) (.tmp 68) rfl g (k * 65) (by first | exact (Cl.cells ⟨wrap64 (x.n - y.n), xorD x.k y.k, xorD x.s y.s⟩).toArray) (by first | rfl | (simp)) rfl (by rw [List.size_toArray, hcl2]; exact hthere) (by rw [sizeCl, List.size_toArray, hcl2]) (Cl.one _) ?_
            refine hK _ _ ?_
            clear hK K
            refine wpAny_done (by kernel_rfl) ?_ _
            have hB5 := below_setCells (b := g) (by omega) (Cl.cells ⟨wrap64 (x.n - y.n), xorD x.k y.k, xorD x.s y.s⟩).toArray.toList (k * 65) _ hB2
            have hr5 : (W'.setCells g (k * 65) (Cl.cells ⟨wrap64 (x.n - y.n), xorD x.k y.k, xorD x.s y.s⟩).toArray.toList).rangeAt g (0 + k * 65) (Cl.cells ⟨wrap64 (x.n - y.n), xorD x.k y.k, xorD x.s y.s⟩) := by
              have := World.rangeAt_setCells_same W' g (k * 65) (Cl.cells ⟨wrap64 (x.n - y.n), xorD x.k y.k, xorD x.s y.s⟩) (by rw [hcl2]; exact hthere)
              rw [Nat.zero_add]; exact this
            rw [Nat.zero_add] at hr5
            have c5 := Cl.count_at hr5
            have hset' : (W'.setCells g (k * 65) (Cl.cells ⟨wrap64 (x.n - y.n), xorD x.k y.k, xorD x.s y.s⟩).toArray.toList).ownsRow g 67 65 (.slice (some ⟨g, 0, none⟩) na na) na (tabC (subK a b (k + 1))).flatten := hset
            clear cQ cX cY hr5 hset hthere ho2 ho2' hB2
            generalize W'.setCells g (k * 65) (Cl.cells ⟨wrap64 (x.n - y.n), xorD x.k y.k, xorD x.s y.s⟩).toArray.toList = w6 at *
            have Hset' := Lib.hid hset'
            clear hset'
            go_wp2_with fail
            refine (iblt_counts (wrap64 (x.n - y.n)) _).mono ?_
            rintro e w7 ⟨rfl, rfl⟩
            cases hkc : countsB (wrap64 (x.n - y.n))
            · have hres2 : subT a b = ([], 4) := by
                rw [Hres.out, if_pos]
                rw [List.any_eq_true]
                have hl : k < (subL a b).length := by simp [subL]; omega
                refine ⟨(subL a b)[k], List.getElem_mem hl, ?_⟩
                have := Hsub.out
                rw [List.getD_eq_getElem?_getD, List.getElem?_eq_getElem hl] at this
                simp only [Option.getD_some] at this
                rw [this]
                show (!countsB (wrap64 (x.n - y.n))) = true
                rw [hkc]; rfl
              have Hres2 := Lib.hid hres2
              clear hres2
              go_wp2
              refine bodyPost_ret (v := .tuple #[.slice none 0 0, .int .i64 4]) (by simp [results, Tryz.results20, go_sem]) rfl ?_
              exact ⟨.slice none 0 0, by rw [Hres2.out], by rw [Hres2.out]; exact TabR.nil0 _ _, hB5⟩
            · go_wp2
              go_roundw
              case rel =>
                refine ⟨k + 1, by omega, by go_num, fun j hj => ?_, Hset'.out, hB5⟩
                rcases Nat.lt_succ_iff_lt_or_eq.1 hj with h | rfl
                · exact Hcnt.out j h
                · rw [Hsub.out]; exact hkc
              case measure => simp [intOf]; omega
          · obtain rfl : k = na := by omega
            have hlt' : ¬ (k : Int) < (k : Int) := by omega
            have hall : subK a b k = subL a b := by rw [← Hna.out]; exact subK_all Hlen.out
            rw [hall] at ho
            have hsl : (subL a b).length = k := by rw [← Hna.out]; simp [subL, Hlen.out]
            have hres2 : subT a b = (subL a b, 0) := by
              rw [Hres.out, if_neg]
              rw [Bool.not_eq_true, List.any_eq_false]
              intro cc hcc
              obtain ⟨j, hj, rfl⟩ := List.mem_iff_getElem.1 hcc
              have := hcnt j (by omega)
              rw [List.getD_eq_getElem?_getD, List.getElem?_eq_getElem hj] at this
              simp only [Option.getD_some] at this
              rw [this]; simp
            have Hres2 := Lib.hid hres2
            have hT : TabR (fun x => w.heap.size ≤ x ∧ x < wr.heap.size) wr (.slice (some ⟨g, 0, none⟩) k k) (subL a b) := (TabR.owns (by rw [hsl]; exact ho) (subL_ok Ha.out.2 Hb.out.2)).mono (fun x hx => ⟨by omega, hx.2⟩)
            have HT := Lib.hid hT
            clear hres2 hT ho hcnt hall hsl
            go_wp2
            refine bodyPost_ret (v := .tuple #[.slice (some ⟨g, 0, none⟩) k k, .int .i64 0]) (by simp [results, Tryz.results20, go_sem]) rfl ?_
            exact ⟨.slice (some ⟨g, 0, none⟩) k k, by rw [Hres2.out], by rw [Hres2.out]; exact HT.out, hB⟩
      · have hlen' : ((a.length : Int) != (b.length : Int)) = true := by rw [bne_iff_ne]; omega
        have hres : subT a b = ([], 10) := by unfold subT; rw [hca, hcb, if_pos rfl, if_pos rfl, if_neg hlen]
        have Hres := Lib.hid hres
        clear hca hcb hres hlen
        go_wp2
        refine bodyPost_ret (v := .tuple #[.slice none 0 0, .int .i64 10]) (by simp [results, Tryz.results20, go_sem]) rfl ?_
        exact ⟨.slice none 0 0, by rw [Hres.out], by rw [Hres.out]; exact TabR.nil0 _ _, hB2⟩
    · have hres : subT a b = ([], 2) := by unfold subT; rw [hca, hcb]; rfl
      have Hres := Lib.hid hres
      rw [hcb]
      clear hca hcb hres
      go_wp2
      refine bodyPost_ret (v := .tuple #[.slice none 0 0, .int .i64 2]) (by simp [results, Tryz.results20, go_sem]) rfl ?_
      exact ⟨.slice none 0 0, by rw [Hres.out], by rw [Hres.out]; exact TabR.nil0 _ _, hB2⟩
  · have hres : subT a b = ([], 2) := by unfold subT; rw [hca]; rfl
    have Hres := Lib.hid hres
    rw [hca]
    clear hca hres
    go_wp2
    refine bodyPost_ret (v := .tuple #[.slice none 0 0, .int .i64 2]) (by simp [results, Tryz.results20, go_sem]) rfl ?_
    exact ⟨.slice none 0 0, by rw [Hres.out], by rw [Hres.out]; exact TabR.nil0 _ _, hb1⟩
end Go.Proofs.YtebgopdmeghmhaaGreat
