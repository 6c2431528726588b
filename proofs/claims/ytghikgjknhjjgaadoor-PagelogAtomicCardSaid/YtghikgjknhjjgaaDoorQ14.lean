/- The reference's Append = apL. Plain laws: what becomes of a log in good order when its area or a header is written, torn or whole. No function of the program is named here. Plain laws: Append and Cut of a log in good order, with the power lost or not. No function of the program is named here. Plain laws: Append, Cut, Format as steps of a log in good order. No function of the program is named here. pagelog.Format = fmtL. -/
import Derived.Test.YtghikgjknhjjgaaDoorQ12
import Derived.Test.YtghikgjknhjjgaaDoorQ13
import Derived.Test.YtghikgjknhjjgaaDoorQ10
namespace Go.Proofs.YtghikgjknhjjgaaDoor
set_option maxRecDepth 100000
open Go.RowKit Go.Shelf
theorem perf_cache : ∀ (ops : List DOp) (d : Dsk), (perfP d ops).1.cache.length ≤ d.cache.length + ops.length
 | [], d => by simp [perfP]
 | o :: r, d => by
  rw [perfP]
  have h1 := opP_cache (d := d) (o := o)
  split
  ·
   simp; omega
  ·
   have := perf_cache r (opP d o).1
   simp; omega
theorem pats_good {d : Dsk} {frm til : Int} (hf : fitE d frm til = 0) {T : List UInt8} (hT : T.length = (areaL d frm til).length) {z a n : Nat} (hz : d.size = z) (hn : n = 0 ∨ (a + n) * z ≤ T.length) : ∀ o ∈ (pats T frm z a n).map wrO, GoodOp d o := by
 obtain ⟨h0, h1, h2, h3, h4, h5⟩ := fitE_zero hf
 have hA := area_len hf
 have hz' : d.size.toNat = z := by omega
 have hz1 : 0 < z := by omega
 intro o ho
 obtain ⟨x, hx, rfl⟩ := List.mem_map.1 ho
 obtain ⟨i, hi, rfl⟩ := List.mem_map.1 hx
 have hi := List.mem_range.1 hi
 rw [hz'] at hA
 have hle : (a + i + 1) * z ≤ T.length := by
  rcases hn with h | h
  ·
   omega
  ·
   exact Nat.le_trans (Nat.mul_le_mul_right _ (by omega)) h
 have him : a + i + 1 ≤ (til - frm - 2).toNat := by
  rw [hT, hA] at hle
  exact Nat.le_of_mul_le_mul_right hle hz1
 refine ⟨?_, ?_, ?_⟩
 ·
  show (0 : Int) ≤ frm + 2 + ((a + i : Nat) : Int)
  omega
 ·
  show frm + 2 + ((a + i : Nat) : Int) < d.pages.length
  omega
 ·
  show ((bs ((T.drop ((a + i) * z)).take z)).size : Int) = d.size
  rw [bs_size, List.length_take, List.length_drop, hz]
  have : (a + i + 1) * z = (a + i) * z + z := Nat.succ_mul _ _
  omega
theorem LgS.only {w : World} {N r : Nat} {l : Lg} {po co ro : Option Addr} {pc cc rc : Nat} {W W' : World} (h : LgS w N l po co ro pc cc rc W) (ho : Only r W W') (hr : N + 2 ≤ r) (hb : Below w.heap.size w W') (hl : LgV w (.agg (lgC l.disk po co pc cc l.frm l.til l.ver ro l.recs.length rc)) l) : LgS w N l po co ro pc cc rc W' :=
 ⟨h.box.only ho (by omega), h.res.only ho (by omega), hb, hl.below hb⟩
end Go.Proofs.YtghikgjknhjjgaaDoor
namespace Go.Proofs.YtghikgjknhjjgaaDoor
set_option maxRecDepth 100000
open Go.RowKit
theorem page_dur {d : Dsk} (h : chk d = 0) (he : d.cache = []) {k : Nat} (hk : k < d.pages.length) : pageL d k = d.pages[k].data.toList := by
 rw [pageL_nat h hk]
 unfold contentD
 rw [he]
 rfl
theorem crash_shape {d : Dsk} (h : chk d = 0) (picks : List Int) : Shape d (crashD d picks) := ⟨crash_chk h picks, crash_size h picks, crash_len h picks⟩
theorem crash_empty {d : Dsk} (h : chk d = 0) (picks : List Int) : (crashD d picks).cache = [] := by unfold crashD; rw [if_neg (by simp [h])]
theorem crash_left {d : Dsk} (h : chk d = 0) (picks : List Int) : (crashD d picks).left = -1 := by unfold crashD; rw [if_neg (by simp [h])]
theorem page_crash {d : Dsk} (h : chk d = 0) (picks : List Int) {k : Nat} (hk : k < d.pages.length) : pageL (crashD d picks) k = ((crashP picks d.size 0 d.cache d.pages).getD k ByteArray.empty).data.toList := by
 have hs := crash_shape h picks
 have hk' : k < (crashD d picks).pages.length := by rw [hs.2.2]; exact hk
 rw [pageL_nat hs.1 hk', content_crash h picks hk']
 congr 2
 rw [List.getD, List.getElem?_eq_getElem (by rw [crashP_len]; exact hk)]
 rfl
theorem LogS.crash {d : Dsk} {frm til : Int} {V : Nat} {recs : List ByteArray} (h : LogS d frm til V recs) (picks : List Int) : LogS (crashD d picks) frm til V recs := by
 have hc := (fitE_zero h.fit).1
 refine h.same (crash_shape hc picks) (crash_empty hc picks) fun k hk => ?_
 rw [page_crash hc picks hk, page_dur hc h.empty hk, h.empty, crashP_nil, List.getD, List.getElem?_eq_getElem hk]
 rfl
theorem shape_fit {d e : Dsk} {frm til : Int} (hf : fitE d frm til = 0) (hs : Shape d e) : fitE e frm til = 0 := by
 have hfz := fitE_zero hf
 exact fitE_0 (by simp [hs.1]) (by rw [hs.2.1]; omega) (by omega) (by omega) (by rw [hs.2.2]; omega) (by omega)
/-- a byte of the area -/
theorem area_get {d : Dsk} {frm til : Int} (hf : fitE d frm til = 0) {i b : Nat} (hi : i < (til - frm - 2).toNat) (hb : b < d.size.toNat) : (areaL d frm til)[i * d.size.toNat + b]? = (pageL d (frm + 2 + i))[b]? := by
 have := congrArg (fun l : List UInt8 => l[b]?) (area_page hf hi)
 simp only [List.getElem?_take, if_pos hb, List.getElem?_drop] at this
 exact this
/-- the area's first n bytes -/
theorem area_first {d e : Dsk} {frm til : Int} (hf : fitE d frm til = 0) (hs : Shape d e) {n : Nat} (hn : n ≤ (areaL d frm til).length)
  (h : ∀ i b : Nat, i < (til - frm - 2).toNat → b < d.size.toNat → i * d.size.toNat + b < n → (pageL e (frm + 2 + i))[b]? = (pageL d (frm + 2 + i))[b]?) : (areaL e frm til).take n = (areaL d frm til).take n := by
 have hfe := shape_fit hf hs
 have hz := (area_bd hf).2.2.1
 have hz1 : 0 < d.size.toNat := by omega
 have hA := area_len hf
 apply List.ext_getElem?
 intro o
 rw [List.getElem?_take, List.getElem?_take]
 by_cases ho : o < n
 ·
  rw [if_pos ho, if_pos ho]
  have ho' : o = o / d.size.toNat * d.size.toNat + o % d.size.toNat := by rw [Nat.mul_comm]; exact (Nat.div_add_mod _ _).symm
  have hb : o % d.size.toNat < d.size.toNat := Nat.mod_lt _ hz1
  have hi : o / d.size.toNat < (til - frm - 2).toNat := by
   refine (Nat.div_lt_iff_lt_mul hz1).2 ?_
   omega
  have h1 := area_get hfe hi (b := o % d.size.toNat) (by rw [hs.2.1]; exact hb)
  rw [hs.2.1] at h1
  have h2 := area_get hf hi hb
  rw [← ho'] at h1 h2
  rw [h1, h2]
  exact h _ _ hi hb (by rw [← ho']; exact ho)
 ·
  rw [if_neg ho, if_neg ho]
/-- the header pages and the area's beginning are as they were -/
theorem LogS.keep {d e : Dsk} {frm til : Int} {V : Nat} {recs : List ByteArray} (h : LogS d frm til V recs) (hs : Shape d e) (he : e.cache = []) (h0 : pageL e frm = pageL d frm) (h1 : pageL e (frm + 1) = pageL d (frm + 1)) (ha : (areaL e frm til).take (sizeL recs) = (areaL d frm til).take (sizeL recs)) : LogS e frm til V recs := by
 have hp : ∀ k : Nat, k ≤ 1 → pageL e (frm + (k : Int)) = pageL d (frm + (k : Int)) := by
  intro k hk
  rcases k with _ | _ | k
  ·
   simpa using h0
  ·
   simpa using h1
  ·
   omega
 exact ⟨shape_fit h.fit hs, he, h.ver, h.small, by rw [hp _ (by omega), hs.2.1]; exact h.cur, by rw [hp _ (by omega), hs.2.1]; exact h.old, h.each, by unfold areaN; rw [hs.2.1]; exact h.room, by rw [ha]; exact h.area⟩
/-- the other header page is another old one -/
theorem LogS.keepOld {d e : Dsk} {frm til : Int} {V : Nat} {recs : List ByteArray} (h : LogS d frm til V recs) (hs : Shape d e) (he : e.cache = []) (h0 : pageL e (frm + ((V % 2 : Nat) : Int)) = pageL d (frm + ((V % 2 : Nat) : Int))) (h1 : OldH d.size.toNat V (pageL e (frm + (((V + 1) % 2 : Nat) : Int)))) (ha : areaL e frm til = areaL d frm til) : LogS e frm til V recs :=
 ⟨shape_fit h.fit hs, he, h.ver, h.small, by rw [h0, hs.2.1]; exact h.cur, by rw [hs.2.1]; exact h1, h.each, by unfold areaN; rw [hs.2.1]; exact h.room, by rw [ha]; exact h.area⟩
/-- the next header is written -/
theorem LogS.next {d e : Dsk} {frm til : Int} {V : Nat} {recs recs' : List ByteArray} (h : LogS d frm til V recs) (hs : Shape d e) (he : e.cache = []) (h0 : pageL e (frm + ((V % 2 : Nat) : Int)) = pageL d (frm + ((V % 2 : Nat) : Int))) (h1 : pageL e (frm + (((V + 1) % 2 : Nat) : Int)) = hdrL d.size.toNat (V + 1) (sizeL recs')) (ha : areaL e frm til = areaL d frm til)
  (hV : V + 1 ≤ 200) (h2 : ∀ s ∈ recs', s.size ≤ 65536) (h3 : (sizeL recs' : Int) ≤ areaN d frm til) (h4 : (areaL d frm til).take (sizeL recs') = streamL recs') : LogS e frm til (V + 1) recs' := by
 have hz : 24 ≤ d.size.toNat := by have := (area_bd h.fit).2.2.1; omega
 refine ⟨shape_fit h.fit hs, he, by omega, hV, by rw [hs.2.1]; exact h1, ?_, h2, by unfold areaN; rw [hs.2.1]; exact h3, by rw [ha]; exact h4⟩
 rw [show (V + 1 + 1) % 2 = V % 2 by omega, h0, hs.2.1, h.cur]
 exact hdr_old hz (by omega)
theorem tear_list (n : Nat) (a b : ByteArray) : (tear n a b).data.toList = a.data.toList.take n ++ b.data.toList.drop n := by
 unfold tear
 rw [ByteArray.data_append, Array.toList_append, cut_list, cut_list, List.drop_zero, Nat.sub_zero, List.take_of_length_le (l := b.data.toList.drop n) (by rw [List.length_drop, len_size]; exact Nat.le_refl _)]
/-- what a step leaves -/
def Out (d : Dsk) (frm til : Int) (V : Nat) (recs recs' : List ByteArray) (F : Dsk) (er : Int) : Prop :=
 Shape d F ∧ (d.left = -1 → er = 0 ∧ F.left = -1) ∧ ((er = 0 ∧ LogS F frm til (V + 1) recs') ∨ (er = 18 ∧ F.left = 0 ∧ ∀ picks, LogS (crashD F picks) frm til V recs ∨ LogS (crashD F picks) frm til (V + 1) recs'))
theorem area_else {d e : Dsk} {frm til : Int} (hf : fitE d frm til = 0) (hs : Shape d e) (h : ∀ i : Nat, i < (til - frm - 2).toNat → pageL e (frm + 2 + i) = pageL d (frm + 2 + i)) : areaL e frm til = areaL d frm til :=
 area_of hf hs rfl fun i hi => by rw [h i hi, ← area_page hf hi]
theorem hdr_step {d : Dsk} {frm til : Int} {V : Nat} {recs recs' : List ByteArray} (h : LogS d frm til V recs) (hV : V + 1 ≤ 200) (h2 : ∀ s ∈ recs', s.size ≤ 65536) (h3 : (sizeL recs' : Int) ≤ areaN d frm til) (h4 : (areaL d frm til).take (sizeL recs') = streamL recs') :
  Out d frm til V recs recs' (perfP d [.wr (frm + (((V + 1) % 2 : Nat) : Int)) (bs (hdrL d.size.toNat (V + 1) (sizeL recs'))), .fl]).1 (perfP d [.wr (frm + (((V + 1) % 2 : Nat) : Int)) (bs (hdrL d.size.toNat (V + 1) (sizeL recs'))), .fl]).2 := by
 have hfz := fitE_zero h.fit
 have hc := hfz.1
 have hz : 24 ≤ d.size.toNat := by omega
 obtain ⟨q, hq⟩ : ∃ q : Nat, frm + (((V + 1) % 2 : Nat) : Int) = q := ⟨(frm + (((V + 1) % 2 : Nat) : Int)).toNat, by omega⟩
 obtain ⟨q0, hq0⟩ : ∃ q0 : Nat, frm + ((V % 2 : Nat) : Int) = q0 := ⟨(frm + ((V % 2 : Nat) : Int)).toNat, by omega⟩
 have hqq : q ≠ q0 := by omega
 have hqp : q < d.pages.length := by omega
 have hq0p : q0 < d.pages.length := by omega
 obtain ⟨H, hH⟩ : ∃ H, bs (hdrL d.size.toNat (V + 1) (sizeL recs')) = H := ⟨_, rfl⟩
 have hHl : H.data.toList = hdrL d.size.toNat (V + 1) (sizeL recs') := by rw [← hH, bs_list]
 have hHs : H.size = d.size.toNat := by rw [← hH, bs_size, hdrL_len hz]
 rw [hq, hH]
 have g1 : GoodOp d (.wr q H) := ⟨by omega, by omega, by omega⟩
 have harea : ∀ (e : Dsk), Shape d e → (∀ k : Nat, k < d.pages.length → k ≠ q → pageL e k = pageL d k) → areaL e frm til = areaL d frm til := by
  intro e hs hk
  refine area_else h.fit hs fun i hi => ?_
  obtain ⟨j, hj⟩ : ∃ j : Nat, frm + 2 + (i : Int) = j := ⟨(frm + 2 + (i : Int)).toNat, by omega⟩
  rw [hj]
  exact hk j (by omega) (by omega)
 by_cases hl : d.left = 0
 ·
  rw [perf_stop hc (by intro o ho; rcases List.mem_cons.1 ho with rfl | ho; exact g1; rw [List.mem_singleton.1 ho]; trivial) hl (by simp)]
  exact ⟨.refl hc, fun e => by omega, .inr ⟨rfl, hl, fun picks => .inl (h.crash picks)⟩⟩
 ·
  have hw := opP_wr hc g1 hl
  have hsh1 := opP_shape hc g1
  rw [perf_on (by rw [hw]), hw]
  rw [hw] at hsh1
  obtain ⟨e1, he1⟩ : ∃ e1, ({ opD d with cache := d.cache ++ [⟨(q : Int), H⟩] } : Dsk) = e1 := ⟨_, rfl⟩
  simp only [he1] at hsh1 ⊢
  have hec : e1.cache = [⟨(q : Int), H⟩] := by rw [← he1, h.empty]; rfl
  have hep : e1.pages = d.pages := by rw [← he1]; rfl
  have hel : e1.left = (opD d).left := by rw [← he1]
  have hpe : ∀ k : Nat, k < d.pages.length → pageL e1 k = if k = q then H.data.toList else pageL d k := by
   intro k hk
   have := opP_page hc g1 hl hk
   rw [hw, he1] at this
   simp only at this
   rw [this]
   by_cases hkq : k = q
   ·
    rw [if_pos (by omega), if_pos hkq]
   ·
    rw [if_neg (by omega), if_neg hkq]
  by_cases hl1 : e1.left = 0
  ·
   rw [perf_stop hsh1.1 (by intro o ho; rw [List.mem_singleton.1 ho]; trivial) hl1 (by simp)]
   refine ⟨hsh1, fun e => ?_, .inr ⟨rfl, hl1, fun picks => ?_⟩⟩
   ·
    rw [hel] at hl1; unfold opD at hl1; simp only at hl1; rw [if_neg (by omega)] at hl1; omega
   ·
    have hsc := hsh1.trans (crash_shape hsh1.1 picks)
    have hce := crash_empty hsh1.1 picks
    obtain ⟨t, ht⟩ : ∃ t, (takenI picks 0 e1.size).toNat = t := ⟨_, rfl⟩
    have hpc : ∀ k : Nat, k < d.pages.length → pageL (crashD e1 picks) k = if k = q then H.data.toList.take t ++ (pageL d k).drop t else pageL d k := by
     intro k hk
     rw [page_crash hsh1.1 picks (by rw [hep]; exact hk), hec, hep]
     simp only [crashP, Int.toNat_natCast]
     rw [ht]
     by_cases hkq : k = q
     ·
      subst hkq
      rw [if_pos rfl, page_dur hc h.empty hk]
      have e3 : d.pages.getD k ByteArray.empty = d.pages[k] := by rw [List.getD, List.getElem?_eq_getElem hk]; rfl
      rw [e3, List.getD, List.getElem?_set_self hk]
      simp only [Option.getD_some]
      exact tear_list _ _ _
     ·
      rw [if_neg hkq, List.getD, List.getElem?_set_ne (by omega), List.getElem?_eq_getElem hk, page_dur hc h.empty hk]
      rfl
    have ha := harea _ hsc (fun k hk hkq => by rw [hpc k hk, if_neg hkq])
    have hp0 : pageL (crashD e1 picks) (frm + ((V % 2 : Nat) : Int)) = pageL d (frm + ((V % 2 : Nat) : Int)) := by rw [hq0, hpc q0 hq0p, if_neg (by omega)]
    have hold := h.old
    rw [hq] at hold
    rcases torn_old (n := sizeL recs') (t := t) hz (by omega) hold with hto | hto
    ·
     left
     refine h.keepOld hsc hce hp0 ?_ ha
     rw [hq, hpc q hqp, if_pos rfl, hHl]
     exact hto
    ·
     right
     refine h.next hsc hce hp0 ?_ ha hV h2 h3 h4
     rw [hq, hpc q hqp, if_pos rfl, hHl, List.take_of_length_le (by rw [hdrL_len hz]; exact hto), List.drop_of_length_le (by rw [hold.1]; exact hto), List.append_nil]
  ·
   have hfl := opP_fl hsh1.1 hl1
   have hsf := opP_shape hsh1.1 (o := .fl) trivial
   rw [perf_on (by rw [hfl]), perfP]
   have hpf : ∀ k : Nat, k < d.pages.length → pageL (opP e1 .fl).1 k = if k = q then H.data.toList else pageL d k := by
    intro k hk
    rw [opP_page hsh1.1 (o := .fl) trivial hl1 (by rw [hep]; exact hk)]
    exact hpe k hk
   have hs2 := hsh1.trans hsf
   refine ⟨hs2, fun e => ⟨rfl, ?_⟩, .inl ⟨rfl, ?_⟩⟩
   ·
    rw [hfl]
    simp only
    have h1 : (opD d).left = -1 := by unfold opD; simp only; rw [if_neg (by omega)]; exact e
    rw [h1] at hel
    unfold opD; simp only; rw [if_neg (by omega)]; exact hel
   ·
    refine h.next hs2 (by rw [hfl]) ?_ ?_ (harea _ hs2 fun k hk hkq => by rw [hpf k hk, if_neg hkq]) hV h2 h3 h4
    ·
     rw [hq0, hpf q0 hq0p, if_neg (by omega)]
    ·
     rw [hq, hpf q hqp, if_pos rfl, hHl]
end Go.Proofs.YtghikgjknhjjgaaDoor
namespace Go.Proofs.YtghikgjknhjjgaaDoor
set_option maxRecDepth 100000
open Go.RowKit
theorem get_byteAt {s : ByteArray} {b : Nat} (h : b < s.size) : s.data.toList[b]? = some (byteAt s b) := by
 have hb : b < s.data.size := h
 unfold byteAt
 rw [Array.getElem?_toList, Array.getElem?_eq_getElem hb]
 rfl
theorem bytes_eq {a b : ByteArray} (hs : a.size = b.size) (h : ∀ i, byteAt a i = byteAt b i) : a.data.toList = b.data.toList := by
 apply List.ext_getElem?
 intro i
 by_cases hi : i < a.size
 ·
  rw [get_byteAt hi, get_byteAt (by omega), h]
 ·
  rw [List.getElem?_eq_none (by rw [len_size]; omega), List.getElem?_eq_none (by rw [len_size]; omega)]
/-- a write into the area that leaves its first n bytes -/
def FarW (d : Dsk) (frm til : Int) (n : Nat) (x : PW) : Prop := ∃ i : Nat, i < (til - frm - 2).toNat ∧ x.page = frm + 2 + i ∧ ∀ b, b < d.size.toNat → i * d.size.toNat + b < n → x.data.data.toList[b]? = (pageL d (frm + 2 + i))[b]?
theorem crash_far {d e : Dsk} {frm til : Int} {V : Nat} {recs : List ByteArray} (h : LogS d frm til V recs) (hs : Shape d e) (hp : e.pages = d.pages) (hw : ∀ x ∈ e.cache, FarW d frm til (sizeL recs) x) (picks : List Int) : LogS (crashD e picks) frm til V recs := by
 have hfz := fitE_zero h.fit
 have hc := hfz.1
 obtain ⟨v1, v2, v3, v4⟩ := chk_zero hs.1
 have hr := rangedB_true v1
 have hz0 : 0 ≤ e.size := by omega
 have hsc := hs.trans (crash_shape hs.1 picks)
 have hlen : (areaL d frm til).length = (til - frm - 2).toNat * d.size.toNat := area_len h.fit
 have hsz : ∀ k : Nat, k < d.pages.length → (((crashP picks e.size 0 e.cache e.pages).getD k ByteArray.empty).size : Int) = d.size := by
  intro k hk
  have := getD_size (i := k) (crashP_sizes (picks := picks) hz0 e.cache 0 e.pages v2 v3) (by rw [crashP_len, hp]; exact hk)
  rw [this, hs.2.1]
 have hbyte : ∀ (k : Nat) (hk : k < d.pages.length) (b : Nat), byteAt ((crashP picks e.size 0 e.cache e.pages).getD k ByteArray.empty) b = byteAt d.pages[k] b ∨ ∃ x ∈ e.cache, x.page = k ∧ byteAt ((crashP picks e.size 0 e.cache e.pages).getD k ByteArray.empty) b = byteAt x.data b := by
  intro k hk b
  have := crashP_from (picks := picks) hz0 k b e.cache 0 e.pages v2 v3 (by rw [hp]; exact hk)
  simp only [hp] at this
  rw [hp]
  exact this
 have hpage : ∀ k : Nat, k < d.pages.length → (∀ x ∈ e.cache, x.page ≠ k) → pageL (crashD e picks) k = pageL d k := by
  intro k hk hx
  rw [page_crash hs.1 picks (by rw [hp]; exact hk), page_dur hc h.empty hk]
  refine bytes_eq ?_ fun b => ?_
  ·
   have h1 := hsz k hk
   have h2 := (chk_zero hc).2.1 _ (List.getElem_mem hk)
   omega
  ·
   rcases hbyte k hk b with h1 | ⟨x, hx1, hx2, _⟩
   ·
    exact h1
   ·
    exact absurd hx2 (hx x hx1)
 have hhd : ∀ k : Nat, k ≤ 1 → pageL (crashD e picks) (frm + (k : Int)) = pageL d (frm + (k : Int)) := by
  intro k hk
  obtain ⟨q, hq⟩ : ∃ q : Nat, frm + (k : Int) = q := ⟨(frm + (k : Int)).toNat, by omega⟩
  rw [hq]
  refine hpage q (by omega) fun x hx e => ?_
  obtain ⟨i, _, hi, _⟩ := hw x hx
  omega
 refine h.keep hsc (crash_empty hs.1 picks) (by simpa using hhd 0 (by omega)) (by simpa using hhd 1 (by omega)) ?_
 refine area_first h.fit hsc ?_ fun i b hi hb hlt => ?_
 ·
  have h1 := h.room
  have h2 := areaL_len h.fit
  omega
 ·
  obtain ⟨q, hq⟩ : ∃ q : Nat, frm + 2 + (i : Int) = q := ⟨(frm + 2 + (i : Int)).toNat, by omega⟩
  have hqp : q < d.pages.length := by omega
  rw [hq, page_crash hs.1 picks (by rw [hp]; exact hqp), page_dur hc h.empty hqp]
  have h1 := hsz q hqp
  have h2 := (chk_zero hc).2.1 _ (List.getElem_mem hqp)
  have hb1 : b < ((crashP picks e.size 0 e.cache e.pages).getD q ByteArray.empty).size := by omega
  have hb2 : b < d.pages[q].size := by omega
  rw [get_byteAt hb1, get_byteAt hb2]
  rcases hbyte q hqp b with h3 | ⟨x, hx1, hx2, h3⟩
  ·
   rw [h3]
  ·
   rw [h3]
   obtain ⟨i', hi', hxi, hxb⟩ := hw x hx1
   have hii : i' = i := by omega
   subst hii
   have h4 := hxb b hb hlt
   rw [hq, page_dur hc h.empty hqp, get_byteAt hb2] at h4
   rw [← h4, get_byteAt]
   have h5 := (v3 x hx1).2.2
   have h6 := hs.2.1
   omega
/-- Append's writes and the Flush behind them -/
theorem area_step {d : Dsk} {frm til : Int} {V : Nat} {recs : List ByteArray} (h : LogS d frm til V recs) {s : List UInt8} (hsn : sizeL recs + s.length ≤ (areaL d frm til).length) {a cnt : Nat} (ha : sizeL recs / d.size.toNat = a) (hcnt : cntP d.size.toNat (sizeL recs) (sizeL recs + s.length) = cnt)
    {ops : List DOp} (ho : (pats (putA (areaL d frm til) (sizeL recs) s) frm d.size.toNat a cnt).map wrO = ops) :
    Shape d (perfP d (ops ++ [.fl])).1 ∧ (d.left = -1 → (perfP d (ops ++ [.fl])).2 = 0 ∧ (perfP d (ops ++ [.fl])).1.left = -1) ∧
    (((perfP d (ops ++ [.fl])).2 = 0 ∧ LogS (perfP d (ops ++ [.fl])).1 frm til V recs ∧ areaL (perfP d (ops ++ [.fl])).1 frm til = putA (areaL d frm til) (sizeL recs) s) ∨
     ((perfP d (ops ++ [.fl])).2 = 18 ∧ (perfP d (ops ++ [.fl])).1.left = 0 ∧ ∀ picks, LogS (crashD (perfP d (ops ++ [.fl])).1 picks) frm til V recs)) := by
  have hfz := fitE_zero h.fit
  have hc := hfz.1
  have hzz := (area_bd h.fit).2.2.1
  obtain ⟨z, hz⟩ : ∃ z, d.size.toNat = z := ⟨_, rfl⟩
  have hz1 : 0 < z := by omega
  have hA := area_len h.fit
  obtain ⟨T, hT⟩ : ∃ T, putA (areaL d frm til) (sizeL recs) s = T := ⟨_, rfl⟩
  have hTl : T.length = (areaL d frm til).length := by rw [← hT]; exact putA_len hsn
  have hTg := fun j => putA_get hsn j
  rw [hT] at ho hTg ⊢
  rw [hz] at ho ha hcnt hA
  -- the pages that are written lie in the area
  have hin : ∀ i, i < cnt → a + i < (til - frm - 2).toNat := by
    intro i hi
    rw [← hcnt] at hi
    have := cntP_lt (a := sizeL recs) hz1 hi
    rw [ha] at this
    refine Nat.lt_of_mul_lt_mul_right (a := z) ?_
    omega
  have hgood : ∀ o ∈ ops, GoodOp d o := by
    rw [← ho]
    refine pats_good h.fit hTl (by omega) ?_
    rcases Nat.eq_zero_or_pos cnt with h0 | h0
    · exact .inl h0
    · right
      have := hin (cnt - 1) (by omega)
      rw [hTl, hA]
      exact Nat.mul_le_mul_right _ (by omega)
  have hgood2 : ∀ o ∈ ops ++ [DOp.fl], GoodOp d o := by
    intro o hm
    rcases List.mem_append.1 hm with hm | hm
    · exact hgood o hm
    · rw [List.mem_singleton.1 hm]; trivial
  have hfar : ∀ x ∈ pats T frm z a cnt, FarW d frm til (sizeL recs) x := by
    intro x hx
    obtain ⟨i, hi, rfl⟩ := List.mem_map.1 hx
    have hi := List.mem_range.1 hi
    refine ⟨a + i, hin i hi, rfl, fun b hb hlt => ?_⟩
    rw [hz] at hb hlt
    simp only [patW]
    rw [List.getElem?_take, if_pos hb, List.getElem?_drop, hTg, if_pos hlt, ← hz, area_get h.fit (hin i hi) (by omega)]
  have hpws := perf_ws (pats T frm z a cnt) hc (fun x hx => hgood _ (by rw [← ho]; exact List.mem_map.2 ⟨x, hx, rfl⟩))
  rw [ho] at hpws
  obtain ⟨j, hj, hca, hpa, hres⟩ := hpws
  have hshA := (perf_shape (ops := ops) hc hgood).1
  have hsh := (perf_shape (ops := ops ++ [.fl]) hc hgood2).1
  rw [h.empty, List.nil_append] at hca
  have hcr : ∀ e : Dsk, e = (perfP d ops).1 → ∀ picks, LogS (crashD e picks) frm til V recs := by
    rintro e rfl picks
    refine crash_far h hshA hpa (fun x hx => hfar x ?_) picks
    rw [hca] at hx
    exact List.mem_of_mem_take hx
  rcases hres with ⟨h0, hjl, hleft⟩ | ⟨h18, hl0, hlm⟩
  · have hap : perfP d (ops ++ [.fl]) = perfP (perfP d ops).1 [.fl] := by rw [perf_app, if_neg (by simp [h0])]
    by_cases hl : (perfP d ops).1.left = 0
    · rw [perf_stop hshA.1 (by intro o hm; rw [List.mem_singleton.1 hm]; trivial) hl (by simp)] at hap
      refine ⟨hsh, fun e => ?_, .inr ⟨by rw [hap], by rw [hap]; exact hl, fun picks => hcr _ (by rw [hap]) picks⟩⟩
      have := hleft e
      omega
    · have hfl := opP_fl hshA.1 hl
      rw [perf_on (by rw [hfl]), perfP] at hap
      have he0 : (perfP d (ops ++ [.fl])).2 = 0 := by rw [hap]
      have hemp : (perfP d (ops ++ [.fl])).1.cache = [] := by rw [hap, hfl]
      -- pages that are not written
      have helse : ∀ k : Nat, k < d.pages.length → (∀ i, i < cnt → frm + 2 + ((a + i : Nat) : Int) ≠ k) → pageL (perfP d (ops ++ [.fl])).1 k = pageL d k := by
        intro k hk hne
        refine perf_else hc hgood2 hk fun i data hm => ?_
        rcases List.mem_append.1 hm with hm | hm
        · rw [← ho] at hm
          obtain ⟨x, hx, e⟩ := List.mem_map.1 hm
          obtain ⟨i', hi', rfl⟩ := List.mem_map.1 hx
          simp only [wrO, patW, DOp.wr.injEq] at e
          rw [← e.1]
          exact hne i' (List.mem_range.1 hi')
        · rw [List.mem_singleton] at hm; cases hm
      have hhit : ∀ i, i < cnt → pageL (perfP d (ops ++ [.fl])).1 (frm + 2 + ((a + i : Nat) : Int)) = (T.drop ((a + i) * z)).take z := by
        intro i hi
        obtain ⟨q, hq⟩ : ∃ q : Nat, frm + 2 + ((a + i : Nat) : Int) = q := ⟨(frm + 2 + ((a + i : Nat) : Int)).toNat, by omega⟩
        have hi' := hin i hi
        rw [hq]
        refine perf_hit hc hgood2 (by omega) he0 (fun i' data hm e => ?_) (.inr ⟨q, bs ((T.drop ((a + i) * z)).take z), ?_, rfl⟩)
        · rcases List.mem_append.1 hm with hm | hm
          · rw [← ho] at hm
            obtain ⟨x, hx, e'⟩ := List.mem_map.1 hm
            obtain ⟨i2, hi2, rfl⟩ := List.mem_map.1 hx
            simp only [wrO, patW, DOp.wr.injEq] at e'
            have : i2 = i := by have := e'.1; omega
            subst this
            rw [← e'.2, bs_list]
          · rw [List.mem_singleton] at hm; cases hm
        · refine List.mem_append_left _ ?_
          rw [← ho]
          refine List.mem_map.2 ⟨patW T frm z (a + i), List.mem_map.2 ⟨i, List.mem_range.2 hi, rfl⟩, ?_⟩
          simp only [wrO, patW]
          rw [hq]
      have harea : areaL (perfP d (ops ++ [.fl])).1 frm til = T := by
        refine area_of h.fit hsh hTl fun i hi => ?_
        rw [hz]
        by_cases hia : a ≤ i ∧ i < a + cnt
        · have := hhit (i - a) (by omega)
          rw [show a + (i - a) = i by omega] at this
          exact this
        · obtain ⟨q, hq⟩ : ∃ q : Nat, frm + 2 + (i : Int) = q := ⟨(frm + 2 + (i : Int)).toNat, by omega⟩
          have hp := area_page h.fit hi
          rw [hq, helse q (by omega) (by intro i' hi' e; omega), ← hq, ← hp, hz]
          -- T is the old area there
          apply List.ext_getElem?
          intro b
          rw [List.getElem?_take, List.getElem?_take]
          by_cases hb : b < z
          · rw [if_pos hb, if_pos hb, List.getElem?_drop, List.getElem?_drop, hTg]
            by_cases h1 : i * z + b < sizeL recs
            · rw [if_pos h1]
            · rw [if_neg h1]
              by_cases h2 : i * z + b < sizeL recs + s.length
              · exfalso
                apply hia
                have h3 : a ≤ i := by
                  rw [← ha]
                  have : sizeL recs / z ≤ (i * z + b) / z := Nat.div_le_div_right (by omega)
                  rw [Nat.mul_comm, Nat.mul_add_div hz1, Nat.div_eq_of_lt hb, Nat.add_zero] at this
                  exact this
                refine ⟨h3, ?_⟩
                rcases Nat.lt_or_ge i (a + cnt) with h4 | h4
                · exact h4
                · exfalso
                  have h5 := cntP_ge (a := sizeL recs) (b := sizeL recs + s.length) (i := i - a) hz1 (by rw [hcnt]; omega)
                  rw [ha, show a + (i - a) = i by omega] at h5
                  omega
              · rw [if_neg h2]
          · rw [if_neg hb, if_neg hb]
      have hhd : ∀ k : Nat, k ≤ 1 → pageL (perfP d (ops ++ [.fl])).1 (frm + (k : Int)) = pageL d (frm + (k : Int)) := by
        intro k hk
        obtain ⟨q, hq⟩ : ∃ q : Nat, frm + (k : Int) = q := ⟨(frm + (k : Int)).toNat, by omega⟩
        rw [hq]
        exact helse q (by omega) (fun i hi e => by omega)
      refine ⟨hsh, fun e => ⟨he0, ?_⟩, .inl ⟨he0, ?_, harea⟩⟩
      · rw [hap, hfl]
        simp only
        have := hleft e
        unfold opD; simp only; rw [if_neg (by omega)]; exact this
      · refine h.keep hsh hemp (by simpa using hhd 0 (by omega)) (by simpa using hhd 1 (by omega)) ?_
        rw [harea, ← hT]
        unfold putA
        rw [List.append_assoc, List.take_left' (by rw [List.length_take]; omega)]
  · have hap : perfP d (ops ++ [.fl]) = perfP d ops := by rw [perf_app, if_pos (by rw [h18]; decide)]
    refine ⟨hsh, fun e => absurd e hlm, .inr ⟨by rw [hap]; exact h18, by rw [hap]; exact hl0, fun picks => hcr _ (by rw [hap]) picks⟩⟩
end Go.Proofs.YtghikgjknhjjgaaDoor
namespace Go.Proofs.YtghikgjknhjjgaaDoor
set_option maxRecDepth 100000
open Go.RowKit
structure StepS (l : Lg) (V : Nat) (recs' : List ByteArray) (R : Lg × Int) : Prop where
 frm : R.1.frm = l.frm
 til : R.1.til = l.til
 shape : Shape l.disk R.1.disk
 full : l.disk.left = -1 → R.2 = 0 ∧ R.1.disk.left = -1
 res : (R.2 = 0 ∧ LogS R.1.disk l.frm l.til (V + 1) recs' ∧ R.1.recs = recs' ∧ R.1.ver = ((V + 1 : Nat) : Int)) ∨
  (R.2 = 18 ∧ R.1.disk.left = 0 ∧ R.1.recs = l.recs ∧ R.1.ver = l.ver ∧ ∀ picks, LogS (crashD R.1.disk picks) l.frm l.til V l.recs ∨ LogS (crashD R.1.disk picks) l.frm l.til (V + 1) recs')
 pages : ∀ k : Nat, k < l.disk.pages.length → ((k : Int) < l.frm ∨ l.til ≤ k) → pageL R.1.disk k = pageL l.disk k
theorem next_eq {l : Lg} {V : Nat} (hv : l.ver = V) (n : Nat) : nextL l n = [.wr (l.frm + (((V + 1) % 2 : Nat) : Int)) (bs (hdrL l.disk.size.toNat (V + 1) n)), .fl] := by
 unfold nextL
 rw [hv, Int.tmod_eq_emod_of_nonneg (by omega)]
 congr 3
theorem hdr_good {d : Dsk} {frm til : Int} (hf : fitE d frm til = 0) {k : Nat} (hk : k ≤ 1) {V n : Nat} : ∀ o ∈ [DOp.wr (frm + (k : Int)) (bs (hdrL d.size.toNat V n)), .fl], GoodOp d o := by
 have hfz := fitE_zero hf
 intro o ho
 rcases List.mem_cons.1 ho with rfl | ho
 ·
  exact ⟨by omega, by omega, by rw [bs_size, hdrL_len (by omega)]; omega⟩
 ·
  rw [List.mem_singleton.1 ho]; trivial
theorem fin_out {l : Lg} {V : Nat} {recs' : List ByteArray} {todo : List DOp} (hv : l.ver = V) (hO : Out l.disk l.frm l.til V l.recs recs' (perfP l.disk todo).1 (perfP l.disk todo).2)
  (hp : ∀ k : Nat, k < l.disk.pages.length → ((k : Int) < l.frm ∨ l.til ≤ k) → pageL (perfP l.disk todo).1 k = pageL l.disk k) : StepS l V recs' (finL l recs' todo) := by
 obtain ⟨h1, h2, h3⟩ := hO
 unfold finL
 by_cases he : (perfP l.disk todo).2 = 0
 ·
  rw [if_neg (by simp [he])]
  refine ⟨rfl, rfl, h1, fun e => ⟨rfl, (h2 e).2⟩, .inl ⟨rfl, ?_, rfl, by simp [hv]⟩, hp⟩
  rcases h3 with h3 | h3
  ·
   exact h3.2
  ·
   rw [he] at h3; exact absurd h3.1 (by decide)
 ·
  rw [if_pos he]
  refine ⟨rfl, rfl, h1, fun e => absurd (h2 e).1 he, .inr ?_, hp⟩
  rcases h3 with h3 | h3
  ·
   exact absurd h3.1 he
  ·
   exact ⟨h3.1, h3.2.1, rfl, rfl, h3.2.2⟩
theorem sizeL_app (a b : List ByteArray) : sizeL (a ++ b) = sizeL a + sizeL b := by simp [sizeL]
theorem streamL_app (a b : List ByteArray) : streamL (a ++ b) = streamL a ++ streamL b := by simp [streamL]
theorem cut_step {l : Lg} {V : Nat} (h : LogS l.disk l.frm l.til V l.recs) (hv : l.ver = V) (hV : V + 1 ≤ 200) {n : Int} (h0 : 0 ≤ n) (h1 : n ≤ l.recs.length) : (n = l.recs.length ∧ cutL l n = (l, 0)) ∨ StepS l V (l.recs.take n.toNat) (cutL l n) := by
 have hval := h.valid hv
 by_cases hn : n = l.recs.length
 ·
  left
  refine ⟨hn, ?_⟩
  unfold cutL
  rw [if_neg (by simp [hval]), if_neg (by omega), if_pos hn]
 ·
  right
  rw [cutL_full hval (by omega) hn, if_neg (by omega), next_eq hv]
  obtain ⟨q, rfl⟩ : ∃ q : Nat, n = q := ⟨n.toNat, by omega⟩
  rw [Int.toNat_natCast]
  have hsz := sizeL_take l.recs q
  have hst : streamL l.recs = streamL (l.recs.take q) ++ streamL (l.recs.drop q) := by rw [← streamL_app, List.take_append_drop]
  refine fin_out hv (hdr_step h hV (fun s hs => h.each s (List.mem_of_mem_take hs)) (by have := h.room; omega) ?_) fun k hk hk2 => ?_
  ·
   have h2 := congrArg (fun L : List UInt8 => L.take (sizeL (l.recs.take q))) h.area
   simp only [List.take_take, Nat.min_eq_left hsz] at h2
   rw [h2, hst, List.take_left' (streamL_len _)]
  ·
   refine perf_else (fitE_zero h.fit).1 (hdr_good h.fit (by omega)) hk fun i data hm => ?_
   have hfz := fitE_zero h.fit
   rcases List.mem_cons.1 hm with e | e
   ·
    simp only [DOp.wr.injEq] at e; rw [e.1]; omega
   ·
    rw [List.mem_singleton] at e; cases e
theorem ap_step {l : Lg} {V : Nat} (h : LogS l.disk l.frm l.til V l.recs) (hv : l.ver = V) (hV : V + 1 ≤ 200) {rs : List ByteArray} (hs : ∀ s ∈ rs, s.size ≤ 65536) :
  (rs = [] ∧ apL l rs = (l, 0)) ∨ (areaN l.disk l.frm l.til - sizeL l.recs < sizeL rs ∧ apL l rs = (zeroL, 17)) ∨ ((sizeL rs : Int) ≤ areaN l.disk l.frm l.til - sizeL l.recs ∧ rs ≠ [] ∧ StepS l V (l.recs ++ rs) (apL l rs)) := by
 have hval := h.valid hv
 have hbig : bigR rs = false := by
  unfold bigR
  rw [List.any_eq_false]
  intro s hm
  have := hs s hm
  simp; omega
 by_cases hn : rs = []
 ·
  left
  subst hn
  exact ⟨rfl, by unfold apL; rw [if_neg (by simp [hval]), if_neg (by simp [hbig]), if_pos (show ([] : List ByteArray).length = 0 from rfl)]⟩
 ·
  right
  have hn0 : rs.length ≠ 0 := by intro e; exact hn (List.eq_nil_of_length_eq_zero e)
  rw [apL_full hval hbig hn0]
  by_cases hf : areaN l.disk l.frm l.til - sizeL l.recs < sizeL rs
  ·
   left
   rw [if_pos (.inl hf)]
   exact ⟨hf, rfl⟩
  ·
   right
   refine ⟨by omega, hn, ?_⟩
   rw [if_neg (by omega)]
   have hfz := fitE_zero h.fit
   have hc := hfz.1
   have hAl := areaL_len h.fit
   have hsl := streamL_len rs
   have hle : sizeL l.recs + (streamL rs).length ≤ (areaL l.disk l.frm l.til).length := by omega
   have hw := wrsL_eq l h.fit (sizeL l.recs) (streamL rs) (streamL_ne hn) hle
   rw [hw]
   obtain ⟨ops, hops⟩ : ∃ ops, (pats (putA (areaL l.disk l.frm l.til) (sizeL l.recs) (streamL rs)) l.frm l.disk.size.toNat (sizeL l.recs / l.disk.size.toNat) (cntP l.disk.size.toNat (sizeL l.recs) (sizeL l.recs + (streamL rs).length))).map wrO = ops := ⟨_, rfl⟩
   have hst := area_step h hle rfl rfl hops
   rw [hops]
   have hzz := (area_bd h.fit).2.2.1
   have hz1 : 0 < l.disk.size.toNat := by omega
   have hA := area_len h.fit
   have hwin : ∀ i data, DOp.wr i data ∈ ops → l.frm + 2 ≤ i ∧ i < l.til := by
    intro i data hm
    rw [← hops] at hm
    obtain ⟨x, hx, e⟩ := List.mem_map.1 hm
    obtain ⟨i', hi', rfl⟩ := List.mem_map.1 hx
    simp only [wrO, patW, DOp.wr.injEq] at e
    have h1 := cntP_lt (a := sizeL l.recs) hz1 (List.mem_range.1 hi')
    have h2 : sizeL l.recs / l.disk.size.toNat + i' < (l.til - l.frm - 2).toNat := by
     refine Nat.lt_of_mul_lt_mul_right (a := l.disk.size.toNat) ?_
     omega
    have h3 := e.1
    generalize sizeL l.recs / l.disk.size.toNat + i' = a at h2 h3
    omega
   have hgood : ∀ o ∈ ops, GoodOp l.disk o := by
    rw [← hops]
    refine pats_good h.fit (putA_len hle) (by omega) ?_
    obtain ⟨cnt, hcnt⟩ : ∃ cnt, cntP l.disk.size.toNat (sizeL l.recs) (sizeL l.recs + (streamL rs).length) = cnt := ⟨_, rfl⟩
    rw [hcnt]
    rcases Nat.eq_zero_or_pos cnt with h0 | h0
    ·
     exact .inl h0
    ·
     right
     have h1 := cntP_lt (a := sizeL l.recs) (b := sizeL l.recs + (streamL rs).length) (i := cnt - 1) hz1 (by omega)
     have h2 : sizeL l.recs / l.disk.size.toNat + (cnt - 1) < (l.til - l.frm - 2).toNat := by
      refine Nat.lt_of_mul_lt_mul_right (a := l.disk.size.toNat) ?_
      omega
     rw [putA_len hle, hA]
     exact Nat.mul_le_mul_right _ (by omega)
   have hnx := next_eq hv (sizeL l.recs + sizeL rs)
   have hsum : sizeL l.recs + sizeL rs = sizeL (l.recs ++ rs) := (sizeL_app _ _).symm
   refine fin_out hv ?_ fun k hk hk2 => ?_
   ·
    rw [show ops ++ DOp.fl :: nextL l (sizeL l.recs + sizeL rs) = (ops ++ [.fl]) ++ nextL l (sizeL l.recs + sizeL rs) by simp, perf_app, hnx]
    obtain ⟨hsh, hleft, hres⟩ := hst
    rcases hres with ⟨he, hS, hT⟩ | ⟨he, hl0, hcr⟩
    ·
     rw [if_neg (by simp [he])]
     have h3 : (sizeL (l.recs ++ rs) : Int) ≤ areaN (perfP l.disk (ops ++ [.fl])).1 l.frm l.til := by
      unfold areaN
      rw [hsh.2.1]
      show (sizeL (l.recs ++ rs) : Int) ≤ areaN l.disk l.frm l.til
      omega
     have := hdr_step hS hV (recs' := l.recs ++ rs) (fun s hm => (List.mem_append.1 hm).elim (h.each s) (hs s)) h3 (by
      rw [hT, sizeL_app, streamL_app]
      unfold putA
      rw [← h.area]
      refine List.take_left' ?_
      rw [List.length_append, List.length_take, streamL_len]
      omega)
     rw [hsh.2.1, ← hsum] at this
     obtain ⟨o1, o2, o3⟩ := this
     exact ⟨hsh.trans o1, fun e => o2 (hleft e).2, o3⟩
    ·
     rw [if_pos (by rw [he]; decide)]
     exact ⟨hsh, fun e => by have := (hleft e).1; rw [he] at this; exact absurd this (by decide), .inr ⟨he, hl0, fun picks => .inl (hcr picks)⟩⟩
   ·
    refine perf_else hc (fun o ho => ?_) hk fun i data hm => ?_
    ·
     rcases List.mem_append.1 ho with ho | ho
     ·
      exact hgood o ho
     ·
      rcases List.mem_cons.1 ho with rfl | ho
      ·
       trivial
      ·
       rw [hnx] at ho; exact hdr_good h.fit (by omega) o ho
    ·
     rcases List.mem_append.1 hm with hm | hm
     ·
      have := hwin i data hm; omega
     ·
      rcases List.mem_cons.1 hm with e | hm
      ·
       cases e
      ·
       rw [hnx] at hm
       rcases List.mem_cons.1 hm with e | e
       ·
        simp only [DOp.wr.injEq] at e; rw [e.1]; omega
       ·
        rw [List.mem_singleton] at e; cases e
/-- what Format leaves -/
theorem fmt_S {d : Dsk} {frm til : Int} (h : (fmtL d frm til).2 = 0) : LogS (fmtL d frm til).1 frm til 1 [] ∧ Shape d (fmtL d frm til).1 ∧ fitE d frm til = 0 ∧ (d.left = -1 → (fmtL d frm til).1.left = -1) ∧
  ∀ k : Nat, k < d.pages.length → ((k : Int) < frm ∨ til ≤ k) → pageL (fmtL d frm til).1 k = pageL d k := by
 by_cases hf : fitE d frm til = 0
 ·
  unfold fmtL at h ⊢
  rw [if_neg (by simp [hf])] at h ⊢
  have hfz := fitE_zero hf
  have hc := hfz.1
  have hz : 24 ≤ d.size.toNat := by omega
  obtain ⟨ops, hops⟩ : ∃ ops, [DOp.wr frm (bs (List.replicate d.size.toNat 0)), .wr (frm + 1) (bs (hdrL d.size.toNat 1 0)), .fl] = ops := ⟨_, rfl⟩
  rw [hops] at h ⊢
  have hgood : ∀ o ∈ ops, GoodOp d o := by
   intro o ho
   rw [← hops] at ho
   rcases List.mem_cons.1 ho with rfl | ho
   ·
    exact ⟨by omega, by omega, by rw [bs_size]; simp; omega⟩
   ·
    rcases List.mem_cons.1 ho with rfl | ho
    ·
     exact ⟨by omega, by omega, by rw [bs_size, hdrL_len hz]; omega⟩
    ·
     rw [List.mem_singleton.1 ho]; trivial
  have hsh := (perf_shape (ops := ops) hc hgood).1
  have hmem : ∀ i data, DOp.wr i data ∈ ops → (i = frm ∧ data = bs (List.replicate d.size.toNat 0)) ∨ (i = frm + 1 ∧ data = bs (hdrL d.size.toNat 1 0)) := by
   intro i data hm
   rw [← hops] at hm
   rcases List.mem_cons.1 hm with e | hm
   ·
    simp only [DOp.wr.injEq] at e; exact .inl e
   ·
    rcases List.mem_cons.1 hm with e | hm
    ·
     simp only [DOp.wr.injEq] at e; exact .inr e
    ·
     rw [List.mem_singleton] at hm; cases hm
  obtain ⟨q, rfl⟩ : ∃ q : Nat, frm = q := ⟨frm.toNat, by omega⟩
  have p0 : pageL (perfP d ops).1 q = List.replicate d.size.toNat 0 := by
   refine perf_hit hc hgood (by omega) h (fun i data hm e => ?_) (.inr ⟨q, _, by rw [← hops]; simp; exact .inl rfl, rfl⟩)
   rcases hmem i data hm with ⟨_, e2⟩ | ⟨e1, _⟩
   ·
    rw [e2, bs_list]
   ·
    omega
  have p1 : pageL (perfP d ops).1 ((q : Int) + 1) = hdrL d.size.toNat 1 0 := by
   have : ((q : Int) + 1) = ((q + 1 : Nat) : Int) := by omega
   rw [this]
   refine perf_hit hc hgood (by omega) h (fun i data hm e => ?_) (.inr ⟨(q : Int) + 1, bs (hdrL d.size.toNat 1 0), by rw [← hops]; simp, by omega⟩)
   rcases hmem i data hm with ⟨e1, _⟩ | ⟨_, e2⟩
   ·
    omega
   ·
    rw [e2, bs_list]
  have hlast : (perfP d ops).1.cache = [] ∧ (d.left = -1 → (perfP d ops).1.left = -1) := by
   rw [show ops = [DOp.wr (q : Int) (bs (List.replicate d.size.toNat 0)), .wr ((q : Int) + 1) (bs (hdrL d.size.toNat 1 0))] ++ [.fl] by rw [← hops]; rfl] at h ⊢
   rw [perf_app] at h ⊢
   have hg2 : ∀ x ∈ [(⟨q, bs (List.replicate d.size.toNat 0)⟩ : PW), ⟨(q : Int) + 1, bs (hdrL d.size.toNat 1 0)⟩], GoodOp d (wrO x) := by
    intro x hx
    refine hgood _ ?_
    rw [← hops]
    rcases List.mem_cons.1 hx with rfl | hx
    ·
     simp [wrO]
    ·
     rw [List.mem_singleton.1 hx]; simp [wrO]
   have hws := perf_ws _ hc hg2
   simp only [List.map_cons, List.map_nil, wrO] at hws
   obtain ⟨j, _, _, _, hres⟩ := hws
   rcases hres with ⟨he, _, hlf⟩ | ⟨he, _, _⟩
   ·
    rw [if_neg (by simp [he])] at h ⊢
    have hsh1 := (perf_shape (ops := [DOp.wr (q : Int) (bs (List.replicate d.size.toNat 0)), .wr ((q : Int) + 1) (bs (hdrL d.size.toNat 1 0))]) hc (fun o ho => hgood o (by rw [← hops]; exact List.mem_append_left [DOp.fl] ho))).1
    by_cases hl : (perfP d [DOp.wr (q : Int) (bs (List.replicate d.size.toNat 0)), .wr ((q : Int) + 1) (bs (hdrL d.size.toNat 1 0))]).1.left = 0
    ·
     rw [perf_stop hsh1.1 (by intro o ho; rw [List.mem_singleton.1 ho]; trivial) hl (by simp)] at h
     cases h
    ·
     have hfl := opP_fl hsh1.1 hl
     rw [perf_on (by rw [hfl]), perfP, hfl]
     refine ⟨rfl, fun e => ?_⟩
     have := hlf e
     simp only
     unfold opD
     simp only
     rw [if_neg (by omega)]
     exact this
   ·
    rw [if_pos (by rw [he]; decide), he] at h
    cases h
  refine ⟨⟨shape_fit hf hsh, hlast.1, Nat.le_refl 1, by omega, ?_, ?_, by simp, ?_, ?_⟩, hsh, hf, hlast.2, fun k hk hk2 => ?_⟩
  ·
   rw [hsh.2.1]
   exact p1
  ·
   rw [hsh.2.1]
   have : pageL (perfP d ops).1 ((q : Int) + (((1 + 1) % 2 : Nat) : Int)) = List.replicate d.size.toNat 0 := by rw [← p0]; simp
   rw [this]
   exact zero_old hz (Nat.le_refl 1)
  ·
   have := (area_bd (shape_fit hf hsh)).1
   simpa [sizeL] using this
  ·
   simp [sizeL, streamL]
  ·
   refine perf_else hc hgood hk fun i data hm => ?_
   rcases hmem i data hm with ⟨e, _⟩ | ⟨e, _⟩ <;> omega
 ·
  unfold fmtL at h
  rw [if_pos hf] at h
  exact absurd h hf
end Go.Proofs.YtghikgjknhjjgaaDoor
namespace Go.Proofs.YtghikgjknhjjgaaDoor
set_option maxRecDepth 100000
open Go.RowKit Go.Shelf
set_option maxRecDepth 100000 in
set_option maxHeartbeats 2000000 in
theorem pl_Format (d : Dsk) (v : Value) (frm til : Int) (w : World) (hD : DskV w v d) (hc : d.cache.length ≤ 999990) :
  Calls Tryd.prog 23 #[v, .int .i64 frm, .int .i64 til] w (RetVE w (fmtL d frm til).1 (fmtL d frm til).2) := by
 obtain ⟨R, hR⟩ : ∃ R, fmtL d frm til = R := ⟨_, rfl⟩
 rw [hR]
 have hD0 := hD
 obtain ⟨po, pc, co, cc, rfl⟩ := hD.agg
 obtain ⟨N, hN⟩ : ∃ N, w.heap.size = N := ⟨_, rfl⟩
 obtain ⟨W0, hW0⟩ : ∃ W0, (w.alloc (.cells (dC d po co pc cc) 30)).alloc (.cells dZ 30) = W0 := ⟨_, rfl⟩
 have x0 : Bx W0 N (dC d po co pc cc) 30 := by subst hW0 hN; exact (Bx.new w _ _).alloc _
 have x1 : Bx W0 (N + 1) dZ 30 := by subst hW0 hN; exact Bx.newAt _ _ _ _ (by simp)
 have hB0 : Below w.heap.size w W0 := by subst hW0; exact (Below.one w _).alloc (by simp) _
 obtain ⟨er, her⟩ : ∃ er, fitE d frm til = er := ⟨_, rfl⟩
 have hfit := pl_fits d _ frm til W0 (hD0.below hB0)
 rw [her] at hfit
 have Hfit := Lib.hid hfit
 have HD := Lib.hid hD0
 clear hfit hD hD0
 have c0 := x0.cell
 have l0 := x0.lt
 cases g : (er != 0)
 ·
  have he : er = 0 := by simpa using g
  subst he
  have hfz := fitE_zero her
  have hab := area_bd her
  have hrg := rangedB_true (chk_zero hfz.1).1
  obtain ⟨size, pages, cache, left⟩ := d
  simp only at hfz hab hrg hc
  obtain ⟨z, rfl⟩ : ∃ z : Nat, size = z := ⟨size.toNat, by omega⟩
  obtain ⟨Z, hZ⟩ : ∃ Z, zerosB z = Z := ⟨_, rfl⟩
  obtain ⟨H, hH⟩ : ∃ H, bs (hdrL z 1 0) = H := ⟨_, rfl⟩
  have hZs : Z.size ≤ 1000 := by rw [← hZ]; simp [zerosB, ByteArray.size]; omega
  have hHs : H.size ≤ 1000 := by rw [← hH, bs_size]; simp [hdrL, num8]; omega
  obtain ⟨F, er2, hF⟩ : ∃ F er2, perfP ⟨z, pages, cache, left⟩ [.wr frm Z, .wr (frm + 1) H, .fl] = (F, er2) := ⟨_, _, rfl⟩
  have HR : Hid (R = (F, er2)) := Lib.hid (by rw [← hR, ← hF, ← hZ, ← hH]; unfold fmtL; rw [if_neg (by simp [her])]; rfl)
  have HF := Lib.hid hF
  have hrep := fun W => repeat_zero z (by omega) W
  have hhd : ∀ W, Calls Tryd.prog 50 #[.int .i64 z, .int .i64 1, .int .i64 0] W fun e w' => e = .returned (.string (bs (hdrL z 1 0))) ∧ Below W.heap.size W w' := fun W => pl_header z 1 0 W (by omega) (by omega)
  simp only [hZ] at hrep
  simp only [hH] at hhd
  have Hrep := Lib.hid hrep
  have Hhd := Lib.hid hhd
  have hf0 : 0 ≤ frm := hfz.2.2.1
  have hf1 : frm ≤ 2000 := by omega
  clear hrep hhd hF hR hZ hH hfz hab hrg her
  go_enter Tryd.func23, Tryd.ntmps23
  go_wp2_with fail
  refine Hfit.out.mono ?_
  rintro e w1 ⟨rfl, hb1⟩
  have y0 := x0.belowAll hb1
  have y1 := x1.belowAll hb1
  have hB1 := btr hB0 hb1
  clear c0 l0 x0 x1 hW0 hb1
  have c0 := y0.cell
  have l0 := y0.lt
  have cQ := Lat.cells w1
  have HBw : Hid (∀ x : Lat w1, Below w.heap.size w x.w) := Lib.hid (fun x => btr hB1 x.h)
  go_wp2
  refine wp_region_lz 16 2 #[true, true, true, true, true, true, true, true, true, true, true, true, true, true, true, true, false, false] (fun i => if i = 4 then some (annK (.string Z)) else if i = 5 then some (annOp (.wr frm Z)) else if i = 10 then some (annK (.string H)) else if i = 11 then some (annOp (.wr (frm + 1) H)) else if i = 12 then some (annOps [.wr frm Z, .wr (frm + 1) H, .fl] 3) else if i = 13 then some (annDE F er2) else none) (by kernel_rfl) (by rfl) (by rfl) (by kernel_rfl) ?_
  simp only [List.take_succ_cons, List.take_zero]
  refine LW.block 4 4 (by rfl) (by kernel_rfl) (by kernel_rfl) ?_
  simp only [List.take_succ_cons, List.take_zero, List.drop_succ_cons, List.drop_zero]
  repeat (first | go_big_quiet_skip | (go_big_quiet_want; go_big_quiet_op; go_big_quiet_on))
  refine wpQuiet_nil ?_
  refine LW.lzy _ (by rfl) (by rfl) ?_ ?_
  ·
   intro yL _
   unfold lzAt
   go_simp
   exact lz_constB (Hrep.out _)
  intro _
  simp only [Act.put, List.setIfInBounds_toArray, List.set_cons_zero, List.set_cons_succ]
  (try simp only [annK])
  refine LW.lzy _ (by rfl) (by rfl) ?_ ?_
  ·
   intro yL _
   unfold lzAt
   go_simp
   exact lz_op (pl_write _ _ _ (by omega))
  intro r5
  simp only [Act.put, List.setIfInBounds_toArray, List.set_cons_zero, List.set_cons_succ]
  refine LW.block 4 10 (by rfl) (by kernel_rfl) (by kernel_rfl) ?_
  simp only [List.take_succ_cons, List.take_zero, List.drop_succ_cons, List.drop_zero]
  repeat (first | go_big_quiet_skip | (go_big_quiet_want; go_big_quiet_op; go_big_quiet_on))
  refine wpQuiet_nil ?_
  refine LW.lzy _ (by rfl) (by rfl) ?_ ?_
  ·
   intro yL _
   unfold lzAt
   go_simp
   exact lz_constB (Hhd.out _)
  intro _
  simp only [Act.put, List.setIfInBounds_toArray, List.set_cons_zero, List.set_cons_succ]
  (try simp only [annK])
  refine LW.lzy _ (by rfl) (by rfl) ?_ ?_
  ·
   intro yL _
   unfold lzAt
   go_simp
   exact lz_op (pl_write _ _ _ (by omega))
  intro r11
  simp only [Act.put, List.setIfInBounds_toArray, List.set_cons_zero, List.set_cons_succ]
  refine LW.lzy _ (by rfl) (by rfl) ?_ ?_
  ·
   intro yL hf
   have h5 : OpV yL.w (r5.x 0) (.wr frm Z) := (hf 5 (by decide +kernel)).get (by rfl) (by rfl)
   have h11 : OpV yL.w (r11.x 0) (.wr (frm + 1) H) := (hf 11 (by decide +kernel)).get (by rfl) (by rfl)
   have h5' := h5
   have h11' := h11
   obtain ⟨bi, bd, e5, _, _, _⟩ := h5
   obtain ⟨bi2, bd2, e11, _, _, _⟩ := h11
   have e5' : (annOp (.wr frm Z)).f r5 = .func (.func 63) #[] #[.pointer (some ⟨bi, 0, none⟩), .pointer (some ⟨bd, 0, none⟩)] := e5
   have e11' : (annOp (.wr (frm + 1) H)).f r11 = .func (.func 63) #[] #[.pointer (some ⟨bi2, 0, none⟩), .pointer (some ⟨bd2, 0, none⟩)] := e11
   rw [e5', e11']
   unfold lzAt
   go_simp
   refine ⟨Below.one _ _, fun _ => undef, rfl, fun w'' hb => ?_⟩
   refine OpsAt.bx (vs := [.func (.func 63) #[] #[.pointer (some ⟨bi, 0, none⟩), .pointer (some ⟨bd, 0, none⟩)], .func (.func 63) #[] #[.pointer (some ⟨bi2, 0, none⟩), .pointer (some ⟨bd2, 0, none⟩)], .func (.func 42) #[] #[]]) ((Bx.new yL.w _ _).belowAll hb) rfl ?_
   intro j h1 h2
   rcases j with _ | _ | _ | j
   ·
    have := (h5'.below (Below.one _ _)).below hb
    rw [e5] at this
    exact this
   ·
    have := (h11'.below (Below.one _ _)).below hb
    rw [e11] at this
    exact this
   ·
    exact rfl
   ·
    exact absurd h2 (by simp)
  intro r12
  simp only [Act.put, List.setIfInBounds_toArray, List.set_cons_zero, List.set_cons_succ]
  refine LW.lzy _ (by rfl) (by rfl) ?_ ?_
  ·
   intro yL hf
   have h12 : OpsAt yL.w (some ⟨r12.lo, 0, none⟩) [.wr frm Z, .wr (frm + 1) H, .fl] := (hf 12 (by decide +kernel)).get (by rfl) (by rfl)
   unfold lzAt
   simp only [annOps]
   go_simp
   have hP := pl_perform ⟨z, pages, cache, left⟩ _ [.wr frm Z, .wr (frm + 1) H, .fl] (some ⟨r12.lo, 0, none⟩) 3 yL.w (HD.out.below (HBw.out _)) h12 (by simp only [List.length_cons, List.length_nil]; omega)
   rw [HF.out] at hP
   exact lz_de hP
  intro r13
  simp only [Act.put, List.setIfInBounds_toArray, List.set_cons_zero, List.set_cons_succ, annDE]
  refine LW.block 2 16 (by rfl) (by kernel_rfl) (by kernel_rfl) ?_
  simp only [List.take_succ_cons, List.take_zero, List.drop_succ_cons, List.drop_zero]
  repeat (first | go_big_quiet_skip | (go_big_quiet_want; go_big_quiet_op; go_big_quiet_on))
  refine wpQuiet_nil ?_
  refine LW.done ?_
  intro w2 hG
  have hR13 : DskV w2 (r13.x 0) F := hG.get 13 rfl rfl
  have hG2 := hG.below
  have hM1 := hR13
  obtain ⟨po1, pc1, co1, cc1, e13⟩ := hR13.agg
  rw [e13] at hM1 ⊢
  have z1 := y1.belowAll hG2
  have hB2 := btr hB1 hG2
  obtain ⟨Wf, hWf⟩ : ∃ Wf, st4 w2 (N + 1) (.int .i64 F.size) (.slice po1 F.pages.length pc1) (.slice co1 F.cache.length cc1) (.int .i64 F.left) = Wf := ⟨_, rfl⟩
  have zR : Bx Wf (N + 1) (dC F po1 co1 pc1 cc1) 30 := by subst hWf; exact z1.st4
  have zB : Below w.heap.size w Wf := by subst hWf; exact below_st4 hB2 (by omega)
  have zV : DskV Wf (.agg (dC F po1 co1 pc1 cc1)) F := by subst hWf; exact hM1.only z1 noS_dZ only_st4
  have HWf := Lib.hid hWf
  have ZB := Lib.hid zB
  have ZV := Lib.hid zV
  clear hG c0 l0 hG2 zB zV hM1 hB2 hWf
  have cX := z1.cell
  have lX := z1.lt
  have fX := z1.free
  refine wpAny_ready (rs := [16]) (by kernel_rfl) (by simp) ?_
  refine AllReady.cons rfl (fun K hK => ?_) AllReady.nil
  go_simp
  refine hK _ _ ?_
  clear hK K
  refine wpAny_ready (rs := [17]) (by kernel_rfl) (by simp) ?_
  refine AllReady.cons rfl (fun K hK => ?_) AllReady.nil
  go_simp
  refine hK _ _ ?_
  clear hK K
  refine wpAny_done (by kernel_rfl) ?_ _
  go_wp2
  have HW := HWf.out
  unfold st4 at HW
  rw [HW]
  have cZ := zR.cell
  refine bodyPost_ret (v := .tuple #[.agg (dC F po1 co1 pc1 cc1), .int .i64 er2]) (by simp [results, Tryd.results23, go_sem, cZ]) rfl ?_
  rw [HR.out]
  exact ⟨_, rfl, ZV.out, ZB.out⟩
 ·
  have he : er ≠ 0 := by simpa using g
  have HR : Hid (R = (zeroD, er)) := Lib.hid (by rw [← hR]; unfold fmtL; rw [if_pos (by rw [her]; exact he), her])
  clear hR her
  go_enter Tryd.func23, Tryd.ntmps23
  go_wp2_with fail
  refine Hfit.out.mono ?_
  rintro e w1 ⟨rfl, hb1⟩
  have y1 := x1.belowAll hb1
  have hB1 := btr hB0 hb1
  obtain ⟨Wf, hWf⟩ : ∃ Wf, st4 w1 (N + 1) (.int .i64 0) (.slice none 0 0) (.slice none 0 0) (.int .i64 0) = Wf := ⟨_, rfl⟩
  have zR : Bx Wf (N + 1) dZ 30 := by subst hWf; exact y1.st4
  have zB : Below w.heap.size w Wf := by subst hWf; exact below_st4 hB1 (by omega)
  have HWf := Lib.hid hWf
  have ZB := Lib.hid zB
  clear c0 l0 x0 x1 hW0 hb1 zB hWf
  have cX := y1.cell
  have lX := y1.lt
  have fX := y1.free
  go_wp2
  have HW := HWf.out
  unfold st4 at HW
  rw [HW]
  have cZ := zR.cell
  refine bodyPost_ret (v := .tuple #[.agg dZ, .int .i64 er]) (by simp [results, Tryd.results23, go_sem, cZ]) rfl ?_
  rw [HR.out]
  exact ⟨_, rfl, zero_DskR _, ZB.out⟩
end Go.Proofs.YtghikgjknhjjgaaDoor
