/- Plain laws: the writes that put bytes into the area of a log, page by page. No function of the program is named here. strings.Builder: copyCheck, WriteString, WriteByte, String. Itoa; pagelog.Size, pagelog.stream. csexp.reader's next, length, sexp: an atom is read; a list ends in an error or is one. Lazy, from the operation k on: what stands ahead of it has yielded already. -/
import Derived.Test.YtghikgjknhjjgaaDoorQ05
import Derived.Lib.Builder
import Derived.Lib.UnsafeStr
import Derived.Laws.Externs
import Derived.RegionTactic
import Derived.ChangeAlike
import Derived.Test.YtghikgjknhjjgaaDoorQ02
import Derived.Lib.SmallJoins
import Derived.Lib.AppendIntMem
import Derived.Defers
import Derived.Recover
import Derived.WalkLawsBesides
import Derived.StillTailTactics
namespace Go.Proofs.YtghikgjknhjjgaaDoor
set_option maxRecDepth 100000
open Go.RowKit
theorem flat_page {m z : Nat} (f : Nat → List UInt8) : ∀ (_ : ∀ j, j < m → (f j).length = z) (i : Nat), i < m → ((((List.range m).map f).flatten).drop (i * z)).take z = f i := by
 induction m with
 | zero => intro _ i h; omega
 | succ m ih =>
  intro hz i hi
  rw [List.range_succ, List.map_append, List.flatten_append]
  have hl : (((List.range m).map f).flatten).length = m * z := by
   have : ∀ q, q ≤ m → (((List.range q).map f).flatten).length = q * z := by
    intro q
    induction q with
    | zero => intro _; simp
    | succ q iq => intro hq; rw [List.range_succ, List.map_append, List.flatten_append, List.length_append, iq (by omega)]; simp [hz q (by omega), Nat.succ_mul]
   exact this m (Nat.le_refl _)
  by_cases h : i < m
  ·
   have hm : i * z + z ≤ m * z := by rw [← Nat.succ_mul]; exact Nat.mul_le_mul_right _ h
   rw [List.drop_append_of_le_length (by omega), List.take_append_of_le_length (by rw [List.length_drop, hl]; omega)]
   exact ih (fun j hj => hz j (by omega)) i h
  ·
   obtain rfl : i = m := by omega
   rw [show i * z = (((List.range i).map f).flatten).length by rw [hl], List.drop_left]
   have e : (f i).length = z := hz i (by omega)
   simp [← e]
theorem flat_ext {m z : Nat} (f : Nat → List UInt8) {L : List UInt8} (hL : L.length = m * z) (h : ∀ i, i < m → (L.drop (i * z)).take z = f i) : ((List.range m).map f).flatten = L := by
 have : ∀ q, q ≤ m → ((List.range q).map f).flatten = L.take (q * z) := by
  intro q
  induction q with
  | zero => intro _; simp
  | succ q ih =>
   intro hq
   rw [List.range_succ, List.map_append, List.flatten_append, ih (by omega), Nat.succ_mul, List.take_add]
   congr 1
   simp [h q (by omega)]
 rw [this m (Nat.le_refl _), ← hL, List.take_length]
/-- the pages of the area -/
theorem area_page {d : Dsk} {frm til : Int} (hf : fitE d frm til = 0) {i : Nat} (hi : i < (til - frm - 2).toNat) :
  ((areaL d frm til).drop (i * d.size.toNat)).take d.size.toNat = pageL d (frm + 2 + i) := by
 obtain ⟨h0, h1, h2, h3, h4, h5⟩ := fitE_zero hf
 unfold areaL pagesL
 exact flat_page (fun j : Nat => pageL d (frm + 2 + (j : Int))) (fun j hj => pageL_len h0 (by omega) (by omega)) i hi
theorem area_len {d : Dsk} {frm til : Int} (hf : fitE d frm til = 0) : (areaL d frm til).length = (til - frm - 2).toNat * d.size.toNat := by
 obtain ⟨h0, h1, h2, h3, h4, h5⟩ := fitE_zero hf
 unfold areaL
 exact pagesL_len d (frm + 2) d.size.toNat _ (fun j hj => pageL_len h0 (by omega) (by omega))
theorem area_of {d e : Dsk} {frm til : Int} (hf : fitE d frm til = 0) (_hs : Shape d e) {T : List UInt8} (hT : T.length = (areaL d frm til).length)
  (h : ∀ i : Nat, i < (til - frm - 2).toNat → pageL e (frm + 2 + i) = (T.drop (i * d.size.toNat)).take d.size.toNat) : areaL e frm til = T := by
 obtain ⟨h0, h1, h2, h3, h4, h5⟩ := fitE_zero hf
 unfold areaL pagesL
 exact flat_ext (z := d.size.toNat) (fun j : Nat => pageL e (frm + 2 + (j : Int))) (by rw [hT, area_len hf]) (fun i hi => (h i hi).symm)
/-- page i of the new area, as a write -/
def patW (T : List UInt8) (frm : Int) (z i : Nat) : PW := ⟨frm + 2 + i, bs ((T.drop (i * z)).take z)⟩
def pats (T : List UInt8) (frm : Int) (z a n : Nat) : List PW := (List.range n).map fun i => patW T frm z (a + i)
theorem pats_succ (T : List UInt8) (frm : Int) (z a n : Nat) : pats T frm z a (n + 1) = patW T frm z a :: pats T frm z (a + 1) n := by
 unfold pats
 rw [List.range_succ_eq_map, List.map_cons, List.map_map]
 congr 1
 apply List.map_congr_left
 intro i _
 simp only [Function.comp_apply]
 rw [show a + i.succ = a + 1 + i by omega]
/-- how many pages bytes from a on up to b touch -/
def cntP (z a b : Nat) : Nat := (b + z - 1) / z - a / z
theorem cntP_lt {z a b i : Nat} (hz : 0 < z) : i < cntP z a b → (a / z + i) * z < b := by
 intro h
 have h2 : a / z + i < (b + z - 1) / z := by unfold cntP at h; omega
 have := (Nat.lt_div_iff_mul_lt hz).1 h2
 rw [Nat.mul_comm] at this
 rw [Nat.mul_comm]
 omega
theorem cntP_ge {z a b i : Nat} (hz : 0 < z) : cntP z a b ≤ i → b ≤ (a / z + i) * z := by
 intro h
 have h2 : (b + z - 1) / z ≤ a / z + i := by unfold cntP at h; omega
 have := (Nat.div_le_iff_le_mul_add_pred hz).1 h2
 rw [Nat.mul_comm]
 omega
theorem page_patch {A T s P : List UInt8} {z a i k : Nat} (ha : a = i * z + k) (hk : k < z) (hP : P = (A.drop (i * z)).take z) (hPl : P.length = z)
  (hT : ∀ j, i * z ≤ j → T[j]? = if j < a then A[j]? else if j < a + s.length then s[j - a]? else A[j]?) :
  P.take k ++ s.take (z - k) ++ P.drop (k + min s.length (z - k)) = (T.drop (i * z)).take z := by
 have hPg : ∀ n, n < z → P[n]? = A[i * z + n]? := by intro n hn; rw [hP, List.getElem?_take, if_pos hn, List.getElem?_drop]
 apply List.ext_getElem?
 intro n
 have hR : ((T.drop (i * z)).take z)[n]? = if n < z then T[i * z + n]? else none := by rw [List.getElem?_take, List.getElem?_drop]
 rw [hR, List.append_assoc]
 have e1 : (P.take k).length = k := by rw [List.length_take]; omega
 have e2 : (s.take (z - k)).length = min (z - k) s.length := List.length_take
 by_cases hn : n < z
 ·
  rw [if_pos hn, hT _ (by omega)]
  by_cases h1 : n < k
  ·
   rw [if_pos (by omega), List.getElem?_append_left (by omega), List.getElem?_take, if_pos h1, hPg n hn]
  ·
   rw [if_neg (by omega), List.getElem?_append_right (by omega), e1]
   by_cases h2 : n < k + s.length
   ·
    rw [if_pos (by omega), List.getElem?_append_left (by omega), List.getElem?_take, if_pos (by omega)]
    congr 1
    omega
   ·
    rw [if_neg (by omega), List.getElem?_append_right (by omega), List.getElem?_drop, e2, ← hPg n hn]
    congr 1
    omega
 ·
  rw [if_neg hn, List.getElem?_eq_none]
  simp only [List.length_append, List.length_drop, e1, e2]
  omega
theorem wrsP_nil (l : Lg) (f a : Nat) : wrsP l f a [] = [] := by cases f <;> rfl
/-- the writes of bytes s from an offset a on: the pages of the new area -/
theorem wrsP_eq (l : Lg) (hf : fitE l.disk l.frm l.til = 0) (T : List UInt8) (hT : T.length = (areaL l.disk l.frm l.til).length) : ∀ (f a : Nat) (s : List UInt8), s.length ≤ f → a + s.length ≤ T.length →
  (∀ j, a / l.disk.size.toNat * l.disk.size.toNat ≤ j → T[j]? = if j < a then (areaL l.disk l.frm l.til)[j]? else if j < a + s.length then s[j - a]? else (areaL l.disk l.frm l.til)[j]?) →
  s ≠ [] → wrsP l f a s = (pats T l.frm l.disk.size.toNat (a / l.disk.size.toNat) (cntP l.disk.size.toNat a (a + s.length))).map wrO := by
 have hz0 := (area_bd hf).2.2.1
 have hfz := fitE_zero hf
 have hAl := area_len hf
 have hap := fun i hi => area_page hf (i := i) hi
 obtain ⟨z, hz⟩ : ∃ z, l.disk.size.toNat = z := ⟨_, rfl⟩
 have hz1 : 0 < z := by omega
 obtain ⟨m, hm⟩ : ∃ m, (l.til - l.frm - 2).toNat = m := ⟨_, rfl⟩
 rw [hz, hm] at hAl
 simp only [hz, hm] at hap
 intro f
 induction f with
 | zero =>
  intro a s h1 _ _ h4
  exact absurd (List.eq_nil_of_length_eq_zero (by omega)) h4
 | succ f ih =>
  intro a s h1 h2 h3 h4
  rw [hz] at h3 ⊢
  cases s with
  | nil => exact absurd rfl h4
  | cons c r =>
   obtain ⟨i, hi⟩ : ∃ i, a / z = i := ⟨_, rfl⟩
   obtain ⟨k, hk⟩ : ∃ k, a % z = k := ⟨_, rfl⟩
   have ha : a = i * z + k := by rw [← hi, ← hk, Nat.mul_comm]; exact (Nat.div_add_mod a z).symm
   have hkz : k < z := by rw [← hk]; exact Nat.mod_lt _ hz1
   obtain ⟨n, hn⟩ : ∃ n, (c :: r).length = n := ⟨_, rfl⟩
   have hn0 : 0 < n := by rw [← hn]; simp
   rw [hn] at h1 h2 h3
   rw [hi] at h3
   have him : i < m := by
    refine Nat.lt_of_mul_lt_mul_right (a := z) ?_
    rw [← hAl, ← hT]
    omega
   have hPl : (pageL l.disk (l.frm + 2 + (i : Nat))).length = z := by rw [← hz]; exact pageL_len hfz.1 (by omega) (by omega)
   have hpg := page_patch (A := areaL l.disk l.frm l.til) (T := T) (s := c :: r) ha hkz (hap i him).symm hPl (by rw [hn]; exact h3)
   rw [hn] at hpg
   rw [wrsP, hz, hi, hk, hn, hpg]
   have e1 : (i + 1) * z = i * z + z := Nat.succ_mul i z
   by_cases hc : n ≤ z - k
   ·
    have ed : (c :: r).drop (z - k) = [] := List.drop_eq_nil_of_le (by omega)
    rw [ed, wrsP_nil]
    have ec : cntP z a (a + n) = 0 + 1 := by
     unfold cntP
     rw [hi]
     have : (a + n + z - 1) / z = i + 1 := by
      refine Nat.div_eq_of_lt_le (by omega) ?_
      rw [Nat.succ_mul]
      omega
     omega
    rw [ec, pats_succ]
    rfl
   ·
    have emin : min n (z - k) = z - k := by omega
    rw [emin]
    have ea : a + (z - k) = (i + 1) * z := by omega
    have ediv : (i + 1) * z / z = i + 1 := Nat.mul_div_cancel _ hz1
    have hdl : ((c :: r).drop (z - k)).length = n - (z - k) := by rw [List.length_drop, hn]
    have := ih (a + (z - k)) ((c :: r).drop (z - k)) (by omega) (by omega) (by
     intro j hj
     rw [hz, ea, ediv] at hj
     have h3j := h3 j (by omega)
     rw [if_neg (show ¬ j < a by omega)] at h3j
     rw [h3j, if_neg (show ¬ j < a + (z - k) by omega), hdl]
     by_cases hj2 : j < a + n
     ·
      rw [if_pos hj2, if_pos (show j < a + (z - k) + (n - (z - k)) by omega), List.getElem?_drop]
      congr 1
      omega
     ·
      rw [if_neg hj2, if_neg (show ¬ j < a + (z - k) + (n - (z - k)) by omega)]) (by intro e; rw [e] at hdl; simp at hdl; omega)
    rw [this, hz, hdl, ea, ediv]
    have ec : cntP z a (a + n) = cntP z ((i + 1) * z) ((i + 1) * z + (n - (z - k))) + 1 := by
     unfold cntP
     rw [hi, ediv]
     have e2 : (i + 1) * z + (n - (z - k)) = a + n := by omega
     rw [e2]
     have : i + 1 ≤ (a + n + z - 1) / z := (Nat.le_div_iff_mul_le hz1).2 (by omega)
     omega
    rw [ec, pats_succ]
    rfl
/-- the area with bytes put in -/
def putA (A : List UInt8) (a : Nat) (s : List UInt8) : List UInt8 := A.take a ++ s ++ A.drop (a + s.length)
theorem putA_len {A : List UInt8} {a : Nat} {s : List UInt8} (h : a + s.length ≤ A.length) : (putA A a s).length = A.length := by unfold putA; simp; omega
theorem putA_get {A : List UInt8} {a : Nat} {s : List UInt8} (h : a + s.length ≤ A.length) (j : Nat) : (putA A a s)[j]? = if j < a then A[j]? else if j < a + s.length then s[j - a]? else A[j]? := by
 unfold putA
 have e1 : (A.take a).length = a := by rw [List.length_take]; omega
 rw [List.append_assoc]
 by_cases h1 : j < a
 ·
  rw [if_pos h1, List.getElem?_append_left (by omega), List.getElem?_take, if_pos h1]
 ·
  rw [if_neg h1, List.getElem?_append_right (by omega), e1]
  by_cases h2 : j < a + s.length
  ·
   rw [if_pos h2, List.getElem?_append_left (by omega)]
  ·
   rw [if_neg h2, List.getElem?_append_right (by omega), List.getElem?_drop]
   congr 1
   omega
theorem wrsL_eq (l : Lg) (hf : fitE l.disk l.frm l.til = 0) (a : Nat) (s : List UInt8) (hs : s ≠ []) (h : a + s.length ≤ (areaL l.disk l.frm l.til).length) :
  wrsL l a s = (pats (putA (areaL l.disk l.frm l.til) a s) l.frm l.disk.size.toNat (a / l.disk.size.toNat) (cntP l.disk.size.toNat a (a + s.length))).map wrO :=
 wrsP_eq l hf _ (putA_len h) _ _ _ (Nat.le_refl _) (by rw [putA_len h]; exact h) (fun j _ => putA_get h j) hs
end Go.Proofs.YtghikgjknhjjgaaDoor
namespace Go.Proofs.YtghikgjknhjjgaaDoor
set_option maxRecDepth 100000
open Go.RowKit
theorem ownsRow_slice {w : World} {base : Nat} {e : TypeId} {size : Nat} {v : Value} {n : Nat} {xs : List Value} (h : w.ownsRow base e size v n xs) : ∃ o m c, v = .slice o m c := by
 rcases h.2 with ⟨hv, _⟩ | ⟨g, cap, cur, hv, _⟩
 ·
  exact ⟨_, _, _, hv⟩
 ·
  exact ⟨_, _, _, hv⟩
theorem sizeBd : (Tryd.prog.info? 75).map (·.size) = some 2 := by kernel_rfl
theorem liesBd : liesAt Tryd.prog Tryd.prog.depth 75 (2 / Tryd.prog.cellsOf 75) 0 75 1 = true := by kernel_rfl
theorem cellsU8 : Tryd.prog.cellsOf 5 = 1 := by kernel_rfl
abbrev BdAt := Lib.BuilderAt 75 5
abbrev IsBd := Lib.IsBuilder 75 5
set_option maxHeartbeats 1000000 in
set_option maxRecDepth 100000 in
theorem bd_check_used (b : Nat) (w : World) (h0 : w.cell? ⟨b, 0, none⟩ = some (.pointer (some ⟨b, 0, none⟩))) :
  Calls Tryd.prog 55 #[.pointer (some ⟨b, 0, none⟩)] w fun e w' => e = .returned (.tuple #[]) ∧ w = w' := by
 obtain ⟨j, hj, _⟩ := Option.map_eq_some_iff.1 sizeBd
 have hr := Lib.run_neq_ptr_same (P := Tryd.prog) w ⟨b, 0, none⟩ Tryd.underlying72 hj
 go_enter Tryd.func55, Tryd.ntmps55
 go_wp2
 go_end0
 exact ⟨rfl, rfl⟩
set_option maxHeartbeats 1000000 in
set_option maxRecDepth 100000 in
theorem bd_check_fresh (b : Nat) (w : World) (h0 : w.cell? ⟨b, 0, none⟩ = some (.pointer none)) (hsh : w.shape? b = some (75, 2)) (hfz : w.frozen? ⟨b, 0, none⟩ = false) :
  Calls Tryd.prog 55 #[.pointer (some ⟨b, 0, none⟩)] w fun e w' => e = .returned (.tuple #[]) ∧ w' = w.setCell ⟨b, 0, none⟩ (.pointer (some ⟨b, 0, none⟩)) := by
 obtain ⟨j, hj, hjs⟩ := Option.map_eq_some_iff.1 sizeBd
 have h1 := Lib.run_to_unsafe (P := Tryd.prog) w ⟨b, 0, none⟩ Tryd.underlying72 Tryd.underlying129 hj (by rw [hjs]; decide) hsh (Nat.zero_lt_succ 1)
 have h2 := Lib.run_from_unsafe (P := Tryd.prog) w ⟨b, 0, none⟩ Tryd.underlying129 Tryd.underlying72 hj hsh liesBd
 go_enter Tryd.func55, Tryd.ntmps55
 go_wp2
 rw [run_callFunc_extern Tryd.func70 (by kernel_rfl) (by kernel_rfl) (by kernel_rfl) (e := Extern.AbiNoEscape.same) (by kernel_rfl)]
 rw [Lib.run_noEscape]
 simp only [Result.andThen]
 rw [Oper.upon_value]
 go_wp2
 go_end0
 exact ⟨rfl, rfl⟩
theorem bd_check {B b : Nat} {bs : List Value} {w : World} (h : IsBd B b bs w) :
  Calls Tryd.prog 55 #[.pointer (some ⟨b, 0, none⟩)] w fun e w' => e = .returned (.tuple #[]) ∧ BdAt B b (.pointer (some ⟨b, 0, none⟩)) bs w' ∧ (∀ k, k ≠ b → w'.heap[k]? = w.heap[k]?) ∧ w'.heap.size = w.heap.size ∧ Below B w w' := by
 rcases h with h | h
 ·
  refine (bd_check_fresh b w h.cell0 h.shape h.frozen0).mono ?_
  rintro e w' ⟨rfl, rfl⟩
  exact ⟨rfl, h.used _, fun k hk => Below.heap_setCell w _ _ k hk, by simp, (Below.refl B w).setCell (p := ⟨b, 0, none⟩) h.1 _⟩
 ·
  refine (bd_check_used b w h.cell0).mono ?_
  rintro e w' ⟨rfl, rfl⟩
  exact ⟨rfl, h, fun _ _ => rfl, rfl, Below.refl B _⟩
set_option maxHeartbeats 1000000 in
set_option maxRecDepth 100000 in
theorem bd_String {B b : Nat} {l : List UInt8} {w : World} (h : IsBd B b (bytesV l) w) (h0 : l ≠ []) :
  Calls Tryd.prog 33 #[.pointer (some ⟨b, 0, none⟩)] w fun e w' => e = .returned (.string ⟨l.toArray⟩) ∧ Below B w w' := by
 obtain ⟨p, hB, v, hbk, hown, hne⟩ : ∃ p, BdAt B b p (bytesV l) w := by
  rcases h with h | h
  ·
   exact ⟨_, h⟩
  ·
   exact ⟨_, h⟩
 have hl0 : l.length ≠ 0 := by simpa using h0
 rw [bytesV_len] at hown
 obtain ⟨g, cap, cur, rfl, hbg, hg, hnc, hcm, hcs, htake⟩ : ∃ g cap cur, v = .slice (some ⟨g, 0, none⟩) l.length cap ∧ B ≤ g ∧ w.heap[g]? = some (.cells cur 5 (0, 0)) ∧ l.length ≤ cap ∧ cap ≤ maxLen ∧ cur.size = cap * 1 ∧ cur.toList.take (l.length * 1) = bytesV l := by
  rcases hown.2 with ⟨_, hz⟩ | ⟨g, cap, cur, hv, r⟩
  ·
   exact absurd hz hl0
  ·
   exact ⟨g, cap, cur, hv, r⟩
 have c1 : w.drew.cell? ⟨b, 1, none⟩ = some (.slice (some ⟨g, 0, none⟩) l.length cap) := by
  have : w.drew.heap[b]? = some (.cells #[p, .slice (some ⟨g, 0, none⟩) l.length cap] 75 (0, 0)) := hbk
  rw [Lib.cell_of_heap this]; rfl
 have hSD : (Builtin.unsafeSliceData_ #[73] 112 #[.slice (some ⟨g, 0, none⟩) l.length cap]).run Tryd.prog w.drew = .ok (.pointer (some ⟨g, 0, none⟩)) w.drew :=
  Lib.run_unsafeSliceData_row _ _ _ _ _ _ (by omega)
 have hUS : (Builtin.unsafeString_ #[112, 3] 9 #[.pointer (some ⟨g, 0, none⟩), .int .i64 l.length]).run Tryd.prog w.drew = .ok (.string ⟨l.toArray⟩) (w.drew.freeze ⟨g, 0, none⟩ l.length) := by
  refine Lib.run_unsafeString_row w.drew 112 3 9 5 Tryd.underlying112 cellsU8 g cur.size (by have hg' : w.drew.heap[g]? = some (.cells cur 5 (0, 0)) := hg; simp [World.shape?, hg']) l h0 (by omega) (by unfold maxLen at hcm; omega) ?_
  intro j x hx
  have := hown.cells (g := g) rfl j (.int .u8 x.toNat) (by simp [bytesV, hx])
  exact this
 clear hbk hown hne h hg htake hcs
 go_enter Tryd.func33, Tryd.ntmps33
 go_wp2
 go_region
 all_goals (go_wp2; go_ret; exact ⟨rfl, Lib.below_freeze (Below.drew (Below.refl B w)) (p := ⟨g, 0, none⟩) hbg _⟩)
set_option maxHeartbeats 2000000 in
theorem bd_WriteString {B b : Nat} {l : List UInt8} {w : World} (h : IsBd B b (bytesV l) w) (s : List UInt8) (hlen : l.length + s.length ≤ 140737488355328) (hBw : B ≤ w.heap.size) :
  Calls Tryd.prog 31 #[.pointer (some ⟨b, 0, none⟩), .string (bs s)] w fun e w' => e = .returned (.tuple #[.int .i64 s.length, .nilIface]) ∧ IsBd B b (bytesV (l ++ s)) w' ∧ Below B w w' := by
 obtain ⟨i0, hi, hz0, hz1, hz2⟩ := info_parts infoU8
 have Hi := Lib.hid (And.intro hi (And.intro hz0 (And.intro hz1 hz2)))
 have Hck := Lib.hid (bd_check h)
 have Hlen := Lib.hid hlen
 obtain ⟨S, hS⟩ : ∃ S, bs s = S := ⟨_, rfl⟩
 have hSz : S.size = s.length := by rw [← hS, bs_size]
 have HS := Lib.hid hS
 rw [hS]
 clear hi hz0 hz1 hz2 h hlen hS
 go_enter Tryd.func31, Tryd.ntmps31
 go_wp2_with fail
 refine Hck.out.mono ?_
 rintro e w1 ⟨rfl, h1, hk1, hz1, hb1⟩
 obtain ⟨hB, v, hbk, hown, hne⟩ := h1
 have c1 : w1.cell? ⟨b, 1, none⟩ = some v := by rw [Lib.cell_of_heap hbk]; rfl
 have Hown := Lib.hid hown
 have Hbk := Lib.hid hbk
 have Hne := Lib.hid hne
 have Hz1 := Lib.hid hz1
 clear hown hbk hne hk1 hz1
 have hlt : b < w1.heap.size := (Array.getElem?_eq_some_iff.1 Hbk.out).1
 go_wp2_with (at_builtin; refine Lib.wpList_append_own_string _ rfl (.tmp 12) (.tmp 13) 73 9 rfl B 5 i0 Tryd.underlying73 Tryd.underlying9 Hi.out.1 Hi.out.2.1 Hi.out.2.2.1 Hi.out.2.2.2 v _ _ rfl Hown.out S rfl (by rw [bytesV_len, hSz]; have := Hlen.out; unfold maxLen; omega) (by rw [bytesV_len, hSz]; exact Hlen.out) (by have := Hz1.out; omega) ?_; intro v' w2 hown' hgrow _; obtain ⟨ao, n', cap, rfl⟩ := ownsRow_slice hown'; have Hb2 : Hid (w2.heap[b]? = some (.cells #[.pointer (some ⟨b, 0, none⟩), v] 75 (0, 0))) := Lib.hid (by rw [hgrow.block b hlt (fun e => Hne.out e.symm)]; exact Hbk.out); have d1 : w2.cell? ⟨b, 1, none⟩ = some v := (by rw [Lib.cell_of_heap Hb2.out]; rfl); have f1 : w2.frozen? ⟨b, 1, none⟩ = false := Lib.frozen_of_heap Hb2.out 1; have Hown' := Lib.hid hown'; have HB := Lib.hid (hb1.grown hgrow (by have := Hz1.out; omega) (fun k hk => (Hown.out.lt k hk).1)); clear hown' hgrow c1)
 go_ret2
 refine ⟨by rw [← hSz]; rfl, .inr ?_, HB.out.setCell (p := ⟨b, 1, none⟩) hB _⟩
 refine Lib.BuilderAt.put (T := 75) (e := 5) hB Hb2.out (bs' := bytesV (l ++ s)) ?_ (by decide)
 have := Hown'.out
 rw [← HS.out, strCells_bs, bs_size, bytesV_len, ← bytesV_app] at this
 rwa [bytesV_len, List.length_append]
set_option maxHeartbeats 2000000 in
theorem bd_WriteByte {B b : Nat} {l : List UInt8} {w : World} (h : IsBd B b (bytesV l) w) (c : UInt8) (hlen : l.length + 1 ≤ 140737488355328) (hBw : B ≤ w.heap.size) :
  Calls Tryd.prog 59 #[.pointer (some ⟨b, 0, none⟩), .int .u8 (c.toNat : Int)] w fun e w' => e = .returned .nilIface ∧ IsBd B b (bytesV (l ++ [c])) w' ∧ Below B w w' := by
 obtain ⟨i0, hi, hz0, hz1, hz2⟩ := info_parts infoU8
 have Hi := Lib.hid (And.intro hi (And.intro hz0 (And.intro hz1 hz2)))
 have Hck := Lib.hid (bd_check h)
 have Hlen := Lib.hid hlen
 obtain ⟨x, hx⟩ : ∃ x : Int, (c.toNat : Int) = x := ⟨_, rfl⟩
 have HX := Lib.hid hx
 rw [hx]
 clear hi hz0 hz1 hz2 h hlen hx
 go_enter Tryd.func59, Tryd.ntmps59
 go_wp2_with fail
 refine Hck.out.mono ?_
 rintro e w1 ⟨rfl, h1, hk1, hz1, hb1⟩
 obtain ⟨hB, v, hbk, hown, hne⟩ := h1
 have c1 : w1.cell? ⟨b, 1, none⟩ = some v := by rw [Lib.cell_of_heap hbk]; rfl
 have Hown := Lib.hid hown
 have Hbk := Lib.hid hbk
 have Hne := Lib.hid hne
 have Hz1 := Lib.hid hz1
 clear hown hbk hne hk1 hz1
 have hlt : b < w1.heap.size := (Array.getElem?_eq_some_iff.1 Hbk.out).1
 go_wp2_with (at_builtin; refine wpList_app rfl (.tmp 11) (.tmp 13) 73 rfl B 5 i0 _ 1 1 Tryd.underlying73 Hi.out.1 Hi.out.2.1 Hi.out.2.2.1 Hi.out.2.2.2 (by simp [Value.cells]) (by decide) v _ _ rfl (Hown.out.alloc _) (some ⟨w1.heap.size, 0, none⟩) 1 1 [.int .u8 x] rfl (fun h => by cases h) rfl (RowAt.bx (Bx.new w1 _ _)) (by simp [Value.oneCell']) (by rw [bytesV_len]; have := Hlen.out; unfold maxLen; omega) (by rw [bytesV_len]; have := Hlen.out; omega) (by have := Hz1.out; simp; omega) ?_; intro v' w2 hown' hgrow; obtain ⟨ao, n', cap, rfl⟩ := ownsRow_slice hown'; have Hb2 : Hid (w2.heap[b]? = some (.cells #[.pointer (some ⟨b, 0, none⟩), v] 75 (0, 0))) := Lib.hid (by rw [hgrow.block b (by simp; omega) (fun e => Hne.out e.symm)]; exact (Below.heap_alloc w1 _ b hlt).trans Hbk.out); have d1 : w2.cell? ⟨b, 1, none⟩ = some v := (by rw [Lib.cell_of_heap Hb2.out]; rfl); have f1 : w2.frozen? ⟨b, 1, none⟩ = false := Lib.frozen_of_heap Hb2.out 1; have Hown' := Lib.hid hown'; have HB := Lib.hid ((hb1.alloc (by have := Hz1.out; omega) _).grown hgrow (by have := Hz1.out; simp; omega) (fun k hk => (Hown.out.lt k hk).1)); clear hown' hgrow c1)
 go_ret
 refine ⟨rfl, .inr ?_, HB.out.setCell (p := ⟨b, 1, none⟩) hB _⟩
 refine Lib.BuilderAt.put (T := 75) (e := 5) hB Hb2.out (bs' := bytesV (l ++ [c])) ?_ (by decide)
 have := Hown'.out
 rw [bytesV_len, ← HX.out] at this
 rw [bytesV_len, List.length_append, bytesV_app]
 exact this
/-- String of whatever a builder of the call's own holds -/
theorem bd_Str {B b : Nat} {l : List UInt8} {w : World} (h : IsBd B b (bytesV l) w) (h0 : l ≠ []) :
  Calls Tryd.prog 33 #[.pointer (some ⟨b, 0, none⟩)] w fun e w' => e = .returned (.string (bs l)) ∧ Below B w w' := bd_String h h0
end Go.Proofs.YtghikgjknhjjgaaDoor
namespace Go.Proofs.YtghikgjknhjjgaaDoor
set_option maxRecDepth 100000
open Go.RowKit
/-- the table of powers of ten, as the program's text lays it -/
def TabW (w : World) : Prop := Lib.TabIs Tryd.prog w "internal/strconv.uint64pow10" .u64 Lib.pow10Tab
theorem tab_global : ∃ g, Tryd.prog.globalNamed "internal/strconv.uint64pow10" = some g := by
 refine Option.isSome_iff_exists.1 ?_
 kernel_rfl
theorem TabW.below {w w' : World} (h : TabW w) (hb : Below w.heap.size w w') : TabW w' := by
 obtain ⟨g, hg⟩ := tab_global
 exact Go.Joins.tab_stays hg h hb (Nat.le_refl _)
theorem pl_itoa (n : Nat) (w : World) (hn : n ≤ 140737488351232) (hT : TabW w) :
  Calls Tryd.prog 37 #[.int .i64 n] w fun e w' => e = .returned (.string (bs (Lib.decDigits n))) ∧ Below w.heap.size w w' := by
 refine (Tryd.strconv_Itoa n (by omega) (by omega) w hT).mono ?_
 rintro e w' ⟨rfl, k, os, rfl⟩
 refine ⟨?_, Lib.below_grow _ _ (Nat.le_refl _) _ _⟩
 unfold Lib.itoa
 rw [if_neg (by omega)]; rfl
theorem nDigits_le : ∀ (k n : Nat), n < 10 ^ (k + 1) → Lib.nDigits n ≤ k + 1
 | 0, n, h => by rw [Lib.nDigits_small (by simpa using h)]; exact Nat.le_refl _
 | k + 1, n, h => by
  by_cases h' : n < 10
  ·
   rw [Lib.nDigits_small h']; omega
  ·
   rw [Lib.nDigits_big h']
   have := nDigits_le k (n / 10) (by rw [Nat.pow_succ] at h; omega)
   omega
theorem dec_len {n : Nat} (h : n ≤ 140737488351232) : 1 ≤ (Lib.decDigits n).length ∧ (Lib.decDigits n).length ≤ 15 := by
 rw [Lib.decDigits_length]
 exact ⟨Lib.nDigits_pos n, nDigits_le 14 n (by omega)⟩
theorem sizeL_snoc (l : List ByteArray) (k : Nat) (h : k < l.length) : sizeL (l.take (k + 1)) = sizeL (l.take k) + ((Lib.decDigits l[k].size).length + 1 + l[k].size) := by
 rw [List.take_succ_eq_append_getElem h]; unfold sizeL; rw [List.map_append, List.sum_append]; simp
theorem sizeL_take (l : List ByteArray) : ∀ k, sizeL (l.take k) ≤ sizeL l := by
 intro k
 have h : sizeL (l.take k) + sizeL (l.drop k) = sizeL l := by
  unfold sizeL
  rw [← List.sum_append, ← List.map_append, List.take_append_drop]
 omega
theorem streamL_snoc (l : List ByteArray) (k : Nat) (h : k < l.length) : streamL (l.take (k + 1)) = streamL (l.take k) ++ recL l[k] := by
 rw [List.take_succ_eq_append_getElem h]; unfold streamL; rw [List.map_append, List.flatten_append]; simp
theorem streamL_len (l : List ByteArray) : (streamL l).length = sizeL l := by
 induction l with
 | nil => rfl
 | cons x l ih =>
  have e : streamL (x :: l) = recL x ++ streamL l := by simp [streamL]
  have e' : sizeL (x :: l) = ((Lib.decDigits x.size).length + 1 + x.size) + sizeL l := by simp [sizeL]
  rw [e, e', List.length_append, ih]
  unfold recL
  rw [List.length_append, List.length_cons, len_size]
  omega
set_option maxHeartbeats 2000000 in
theorem pl_Size {S : Nat → Prop} (w : World) (o : Option Addr) (c : Nat) (l : List ByteArray) (ha : StrsAt S w o l) (hm : sizeL l ≤ 1000000000000) (hT : TabW w) (hl : l.length ≤ 140737488351232) :
  Calls Tryd.prog 18 #[.slice o l.length c] w fun e w' => e = .returned (.int .i64 (sizeL l)) ∧ Below w.heap.size w w' := by
 go_enter Tryd.func18, Tryd.ntmps18
 go_wp2
 go_loopw [3, 5, 8] (fun n _ i wr => ∃ (k m : Nat), k ≤ l.length ∧ i = .int .i64 k ∧ n = .int .i64 m ∧ m ≤ 1000000000000 ∧ Hid (sizeL (l.take k) = m) ∧ Below w.heap.size w wr) (fun _ _ i _ => l.length - (intOf i).toNat)
 case atStart => exact ⟨0, 0, by omega, rfl, rfl, by omega, Lib.hid rfl, Below.refl _ _⟩
 case round =>
  obtain ⟨k, m, hk, rfl, rfl, hm', hv, hB⟩ := hrel
  by_cases hlt : k < l.length
  ·
   obtain ⟨b, off, rfl, hc0, _⟩ := ha k hlt
   have hc : wr.cell? ⟨b, off + k, none⟩ = some (.string l[k]) := by rw [hB.cell (World.block_lt_of_cell? w _ hc0)]; exact hc0
   have hsn := sizeL_snoc l k hlt
   have htk := sizeL_take l (k + 1)
   have hsz : l[k].size ≤ 140737488351232 := by omega
   have hdl := (dec_len hsz).2
   have hd1 := (dec_len hsz).1
   have hsum : m + ((Lib.decDigits l[k].size).length + 1 + l[k].size) ≤ 1000000000000 := by have := hv.out; omega
   have Hs := Lib.hid hsn
   clear hsn htk hc0
   go_wp2_with fail
   refine (pl_itoa l[k].size _ hsz (hT.below hB)).mono ?_
   rintro e w1 ⟨rfl, hb1⟩
   have hB1 := btr hB hb1
   clear hc
   go_wp2
   go_roundw
   case rel => exact ⟨k + 1, m + ((Lib.decDigits l[k].size).length + 1 + l[k].size), by omega, by go_num, by go_num, hsum, Lib.hid (by rw [Hs.out, hv.out]), hB1⟩
   case measure => simp [intOf]; omega
  ·
   obtain rfl : k = l.length := by omega
   go_wp2
   go_ret
   exact ⟨by rw [← hv.out, List.take_length]; rfl, hB⟩
theorem bdAt_below {B b : Nat} {p : Value} {bs : List Value} {w w' : World} (h : BdAt B b p bs w) (hb : Below w.heap.size w w') : BdAt B b p bs w' := by
 have hlt := h.lt
 obtain ⟨hB, v, hbk, hown, hne⟩ := h
 exact ⟨hB, v, (hb.block b hlt).trans hbk, ownsRow_belowAll hown hb, hne⟩
theorem isBd_below {B b : Nat} {bs : List Value} {w w' : World} (h : IsBd B b bs w) (hb : Below w.heap.size w w') : IsBd B b bs w' := h.imp (bdAt_below · hb) (bdAt_below · hb)
theorem streamL_ne {l : List ByteArray} (h : l ≠ []) : streamL l ≠ [] := by
 cases l with
 | nil => exact absurd rfl h
 | cons x l => simp [streamL, recL]
set_option maxHeartbeats 2000000 in
theorem pl_stream {S : Nat → Prop} (w : World) (o : Option Addr) (c : Nat) (l : List ByteArray) (ha : StrsAt S w o l) (hm : sizeL l ≤ 1000000000000) (hT : TabW w) (hl : l.length ≤ 140737488351232) (h0 : l ≠ []) :
  Calls Tryd.prog 41 #[.slice o l.length c] w fun e w' => e = .returned (.string (bs (streamL l))) ∧ Below w.heap.size w w' := by
 go_enter Tryd.func41, Tryd.ntmps41
 go_wp2
 go_loopw [5, 8] (fun _ i wr => ∃ (k : Nat), k ≤ l.length ∧ i = .int .i64 k ∧ Hid (IsBd w.heap.size w.heap.size (bytesV (streamL (l.take k))) wr) ∧ Below w.heap.size w wr ∧ w.heap.size < wr.heap.size) (fun _ i _ => l.length - (intOf i).toNat)
 case atStart => exact ⟨0, by omega, rfl, Lib.hid (Lib.fresh_isBuilder _ _ w), Below.one _ _, by simp⟩
 case round =>
  obtain ⟨k, hk, rfl, hv, hB, hz⟩ := hrel
  by_cases hlt : k < l.length
  ·
   obtain ⟨b, off, rfl, hc0, _⟩ := ha k hlt
   have hc : wr.cell? ⟨b, off + k, none⟩ = some (.string l[k]) := by rw [hB.cell (World.block_lt_of_cell? w _ hc0)]; exact hc0
   have hsn := sizeL_snoc l k hlt
   have htk := sizeL_take l (k + 1)
   have hsz : l[k].size ≤ 140737488351232 := by omega
   have hll := streamL_len (l.take k)
   have hsum : (streamL (l.take k)).length + ((Lib.decDigits l[k].size).length + 1 + l[k].size) ≤ 1000000000000 := by omega
   have hlk := len_size l[k]
   obtain ⟨s, hs⟩ : ∃ s, l[k].data.toList = s := ⟨_, rfl⟩
   have hbs : bs s = l[k] := by rw [← hs, bs_of]
   have Hs := Lib.hid hs
   have Hb := Lib.hid hbs
   have Hl := Lib.hid hlk
   have Hsum := Lib.hid hsum
   clear hsn htk hc0 hll hlk hs hbs hsum
   go_wp2_with fail
   refine (pl_itoa l[k].size _ hsz (hT.below hB)).mono ?_
   rintro e w1 ⟨rfl, hb1⟩
   have hB1 := btr hB hb1
   have hbd1 := Lib.hid (isBd_below hv.out hb1)
   have hz1 := hB1.size
   clear hc
   go_wp2_with fail
   refine (bd_WriteString hbd1.out (Lib.decDigits l[k].size) (by have := Hsum.out; omega) hz1).mono ?_
   rintro e w2 ⟨rfl, hbd2, hb2⟩
   have hB2 := hB1.trans hb2
   have hz2 := hB2.size
   have hbd2 := Lib.hid hbd2
   have hw3 := Lib.hid (show Calls Tryd.prog 59 #[.pointer (some ⟨w.heap.size, 0, none⟩), .int .u8 58] w2 _ from bd_WriteByte hbd2.out 58 (by have := Hsum.out; rw [List.length_append]; omega) hz2)
   go_wp2_with fail
   refine hw3.out.mono ?_
   rintro e w3 ⟨rfl, hbd3, hb3⟩
   have hB3 := hB2.trans hb3
   have hz3 := hB3.size
   have hbd3 := Lib.hid hbd3
   have hw4 := Lib.hid (bd_WriteString hbd3.out s (by have := Hsum.out; have := Hl.out; rw [Hs.out] at this; rw [List.length_append, List.length_append, List.length_cons, List.length_nil]; omega) hz3)
   rw [Hb.out] at hw4
   go_wp2_with fail
   refine hw4.out.mono ?_
   rintro e w4 ⟨rfl, hbd4, hb4⟩
   have hB4 := hB3.trans hb4
   have hbd4 := Lib.hid hbd4
   have hlt4 : w.heap.size < w4.heap.size := by have := hb1.size; have := hb2.size; have := hb3.size; have := hb4.size; rcases hbd4.out with h | h <;> exact h.lt
   go_wp2
   go_roundw
   case rel =>
    refine ⟨k + 1, by omega, by go_num, Lib.hid ?_, hB4, hlt4⟩
    rw [streamL_snoc l k hlt]
    have := hbd4.out
    rw [← Hs.out] at this
    simpa [recL, List.append_assoc] using this
   case measure => simp [intOf]; omega
  ·
   obtain rfl : k = l.length := by omega
   rw [List.take_length] at hv
   go_wp2_with fail
   refine (bd_Str hv.out (streamL_ne h0)).mono ?_
   rintro e w1 ⟨rfl, hb1⟩
   go_wp2
   go_ret
   exact ⟨rfl, hB.trans hb1⟩
end Go.Proofs.YtghikgjknhjjgaaDoor
namespace Go.Proofs.YtghikgjknhjjgaaDoor
set_option maxRecDepth 100000
open Go.RowKit
/-- the reader's block -/
def RdB (w : World) (b : Nat) (s : ByteArray) (k n : Int) : Prop := Bx w b #[.string s, .int .i64 k, .int .i64 n] 136
def failV (er : Int) : Value := .iface 132 (.agg #[.int .i64 er])
def FailsW (w : World) (e : Ending) (w' : World) : Prop := ∃ er : Int, er ≠ 0 ∧ e = .panicked [{ v := failV er, recovered := false }] ∧ Below w.heap.size w w'
set_option maxHeartbeats 1000000 in
theorem cs_next_ok (w : World) (b : Nat) (s : ByteArray) (k : Nat) (n : Int) (h : RdB w b s k n) (hk : k < s.size) :
  Calls Tryd.prog 79 #[.pointer (some ⟨b, 0, none⟩)] w fun e w' => e = .returned (.int .u8 (s[k].toNat : Int)) ∧ Below w.heap.size w w' := by
 have cX : w.cell? ⟨b, 0, none⟩ = some (.string s) := h.cell 0
 have cY : w.cell? ⟨b, 1, none⟩ = some (.int .i64 k) := h.cell 1
 go_enter Tryd.func79, Tryd.ntmps79
 go_wp2_with fail
 go_quiet (fail)
 go_wp2_with fail
 go_quiet (fail)
 go_wp2
 go_ret
 exact ⟨rfl, Below.drewN (Below.drewN (Below.refl _ _) _) _⟩
set_option maxHeartbeats 1000000 in
theorem cs_next_end (w : World) (b : Nat) (s : ByteArray) (n : Int) (h : RdB w b s s.size n) :
  Calls Tryd.prog 79 #[.pointer (some ⟨b, 0, none⟩)] w (FailsW w) := by
 have cX : w.cell? ⟨b, 0, none⟩ = some (.string s) := h.cell 0
 have cY : w.cell? ⟨b, 1, none⟩ = some (.int .i64 s.size) := h.cell 1
 go_enter Tryd.func79, Tryd.ntmps79
 go_wp2_with fail
 go_quiet (fail)
 go_wp2_with fail
 exact ⟨rfl, 11, by decide, rfl, Below.drewN (Below.refl _ _) _⟩
theorem grown_of_below {w w' : World} (h : Below w.heap.size w w') (row : Option Nat) : w.grownBy w' row := ⟨h.os, h.tape, h.output, h.size, fun k hk _ => h.block k hk⟩
theorem RdB.below {w w' : World} {b : Nat} {s : ByteArray} {k n : Int} (h : RdB w b s k n) (hb : Below w.heap.size w w') : RdB w' b s k n := Bx.belowAll h hb
theorem grown_set {w : World} {b k : Nat} {v : Value} : w.grownBy (w.setCell ⟨b, k, none⟩ v) (some b) :=
 have h := (Below.refl 0 w).setCell (p := ⟨b, k, none⟩) (Nat.zero_le _) v
 ⟨h.os, h.tape, h.output, h.size, fun j _ hj => Below.heap_setCell w ⟨b, k, none⟩ v j (fun e => hj (by rw [e]))⟩
theorem grown_setN {w W : World} {row : Option Nat} (h : w.grownBy W row) {a k : Nat} (ha : w.heap.size ≤ a) (v : Value) : w.grownBy (W.setCell ⟨a, k, none⟩ v) row :=
 have g := (Below.refl 0 W).setCell (p := ⟨a, k, none⟩) (Nat.zero_le _) v
 ⟨g.os.trans h.os, g.tape.trans h.tape, g.output.trans h.output, Nat.le_trans h.size g.size, fun j hj hr => (Below.heap_setCell W ⟨a, k, none⟩ v j (by show j ≠ a; omega)).trans (h.block j hj hr)⟩
/-- where the reader stands -/
def atW (w : World) (b : Nat) : Nat := match w.cell? ⟨b, 1, none⟩ with | some v => (intOf v).toNat | none => 0
theorem RdB.at_ {w : World} {b : Nat} {s : ByteArray} {k : Nat} {n : Int} (h : RdB w b s k n) : atW w b = k := by
 have : w.cell? ⟨b, 1, none⟩ = some (.int .i64 k) := h.cell 1
 unfold atW; rw [this]; rfl
def FailsB (b : Nat) (w : World) (e : Ending) (w' : World) : Prop := ∃ er : Int, er ≠ 0 ∧ e = .panicked [{ v := failV er, recovered := false }] ∧ w.grownBy w' (some b)
def LenB (b : Nat) (s : ByteArray) (nodes : Int) (w : World) : Option (Nat × List UInt8) → Ending → World → Prop
 | some (n, r), e, w' => e = .returned (.int .i64 n) ∧ w.grownBy w' (some b) ∧ RdB w' b s ((s.size - r.length : Nat) : Int) nodes
 | none, e, w' => FailsB b w e w'
theorem drop_cons (s : ByteArray) (k : Nat) (h : k < s.size) : s.data.toList.drop k = s[k] :: s.data.toList.drop (k + 1) := by
 have hk : k < s.data.toList.length := by rw [len_size]; exact h
 rw [List.drop_eq_getElem_cons hk]; rfl
set_option maxHeartbeats 4000000 in
theorem cs_length (w : World) (b : Nat) (s : ByteArray) (k0 : Nat) (nodes : Int) (h : RdB w b s k0 nodes) (hk0 : k0 ≤ s.size) (hs : s.size ≤ 140737488351232) :
  Calls Tryd.prog 80 #[.pointer (some ⟨b, 0, none⟩)] w (LenB b s nodes w (lenP (s.data.toList.drop k0) true 0)) := by
 obtain ⟨R, hR⟩ : ∃ R, lenP (s.data.toList.drop k0) true 0 = R := ⟨_, rfl⟩
 have HR := Lib.hid hR
 rw [hR]
 clear hR
 go_enter Tryd.func80, Tryd.ntmps80
 go_wp2
 go_loopw [3, 4] (fun n f wr => ∃ (k m : Nat) (fb : Bool), k ≤ s.size ∧ f = .bool fb ∧ n = .int .i64 m ∧ m ≤ 65536 ∧ Hid (lenP (s.data.toList.drop k) fb m = R) ∧ Hid (RdB wr b s k nodes) ∧ w.grownBy wr (some b)) (fun _ _ wr => s.size - atW wr b)
 case atStart => exact ⟨k0, 0, true, hk0, rfl, rfl, by omega, HR, Lib.hid h, World.grownBy.refl _ _⟩
 case round =>
  clear h HR
  obtain ⟨k, m, fb, hk, rfl, rfl, hm, hv, hr, hg⟩ := hrel
  by_cases hlt : k < s.size
  ·
   go_wp2_with fail
   refine (cs_next_ok wr b s k nodes hr.out hlt).mono ?_
   rintro e w1 ⟨rfl, hb1⟩
   have hr1 := Lib.hid (hr.out.below hb1)
   have hg1 := hg.trans (grown_of_below hb1 (some b))
   have hlb : b < w1.heap.size := Bx.lt hr1.out
   have cY : w1.cell? ⟨b, 1, none⟩ = some (.int .i64 k) := Bx.cell hr1.out 1
   have fY : w1.frozen? ⟨b, 1, none⟩ = false := Bx.free hr1.out 1
   have hx : RdB (w1.setCell ⟨b, 1, none⟩ (.int .i64 ((k + 1 : Nat) : Int))) b s ((k + 1 : Nat) : Int) nodes := Bx.set hr1.out 1 _
   have hx := Lib.hid hx
   have hgs : w.grownBy (w1.setCell ⟨b, 1, none⟩ (.int .i64 ((k + 1 : Nat) : Int))) (some b) := hg1.trans grown_set
   have hgs := Lib.hid hgs
   have hgf := Lib.hid hg1
   have hdr := Lib.hid (drop_cons s k hlt)
   obtain ⟨c, hc⟩ : ∃ c, s[k] = c := ⟨_, rfl⟩
   have hcb := c.toNat_lt
   rw [hc] at hdr ⊢
   rw [hdr.out] at hv
   clear hc hdr hb1 hg hg1
   have hv := Lib.hid hv.out
   have hfail : R = none → ∀ (er : Int), er ≠ 0 → bodyPost Tryd.prog Tryd.f80 (LenB b s nodes w R) (Exit.panic [{ v := failV er, recovered := false }]) { tmps := #[], defers := [] } w1 := fun h er her => ⟨rfl, by rw [h]; exact ⟨er, her, rfl, hgf.out⟩⟩
   have hfail := Lib.hid hfail
   cases e58 : decide (c.toNat = 58)
   ·
    have n58 := of_decide_eq_false e58
    have n58' : ((c.toNat : Int) == 58) = false := by rw [beq_eq_false_iff_ne]; omega
    have u58 : ¬ c = 58 := fun e => n58 (by rw [e]; rfl)
    rw [lenP, if_neg (fun h => u58 h.1)] at hv
    cases e48 : decide ((c.toNat : Int) < 48)
    ·
     have n48 := of_decide_eq_false e48
     cases e57 : decide (57 < (c.toNat : Int))
     ·
      have n57 := of_decide_eq_false e57
      have hw8 : ((c.toNat : Int) - 48) % 256 = (c.toNat : Int) - 48 := by omega
      obtain ⟨D, hD⟩ : ∃ D : Nat, c.toNat = 48 + D := ⟨c.toNat - 48, by omega⟩
      have hD9 : D ≤ 9 := by omega
      have hDi : (c.toNat : Int) - 48 = (D : Int) := by omega
      have hD48 : c.toNat - 48 = D := by omega
      rw [hD48] at hv
      clear hw8
      cases fb
      ·
       cases e0 : decide (m = 0)
       ·
        have n0 := of_decide_eq_false e0
        have n0' : ((m : Int) == 0) = false := by rw [beq_eq_false_iff_ne]; omega
        rw [if_neg (by omega)] at hv
        cases e6 : decide (65536 < 10 * m + D)
        ·
         have n6 := of_decide_eq_false e6
         rw [if_neg n6] at hv
         go_wp2
         go_roundw
         case rel => exact ⟨k + 1, 10 * m + D, false, by omega, rfl, by go_num, by omega, hv, hx, hgs.out⟩
         case measure =>
          have ha : atW (w1.setCell ⟨b, 1, none⟩ (.int .i64 ((k : Int) + 1))) b = k + 1 := hx.out.at_
          rw [ha, hr.out.at_]; omega
        ·
         have n6 := of_decide_eq_true e6
         rw [if_pos n6] at hv
         go_wp2
         exact hfail.out hv.out.symm 12 (by decide)
       ·
        obtain rfl : m = 0 := of_decide_eq_true e0
        rw [if_pos (Or.inr (Or.inr ⟨rfl, rfl⟩))] at hv
        go_wp2
        exact hfail.out hv.out.symm 12 (by decide)
      ·
       rw [if_neg (by simp; omega)] at hv
       cases e6 : decide (65536 < 10 * m + D)
       ·
        have n6 := of_decide_eq_false e6
        rw [if_neg n6] at hv
        go_wp2
        go_roundw
        case rel => exact ⟨k + 1, 10 * m + D, false, by omega, rfl, by go_num, by omega, hv, hx, hgs.out⟩
        case measure =>
         have ha : atW (w1.setCell ⟨b, 1, none⟩ (.int .i64 ((k : Int) + 1))) b = k + 1 := hx.out.at_
         rw [ha, hr.out.at_]; omega
       ·
        have n6 := of_decide_eq_true e6
        rw [if_pos n6] at hv
        go_wp2
        exact hfail.out hv.out.symm 12 (by decide)
     ·
      have n57 := of_decide_eq_true e57
      rw [if_pos (by omega)] at hv
      go_wp2
      exact hfail.out hv.out.symm 12 (by decide)
    ·
     have n48 := of_decide_eq_true e48
     rw [if_pos (by omega)] at hv
     go_wp2
     exact hfail.out hv.out.symm 12 (by decide)
   ·
    obtain rfl : c = 58 := by
     have := of_decide_eq_true e58
     exact UInt8.toNat_inj.1 this
    cases fb
    ·
     rw [lenP, if_pos ⟨rfl, rfl⟩] at hv
     go_wp2
     go_ret
     rw [← hv.out]
     refine ⟨rfl, hgs.out, ?_⟩
     rw [show s.size - (s.data.toList.drop (k + 1)).length = k + 1 by rw [List.length_drop, len_size]; omega]
     exact hx.out
    ·
     rw [lenP, if_neg (by simp), if_pos (Or.inr (Or.inl (by decide)))] at hv
     go_wp2
     exact hfail.out hv.out.symm 12 (by decide)
  ·
   obtain rfl : k = s.size := by omega
   go_wp2_with fail
   refine (cs_next_end wr b s nodes hr.out).mono ?_
   rintro e w1 ⟨er, her, rfl, hb1⟩
   go_wp2
   refine ⟨rfl, ?_⟩
   rw [show s.data.toList.drop s.size = [] by rw [List.drop_eq_nil_iff, len_size]; exact Nat.le_refl _, lenP] at hv
   rw [← hv.out]
   exact ⟨er, her, rfl, hg.trans (grown_of_below hb1 (some b))⟩
theorem lenP_suffix : ∀ (L : List UInt8) (f : Bool) (m : Nat) {n : Nat} {r : List UInt8}, lenP L f m = some (n, r) → ∃ j, j ≤ L.length ∧ 1 ≤ j ∧ r = L.drop j
 | [], f, m, n, r, h => by simp [lenP] at h
 | c :: L, f, m, n, r, h => by
  rw [lenP] at h
  split at h
  ·
   simp only [Option.some.injEq, Prod.mk.injEq] at h
   exact ⟨1, by simp, by omega, by simp [h.2]⟩
  ·
   split at h
   ·
    cases h
   ·
    split at h
    ·
     cases h
    ·
     obtain ⟨j, h1, h2, h3⟩ := lenP_suffix L _ _ h
     exact ⟨j + 1, by simpa using h1, by omega, by simpa using h3⟩
/-- what reading a node ends in, where it is an atom -/
def AtomB (b : Nat) (s : ByteArray) (k : Nat) (nodes : Int) (w : World) : Option (List UInt8 × Nat) → Ending → World → Prop
 | some (a, n), e, w' => e = .returned (.agg #[.bool false, .string (bs a), .slice none 0 0]) ∧ w.grownBy w' (some b) ∧ RdB w' b s ((k + n : Nat) : Int) (nodes + 1)
 | none, e, w' => FailsB b w e w'
set_option maxHeartbeats 4000000 in
theorem cs_atom (w : World) (b : Nat) (s : ByteArray) (k : Nat) (nodes level : Int) (h : RdB w b s k nodes) (hk : k < s.size) (hs : s.size ≤ 140737488351232) (hn0 : 0 ≤ nodes) (hn : nodes < 20000) (hl : level ≤ 12) (hc : s[k] ≠ 40) :
  Calls Tryd.prog 72 #[.pointer (some ⟨b, 0, none⟩), .int .i64 level] w (AtomB b s k nodes w (atomP (s.data.toList.drop k))) := by
 obtain ⟨R, hR⟩ : ∃ R, atomP (s.data.toList.drop k) = R := ⟨_, rfl⟩
 have HR := Lib.hid hR
 rw [hR]
 clear hR
 have hlt0 : b < w.heap.size := Bx.lt h
 go_enter Tryd.func72, Tryd.ntmps72
 go_wp2_with fail
 refine (cs_next_ok _ b s k nodes (h.below (Below.one _ _)) hk).mono ?_
 rintro e w1 ⟨rfl, hb1⟩
 have hB1 := btr (Below.one _ _) hb1
 have hr1 := Lib.hid (h.below hB1)
 have xV := (Bx.new w _ _).belowAll hb1
 have hlb : b < w1.heap.size := Bx.lt hr1.out
 have cN : w1.cell? ⟨b, 2, none⟩ = some (.int .i64 nodes) := Bx.cell hr1.out 2
 have fN : w1.frozen? ⟨b, 2, none⟩ = false := Bx.free hr1.out 2
 have hr2 : RdB (w1.setCell ⟨b, 2, none⟩ (.int .i64 (nodes + 1))) b s k (nodes + 1) := Bx.set hr1.out 2 _
 have hr2 := Lib.hid hr2
 have hc' : ((s[k].toNat : Int) != 40) = true := by
  rw [bne_iff_ne]
  intro e
  exact hc (UInt8.toNat_inj.1 (by show s[k].toNat = 40; omega))
 go_wp2_with fail
 have hL := cs_length _ b s k (nodes + 1) hr2.out (by omega) hs
 have hg2 : w.grownBy (w1.setCell ⟨b, 2, none⟩ (.int .i64 (nodes + 1))) (some b) := (grown_of_below hB1 (some b)).trans grown_set
 have hg2 := Lib.hid hg2
 have xV2 : Bx (w1.setCell ⟨b, 2, none⟩ (.int .i64 (nodes + 1))) w.heap.size #[.bool false, .string .empty, .slice none 0 0] 109 := Bx.setO xV (a := ⟨b, 2, none⟩) (by simp; omega) _
 have xV2 := Lib.hid xV2
 generalize hW : (w1.setCell ⟨b, 2, none⟩ (.int .i64 (nodes + 1))) = W2 at *
 clear hW xV cN fN hr1 hr2 hB1 hb1 h hlb
 have hzV : w.heap.size < W2.heap.size := Bx.lt xV2.out
 cases hl : lenP (s.data.toList.drop k) true 0 with
 | none =>
  rw [hl] at hL
  refine hL.mono ?_
  rintro e w3 ⟨er, her, rfl, hg3⟩
  have : R = none := by rw [← HR.out]; unfold atomP; rw [hl]
  rw [this]
  exact ⟨rfl, er, her, rfl, hg2.out.trans hg3⟩
 | some q =>
  obtain ⟨n, r⟩ := q
  rw [hl] at hL
  refine hL.mono ?_
  rintro e w3 ⟨rfl, hg3, hr3⟩
  obtain ⟨j, hj1, hj2, rfl⟩ := lenP_suffix _ _ _ hl
  rw [List.length_drop, len_size] at hj1
  have hrl : ((s.data.toList.drop k).drop j).length = s.size - (k + j) := by rw [List.length_drop, List.length_drop, len_size]; omega
  rw [hrl, show s.size - (s.size - (k + j)) = k + j by omega] at hr3
  have hRv : R = if s.size - (k + j) < n then none else some (((s.data.toList.drop (k + j))).take n, j + n) := by
   rw [← HR.out]; unfold atomP; rw [hl]
   simp only [hrl]
   rw [List.length_drop, len_size, List.drop_drop, show s.size - k - (s.size - (k + j)) + n = j + n by omega]
  have HRv := Lib.hid hRv
  obtain ⟨q, hq⟩ : ∃ q, k + j = q := ⟨_, rfl⟩
  rw [hq] at hr3 HRv
  have hqs : q ≤ s.size := by omega
  have Hq := Lib.hid hq
  have hg3' := Lib.hid (hg2.out.trans hg3)
  have xV3 := Lib.hid (Bx.grown xV2.out hg3 (by simp; omega))
  have hr3 := Lib.hid hr3
  have hz3 := hg3.size
  clear hRv hq hl hrl hL HR hg3 xV2 hg2
  have cX : w3.cell? ⟨b, 0, none⟩ = some (.string s) := Bx.cell hr3.out 0
  have cY : w3.cell? ⟨b, 1, none⟩ = some (.int .i64 q) := Bx.cell hr3.out 1
  have fY : w3.frozen? ⟨b, 1, none⟩ = false := Bx.free hr3.out 1
  have hlb : b < w3.heap.size := Bx.lt hr3.out
  cases hlt : decide ((s.size : Int) - q < n)
  ·
   have hlt' := of_decide_eq_false hlt
   go_wp2_with fail
   go_quiet (fail)
   have xV4 : Bx ((w3.drewN nq).setCell ⟨b, 1, none⟩ (.int .i64 ((q + n : Nat) : Int))) w.heap.size #[.bool false, .string .empty, .slice none 0 0] 109 := Bx.setO (xV3.out.drewN nq) (a := ⟨b, 1, none⟩) (by simp; omega) _
   have hr5 : RdB ((w3.drewN nq).setCell ⟨b, 1, none⟩ (.int .i64 ((q + n : Nat) : Int))) b s ((q + n : Nat) : Int) (nodes + 1) := Bx.set (Bx.drewN hr3.out nq) 1 _
   have hg5 : w.grownBy ((w3.drewN nq).setCell ⟨b, 1, none⟩ (.int .i64 ((q + n : Nat) : Int))) (some b) := (hg3'.out.trans (grown_of_below (Below.drewN (Below.refl _ _) nq) _)).trans grown_set
   obtain ⟨p, hp⟩ : ∃ p : Nat, q + n = p := ⟨_, rfl⟩
   have hpi : (q : Int) + (n : Int) = (p : Int) := by omega
   rw [hp] at hr5 hg5 xV4
   have hpq : (p : Int) - (n : Int) = (q : Int) := by omega
   have hps : p ≤ s.size := by omega
   have hqp : q ≤ p := by omega
   go_wp2_with fail
   clear cX cY fY hlb
   have hr5 := Lib.hid hr5
   have hg5 := Lib.hid hg5
   have xV4 := Lib.hid xV4
   generalize hW : ((w3.drewN nq).setCell ⟨b, 1, none⟩ (.int .i64 (p : Int))) = W5 at *
   clear hW
   have cX : W5.cell? ⟨b, 0, none⟩ = some (.string s) := Bx.cell hr5.out 0
   have cY : W5.cell? ⟨b, 1, none⟩ = some (.int .i64 p) := Bx.cell hr5.out 1
   have i1 : (q : Int) ≤ (p : Int) := by omega
   have i0 : IntKind.i64.wrap (q : Int) = q := IntWalk.i64_in _ (by omega)
   have i2 : (p : Int) ≤ (s.size : Int) := by omega
   go_still_tail 15, (by kernel_rfl)
   clear i0
   change wpList _ _ _ _ _ W5.drew
   have hr6 : RdB W5.drew b s p (nodes + 1) := Bx.drew hr5.out
   have xV6 : Bx W5.drew w.heap.size #[.bool false, .string .empty, .slice none 0 0] 109 := Bx.drew xV4.out
   have hg6 : w.grownBy W5.drew (some b) := hg5.out.trans (grown_of_below (Below.drew (Below.refl _ _)) _)
   have hr6 := Lib.hid hr6
   have hg6 := Lib.hid hg6
   generalize W5.drew = W6 at *
   clear cX cY hr5 hg5 xV4
   have cV := xV6.cell
   have fV := xV6.free
   have lV := xV6.lt
   go_wp2
   refine bodyPost_ret (v := .agg #[.bool false, .string (s.extract q p), .slice none 0 0]) (by simp [results, Tryd.results72, go_sem, cV]) rfl ?_
   have hRs : R = some ((s.data.toList.drop q).take n, j + n) := by rw [HRv.out, if_neg (by omega)]
   rw [hRs]
   refine ⟨?_, grown_setN (grown_setN (grown_setN hg6.out (Nat.le_refl _) _) (Nat.le_refl _) _) (Nat.le_refl _) _, ?_⟩
   ·
    rw [show s.extract q p = bs ((s.data.toList.drop q).take n) by rw [show n = p - q by omega, ← bs_cut, bs_of]]
   ·
    have hne : b ≠ w.heap.size := by omega
    rw [show k + (j + n) = p by have := Hq.out; omega]
    exact Bx.setO (Bx.setO (Bx.setO hr6.out (a := ⟨w.heap.size, 0, none⟩) hne _) (a := ⟨w.heap.size, 1, none⟩) hne _) (a := ⟨w.heap.size, 2, none⟩) hne _
  ·
   have hlt' := of_decide_eq_true hlt
   go_wp2_with fail
   go_quiet (fail)
   go_wp2
   have : R = none := by rw [HRv.out, if_pos (by omega)]
   rw [this]
   exact ⟨rfl, 11, by decide, rfl, hg3'.out.trans (grown_of_below (Below.drewN (Below.refl _ _) _) _)⟩
end Go.Proofs.YtghikgjknhjjgaaDoor
namespace Go.Proofs.YtghikgjknhjjgaaDoor
set_option maxRecDepth 100000
open Go.RowKit
section
variable {P : Program} {ops : Array Oper} {md : Region.Mode} {W0 : World} {an : Anns}
end
end Go.Proofs.YtghikgjknhjjgaaDoor
