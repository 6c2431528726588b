/- The bytes of the area, as the reference collects them. Plain laws: what a list of operations makes of a valid disk. No function of the program is named here. Plain laws: the writes that put bytes into the area of a log, page by page. No function of the program is named here. strings.Builder: copyCheck, WriteString, WriteByte, String. Itoa; pagelog.Size, pagelog.stream. -/
import Derived.Test.YtghikgjknhjjgaaGreatDoorQ06
import Derived.Lib.AppendStr
import Derived.Test.YtghikgjknhjjgaaGreatDoorQ01
import Derived.Test.YtghikgjknhjjgaaGreatDoorQ04
import Derived.Lib.Builder
import Derived.Lib.UnsafeStr
import Derived.Laws.Externs
import Derived.RegionTactic
import Derived.ChangeAlike
import Derived.Test.YtghikgjknhjjgaaGreatDoorQ02
import Derived.Lib.SmallJoins
import Derived.Lib.AppendIntMem
namespace Go.Proofs.YtghikgjknhjjgaaGreatDoor
set_option maxRecDepth 100000
open Go.RowKit
theorem bytesV_app (l m : List UInt8) : bytesV (l ++ m) = bytesV l ++ bytesV m := by simp [bytesV]
theorem strCells_bs (l : List UInt8) : Lib.strCells (bs l) = bytesV l := by simp [Lib.strCells, bytesV]
theorem pagesL_succ (d : Dsk) (i : Int) (m : Nat) : pagesL d i (m + 1) = pagesL d i m ++ pageL d (i + m) := by
 unfold pagesL; rw [List.range_succ]; simp
theorem pagesL_len (d : Dsk) (i : Int) (z : Nat) : ∀ m : Nat, (∀ j : Nat, j < m → (pageL d (i + j)).length = z) → (pagesL d i m).length = m * z
 | 0, _ => by simp [pagesL]
 | m + 1, h => by
  rw [pagesL_succ, List.length_append, pagesL_len d i z m (fun j hj => h j (by omega)), h m (by omega), Nat.succ_mul]
theorem lastW_size' {d : Dsk} (h : chk d = 0) {k : Nat} (hk : k < d.pages.length) : ((contentD d k hk).size : Int) = d.size := by
 obtain ⟨_, h2, h3, _⟩ := chk_zero h
 exact lastW_size (fun x hx => (h3 x hx).2.2) _ (h2 _ (List.getElem_mem _))
theorem pageL_len {d : Dsk} (h : chk d = 0) {i : Int} (h0 : 0 ≤ i) (h1 : i < d.pages.length) : (pageL d i).length = d.size.toNat := by
 have hk : i.toNat < d.pages.length := by omega
 have e : (i.toNat : Int) = i := by omega
 unfold pageL
 rw [← e, readD_ok h hk]
 have := lastW_size' h hk
 rw [Array.length_toList]
 show (contentD d i.toNat hk).size = _
 omega
theorem areaL_len {d : Dsk} {frm til : Int} (hf : fitE d frm til = 0) : ((areaL d frm til).length : Int) = areaN d frm til := by
 obtain ⟨h0, h1, h2, h3, h4, h5⟩ := fitE_zero hf
 unfold areaL
 rw [pagesL_len d _ d.size.toNat _ (fun j hj => pageL_len h0 (by omega) (by omega))]
 unfold areaN
 rw [Int.natCast_mul]
 congr 1 <;> omega
set_option maxHeartbeats 2000000 in
theorem rf_area (d : Dsk) (v : Value) (frm til : Int) (w : World) (hf : fitE d frm til = 0) (hD : DskV w v d) :
  Calls Tryz.prog 37 #[v, .int .i64 frm, .int .i64 til] w fun e w' => e = .returned (.string (bs (areaL d frm til))) ∧ Below w.heap.size w w' := by
 obtain ⟨i0, hi, iz0, iz1, iz2⟩ := info_parts infoU8
 obtain ⟨h0, h1, h2, h3, h4, h5⟩ := fitE_zero hf
 have hr := rangedB_true (chk_zero h0).1
 have hD0 := hD
 obtain ⟨po, pc, co, cc, rfl⟩ := hD.agg
 clear hD
 obtain ⟨M, hM⟩ : ∃ M : Nat, (til - frm - 2).toNat = M := ⟨_, rfl⟩
 have hM1 : (M : Int) = til - frm - 2 := by omega
 have HM := Lib.hid hM
 have hlen : ∀ k : Nat, k ≤ M → (pagesL d (frm + 2) k).length = k * d.size.toNat := fun k hk => pagesL_len d _ d.size.toNat _ (fun j hj => pageL_len h0 (by omega) (by omega))
 have Hlen := Lib.hid hlen
 have Hpg := Lib.hid (fun (i : Int) (h : 0 ≤ i) (h' : i < (d.pages.length : Int)) => pageL_len h0 h h')
 clear hM hlen hf h0
 go_enter Tryz.func37, Tryz.ntmps37
 go_wp2
 go_loopw [7, 8] (fun v i wr => ∃ (k : Nat) (x : Int), k ≤ M ∧ i = .int .i64 x ∧ 2 ≤ x ∧ x ≤ til ∧ Hid (x = frm + 2 + k) ∧ Hid (wr.ownsRow (w.heap.size + 1) 5 1 v (k * d.size.toNat) (bytesV (pagesL d (frm + 2) k))) ∧ Bx wr w.heap.size #[.int .i64 d.size, .slice po d.pages.length pc, .slice co d.cache.length cc, .int .i64 d.left] 25 ∧ Below w.heap.size w wr ∧ w.heap.size + 1 ≤ wr.heap.size) (fun _ i _ => (til - intOf i).toNat)
 case atStart => exact ⟨0, frm + 2, by omega, rfl, by omega, by omega, Lib.hid (by simp), Lib.hid (by simpa [pagesL, bytesV] using ownsRow_empty (w.alloc _) (w.heap.size + 1) _ 5 1 (by simp) (Nat.le_refl _)), (Bx.new w _ _).alloc _, (Below.one w _).alloc (by simp) _, by simp⟩
 case round =>
  obtain ⟨k, x, hk, rfl, hx1, hx2, hx, hown, xD, hB, hz⟩ := hrel
  by_cases hlt : x < til
  ·
   have hkM : k < M := by have := hx.out; omega
   have cX := xD.cell
   have lX := xD.lt
   go_wp2_with fail
   refine (rf_read d _ x _ (hD0.below hB)).mono ?_
   rintro e w1 ⟨rfl, hb1⟩
   have xD1 := xD.belowAll hb1
   have hB1 := btr hB hb1
   have hz1 := hb1.size
   have hown1 := ownsRow_belowAll hown.out hb1
   have hkz : k * d.size.toNat ≤ 2000 * 512 := Nat.mul_le_mul (by omega) (by omega)
   have hpl : (bs (pageL d x)).size = d.size.toNat := by rw [bs_size]; exact Hpg.out x (by omega) (by omega)
   have hsz : d.size.toNat ≤ 512 := by omega
   clear cX lX
   go_wp2_with (at_builtin; refine Lib.wpList_append_own_string _ rfl _ _ 86 9 rfl (w.heap.size + 1) 5 i0 Tryz.underlying86 Tryz.underlying9 hi iz0 iz1 iz2 _ _ _ rfl hown1 _ rfl (by unfold maxLen; omega) (by omega) (by omega) ?_; intro v' w2 hown2 hg _)
   have hs2 := hg.size
   have hg : w1.grownBy w2 u7.ownBlock := hg
   have hn : ∀ b, u7.ownBlock = some b → w.heap.size + 1 ≤ b := fun b e => (hown1.lt b e).1
   go_roundw
   case rel =>
    refine ⟨k + 1, x + 1, by omega, rfl, by omega, by omega, Lib.hid (by have := hx.out; omega), Lib.hid ?_, xD1.grown hg (fun e => by have := hn _ e.symm; omega), hB1.grown hg hB1.size (fun b e => by have := hn b e; omega), by omega⟩
    rw [pagesL_succ, bytesV_app, Nat.succ_mul, ← hx.out, ← strCells_bs (pageL d x)]
    rw [hpl] at hown2
    exact hown2
   case measure => simp [intOf]; omega
  ·
   obtain rfl : x = til := by omega
   have hkM : k = M := by have := hx.out; omega
   subst hkM
   obtain ⟨o, c, rfl, hs, hrw, _⟩ := ownsRow_at hown.out
   have hkl : (pagesL d (frm + 2) k).length = k * d.size.toNat := Hlen.out k (Nat.le_refl _)
   go_wp2_with (refine wpList_str rfl _ 86 9 5 rfl Tryz.underlying86 Tryz.underlying5 Tryz.underlying9 _ _ _ (pagesL d (frm + 2) k) rfl hkl hrw ?_)
   go_ret
   refine ⟨?_, hB⟩
   unfold areaL
   rw [HM.out]; rfl
end Go.Proofs.YtghikgjknhjjgaaGreatDoor
namespace Go.Proofs.YtghikgjknhjjgaaGreatDoor
set_option maxRecDepth 100000
open Go.RowKit
/-- an operation that fits a disk -/
def GoodOp (d : Dsk) : DOp → Prop
 | .wr i data => 0 ≤ i ∧ i < d.pages.length ∧ (data.size : Int) = d.size
 | .fl => True
theorem GoodOp.of {d e : Dsk} {o : DOp} (h : GoodOp d o) (h1 : e.pages.length = d.pages.length) (h2 : e.size = d.size) : GoodOp e o := by
 cases o with
 | wr i data => obtain ⟨a, b, c⟩ := h; exact ⟨a, by rw [h1]; exact b, by rw [h2]; exact c⟩
 | fl => exact trivial
/-- two disks of one shape -/
def Shape (d e : Dsk) : Prop := chk e = 0 ∧ e.size = d.size ∧ e.pages.length = d.pages.length
theorem Shape.refl {d : Dsk} (h : chk d = 0) : Shape d d := ⟨h, rfl, rfl⟩
theorem Shape.trans {a b c : Dsk} (h : Shape a b) (k : Shape b c) : Shape a c := ⟨k.1, k.2.1.trans h.2.1, k.2.2.trans h.2.2⟩
theorem pageL_nat {d : Dsk} (h : chk d = 0) {k : Nat} (hk : k < d.pages.length) : pageL d k = (contentD d k hk).data.toList := by
 unfold pageL
 rw [readD_ok h hk]
theorem opP_stop {d : Dsk} {o : DOp} (h : chk d = 0) (g : GoodOp d o) (hl : d.left = 0) : opP d o = (d, 18) := by
 cases o with
 | wr i data =>
  obtain ⟨a, b, c⟩ := g
  unfold opP writeD
  simp only
  rw [if_neg (by simp [h]), if_neg (by omega), if_neg (by simp [c]), if_pos hl]
 | fl => unfold opP flushD; simp only; rw [if_neg (by simp [h]), if_pos hl]
theorem opP_wr {d : Dsk} {i : Int} {data : ByteArray} (h : chk d = 0) (g : GoodOp d (.wr i data)) (hl : d.left ≠ 0) : opP d (.wr i data) = ({ opD d with cache := d.cache ++ [⟨i, data⟩] }, 0) := by
 obtain ⟨a, b, c⟩ := g
 unfold opP writeD
 simp only
 rw [if_neg (by simp [h]), if_neg (by omega), if_neg (by simp [c]), if_neg hl]
theorem opP_fl {d : Dsk} (h : chk d = 0) (hl : d.left ≠ 0) : opP d .fl = (⟨d.size, contentsD d, [], (opD d).left⟩, 0) := by
 unfold opP flushD
 simp only
 rw [if_neg (by simp [h]), if_neg hl]
theorem opP_shape {d : Dsk} {o : DOp} (h : chk d = 0) (g : GoodOp d o) : Shape d (opP d o).1 := by
 by_cases hl : d.left = 0
 ·
  rw [opP_stop h g hl]; exact .refl h
 ·
  cases o with
  | wr i data =>
   rw [opP_wr h g hl]
   exact ⟨write_chk h g.1 g.2.1 g.2.2, rfl, rfl⟩
  | fl =>
   rw [opP_fl h hl]
   exact ⟨flush_chk h _ (opD_left (chk_zero h).2.2.2), rfl, contentsD_len d⟩
/-- what a page reads as behind an operation that succeeds -/
theorem opP_page {d : Dsk} {o : DOp} (h : chk d = 0) (g : GoodOp d o) (hl : d.left ≠ 0) {k : Nat} (hk : k < d.pages.length) :
  pageL (opP d o).1 k = match o with | .wr i data => if i = k then data.data.toList else pageL d k | .fl => pageL d k := by
 have hs := opP_shape h g
 have hk' : k < (opP d o).1.pages.length := by rw [hs.2.2]; exact hk
 rw [pageL_nat hs.1 hk', pageL_nat h hk]
 cases o with
 | wr i data =>
  simp only
  rw [content_write hk _ (by rw [opP_wr h g hl]) hk']
  split <;> rfl
 | fl =>
  simp only
  rw [content_flush hk _ (by rw [opP_fl h hl]) hk']
theorem perf_stop {d : Dsk} {ops : List DOp} (h : chk d = 0) (g : ∀ o ∈ ops, GoodOp d o) (hl : d.left = 0) (hne : ops ≠ []) : perfP d ops = (d, 18) := by
 cases ops with
 | nil => exact absurd rfl hne
 | cons o r => rw [perfP, opP_stop h (g o (by simp)) hl, if_pos (by simp)]
theorem perf_shape : ∀ {ops : List DOp} {d : Dsk}, chk d = 0 → (∀ o ∈ ops, GoodOp d o) → Shape d (perfP d ops).1 ∧ ((perfP d ops).2 = 0 ∨ (perfP d ops).2 = 18)
 | [], d, h, _ => ⟨.refl h, .inl rfl⟩
 | o :: r, d, h, g => by
  rw [perfP]
  have hs := opP_shape h (g o (by simp))
  split
  ·
   rename_i he
   refine ⟨hs, .inr ?_⟩
   by_cases hl : d.left = 0
   ·
    rw [opP_stop h (g o (by simp)) hl]
   ·
    exfalso
    apply he
    cases o with
    | wr i data => rw [opP_wr h (g _ (by simp)) hl]
    | fl => rw [opP_fl h hl]
  ·
   have := perf_shape (ops := r) hs.1 (fun o' ho' => (g o' (by simp [ho'])).of hs.2.2 hs.2.1)
   exact ⟨hs.trans this.1, this.2⟩
theorem perf_app : ∀ (a b : List DOp) (d : Dsk), perfP d (a ++ b) = if (perfP d a).2 ≠ 0 then perfP d a else perfP (perfP d a).1 b
 | [], b, d => by simp [perfP]
 | o :: r, b, d => by
  rw [List.cons_append, perfP, perfP, perf_app r b]
  by_cases h : (opP d o).2 ≠ 0
  ·
   rw [if_pos h, if_pos h, if_pos h]
  ·
   rw [if_neg h, if_neg h]
theorem perf_on {d : Dsk} {o : DOp} {r : List DOp} (h : (opP d o).2 = 0) : perfP d (o :: r) = perfP (opP d o).1 r := by rw [perfP, if_neg (by simp [h])]
/-- pages that no operation writes read as before -/
theorem perf_else : ∀ {ops : List DOp} {d : Dsk} {k : Nat}, chk d = 0 → (∀ o ∈ ops, GoodOp d o) → k < d.pages.length → (∀ i data, DOp.wr i data ∈ ops → i ≠ k) → pageL (perfP d ops).1 k = pageL d k
 | [], _, _, _, _, _, _ => rfl
 | o :: r, d, k, h, g, hk, hn => by
  have hs := opP_shape h (g o (by simp))
  have hp : pageL (opP d o).1 k = pageL d k := by
   by_cases hl : d.left = 0
   ·
    rw [opP_stop h (g o (by simp)) hl]
   ·
    rw [opP_page h (g o (by simp)) hl hk]
    cases o with
    | wr i data => exact if_neg (hn i data (by simp))
    | fl => rfl
  rw [perfP]
  split
  ·
   exact hp
  ·
   rw [perf_else (ops := r) hs.1 (fun o' ho' => (g o' (by simp [ho'])).of hs.2.2 hs.2.1) (by rw [hs.2.2]; exact hk) (fun i data hm => hn i data (by simp [hm]))]
   exact hp
/-- a page all of whose writes bear the same bytes -/
theorem perf_hit : ∀ {ops : List DOp} {d : Dsk} {k : Nat} {D : List UInt8}, chk d = 0 → (∀ o ∈ ops, GoodOp d o) → k < d.pages.length → (perfP d ops).2 = 0 → (∀ i data, DOp.wr i data ∈ ops → i = k → data.data.toList = D) →
  (pageL d k = D ∨ ∃ i data, DOp.wr i data ∈ ops ∧ i = k) → pageL (perfP d ops).1 k = D
 | [], d, k, D, _, _, _, _, _, h => by
  rcases h with h | ⟨i, data, h, _⟩
  ·
   exact h
  ·
   cases h
 | o :: r, d, k, D, h, g, hk, he, hn, hh => by
  have hl : d.left ≠ 0 := by
   intro hl
   rw [perf_stop h g hl (by simp)] at he
   cases he
  have hs := opP_shape h (g o (by simp))
  have he0 : (opP d o).2 = 0 := by
   cases o with
   | wr i data => rw [opP_wr h (g _ (by simp)) hl]
   | fl => rw [opP_fl h hl]
  rw [perf_on he0] at he ⊢
  refine perf_hit hs.1 (fun o' ho' => (g o' (by simp [ho'])).of hs.2.2 hs.2.1) (by rw [hs.2.2]; exact hk) he (fun i data hm => hn i data (by simp [hm])) ?_
  rw [opP_page h (g o (by simp)) hl hk]
  cases o with
  | wr i data =>
   simp only
   by_cases hi : i = k
   ·
    rw [if_pos hi]; exact .inl (hn i data (by simp) hi)
   ·
    rw [if_neg hi]
    refine hh.imp id ?_
    rintro ⟨i', data', hm, e⟩
    rcases List.mem_cons.1 hm with hm | hm
    ·
     exact absurd (by cases hm; exact e) hi
    ·
     exact ⟨i', data', hm, e⟩
  | fl =>
   refine hh.imp id ?_
   rintro ⟨i', data', hm, e⟩
   rcases List.mem_cons.1 hm with hm | hm
   ·
    cases hm
   ·
    exact ⟨i', data', hm, e⟩
/-- writes, as operations -/
abbrev wrO (x : PW) : DOp := .wr x.page x.data
/-- a list of writes on a disk, as far as the power goes -/
theorem perf_ws : ∀ (ws : List PW) {d : Dsk}, chk d = 0 → (∀ x ∈ ws, GoodOp d (wrO x)) →
  (∃ j, j ≤ ws.length ∧ (perfP d (ws.map wrO)).1.cache = d.cache ++ ws.take j ∧ (perfP d (ws.map wrO)).1.pages = d.pages ∧
   (((perfP d (ws.map wrO)).2 = 0 ∧ j = ws.length ∧ (d.left = -1 → (perfP d (ws.map wrO)).1.left = -1)) ∨ ((perfP d (ws.map wrO)).2 = 18 ∧ (perfP d (ws.map wrO)).1.left = 0 ∧ d.left ≠ -1)))
 | [], d, _, _ => ⟨0, by simp, by simp [perfP], rfl, .inl ⟨rfl, rfl, fun h => h⟩⟩
 | x :: r, d, h, g => by
  by_cases hl : d.left = 0
  ·
   rw [perf_stop h (fun o ho => by obtain ⟨y, hy, rfl⟩ := List.mem_map.1 ho; exact g y hy) hl (by simp)]
   exact ⟨0, by simp, by simp, rfl, .inr ⟨rfl, hl, by omega⟩⟩
  ·
   have hg := g x (by simp)
   have hs := opP_shape h hg
   have he := opP_wr h hg hl
   obtain ⟨j, hj, h1, h2, h3⟩ := perf_ws r hs.1 (fun y hy => (g y (by simp [hy])).of hs.2.2 hs.2.1)
   rw [List.map_cons, perf_on (by rw [he])]
   have hc : (opP d (wrO x)).1.cache = d.cache ++ [x] := by rw [he]
   have hp : (opP d (wrO x)).1.pages = d.pages := by rw [he]; rfl
   have hL : (opP d (wrO x)).1.left = (opD d).left := by rw [he]
   refine ⟨j + 1, by simpa using hj, by rw [h1, hc]; simp, h2.trans hp, ?_⟩
   rw [hL] at h3
   have hl' : d.left = -1 ↔ (opD d).left = -1 := by
    have := (chk_zero h).2.2.2
    unfold opD
    simp only
    split <;> omega
   rcases h3 with ⟨a, b, c⟩ | ⟨a, b, c⟩
   ·
    exact .inl ⟨a, by simp [b], fun e => c (hl'.1 e)⟩
   ·
    exact .inr ⟨a, b, fun e => c (hl'.1 e)⟩
end Go.Proofs.YtghikgjknhjjgaaGreatDoor
namespace Go.Proofs.YtghikgjknhjjgaaGreatDoor
set_option maxRecDepth 100000
open Go.RowKit
theorem flat_page {m z : Nat} (f : Nat → List UInt8) : ∀ (_ : ∀ j, j < m → (f j).length = z) (i : Nat), i < m → ((((List.range m).map f).flatten).drop (i * z)).take z = f i := by
 induction m with
 | zero => intro _ i h; omega
 | succ m ih =>
  intro hz i hi
  rw [List.range_succ, List.map_append, List.flatten_append]
  have hl : (((List.range m).map f).flatten).length = m * z := by
   have : ∀ q, q ≤ m → (((List.range q).map f).flatten).length = q * z := by
    intro q
    induction q with
    | zero => intro _; simp
    | succ q iq => intro hq; rw [List.range_succ, List.map_append, List.flatten_append, List.length_append, iq (by omega)]; simp [hz q (by omega), Nat.succ_mul]
   exact this m (Nat.le_refl _)
  by_cases h : i < m
  ·
   have hm : i * z + z ≤ m * z := by rw [← Nat.succ_mul]; exact Nat.mul_le_mul_right _ h
   rw [List.drop_append_of_le_length (by omega), List.take_append_of_le_length (by rw [List.length_drop, hl]; omega)]
   exact ih (fun j hj => hz j (by omega)) i h
  ·
   obtain rfl : i = m := by omega
   rw [show i * z = (((List.range i).map f).flatten).length by rw [hl], List.drop_left]
   have e : (f i).length = z := hz i (by omega)
   simp [← e]
theorem flat_ext {m z : Nat} (f : Nat → List UInt8) {L : List UInt8} (hL : L.length = m * z) (h : ∀ i, i < m → (L.drop (i * z)).take z = f i) : ((List.range m).map f).flatten = L := by
 have : ∀ q, q ≤ m → ((List.range q).map f).flatten = L.take (q * z) := by
  intro q
  induction q with
  | zero => intro _; simp
  | succ q ih =>
   intro hq
   rw [List.range_succ, List.map_append, List.flatten_append, ih (by omega), Nat.succ_mul, List.take_add]
   congr 1
   simp [h q (by omega)]
 rw [this m (Nat.le_refl _), ← hL, List.take_length]
/-- the pages of the area -/
theorem area_page {d : Dsk} {frm til : Int} (hf : fitE d frm til = 0) {i : Nat} (hi : i < (til - frm - 2).toNat) :
  ((areaL d frm til).drop (i * d.size.toNat)).take d.size.toNat = pageL d (frm + 2 + i) := by
 obtain ⟨h0, h1, h2, h3, h4, h5⟩ := fitE_zero hf
 unfold areaL pagesL
 exact flat_page (fun j : Nat => pageL d (frm + 2 + (j : Int))) (fun j hj => pageL_len h0 (by omega) (by omega)) i hi
theorem area_len {d : Dsk} {frm til : Int} (hf : fitE d frm til = 0) : (areaL d frm til).length = (til - frm - 2).toNat * d.size.toNat := by
 obtain ⟨h0, h1, h2, h3, h4, h5⟩ := fitE_zero hf
 unfold areaL
 exact pagesL_len d (frm + 2) d.size.toNat _ (fun j hj => pageL_len h0 (by omega) (by omega))
theorem area_of {d e : Dsk} {frm til : Int} (hf : fitE d frm til = 0) (_hs : Shape d e) {T : List UInt8} (hT : T.length = (areaL d frm til).length)
  (h : ∀ i : Nat, i < (til - frm - 2).toNat → pageL e (frm + 2 + i) = (T.drop (i * d.size.toNat)).take d.size.toNat) : areaL e frm til = T := by
 obtain ⟨h0, h1, h2, h3, h4, h5⟩ := fitE_zero hf
 unfold areaL pagesL
 exact flat_ext (z := d.size.toNat) (fun j : Nat => pageL e (frm + 2 + (j : Int))) (by rw [hT, area_len hf]) (fun i hi => (h i hi).symm)
/-- page i of the new area, as a write -/
def patW (T : List UInt8) (frm : Int) (z i : Nat) : PW := ⟨frm + 2 + i, bs ((T.drop (i * z)).take z)⟩
def pats (T : List UInt8) (frm : Int) (z a n : Nat) : List PW := (List.range n).map fun i => patW T frm z (a + i)
theorem pats_succ (T : List UInt8) (frm : Int) (z a n : Nat) : pats T frm z a (n + 1) = patW T frm z a :: pats T frm z (a + 1) n := by
 unfold pats
 rw [List.range_succ_eq_map, List.map_cons, List.map_map]
 congr 1
 apply List.map_congr_left
 intro i _
 simp only [Function.comp_apply]
 rw [show a + i.succ = a + 1 + i by omega]
/-- how many pages bytes from a on up to b touch -/
def cntP (z a b : Nat) : Nat := (b + z - 1) / z - a / z
theorem cntP_lt {z a b i : Nat} (hz : 0 < z) : i < cntP z a b → (a / z + i) * z < b := by
 intro h
 have h2 : a / z + i < (b + z - 1) / z := by unfold cntP at h; omega
 have := (Nat.lt_div_iff_mul_lt hz).1 h2
 rw [Nat.mul_comm] at this
 rw [Nat.mul_comm]
 omega
theorem cntP_ge {z a b i : Nat} (hz : 0 < z) : cntP z a b ≤ i → b ≤ (a / z + i) * z := by
 intro h
 have h2 : (b + z - 1) / z ≤ a / z + i := by unfold cntP at h; omega
 have := (Nat.div_le_iff_le_mul_add_pred hz).1 h2
 rw [Nat.mul_comm]
 omega
theorem page_patch {A T s P : List UInt8} {z a i k : Nat} (ha : a = i * z + k) (hk : k < z) (hP : P = (A.drop (i * z)).take z) (hPl : P.length = z)
  (hT : ∀ j, i * z ≤ j → T[j]? = if j < a then A[j]? else if j < a + s.length then s[j - a]? else A[j]?) :
  P.take k ++ s.take (z - k) ++ P.drop (k + min s.length (z - k)) = (T.drop (i * z)).take z := by
 have hPg : ∀ n, n < z → P[n]? = A[i * z + n]? := by intro n hn; rw [hP, List.getElem?_take, if_pos hn, List.getElem?_drop]
 apply List.ext_getElem?
 intro n
 have hR : ((T.drop (i * z)).take z)[n]? = if n < z then T[i * z + n]? else none := by rw [List.getElem?_take, List.getElem?_drop]
 rw [hR, List.append_assoc]
 have e1 : (P.take k).length = k := by rw [List.length_take]; omega
 have e2 : (s.take (z - k)).length = min (z - k) s.length := List.length_take
 by_cases hn : n < z
 ·
  rw [if_pos hn, hT _ (by omega)]
  by_cases h1 : n < k
  ·
   rw [if_pos (by omega), List.getElem?_append_left (by omega), List.getElem?_take, if_pos h1, hPg n hn]
  ·
   rw [if_neg (by omega), List.getElem?_append_right (by omega), e1]
   by_cases h2 : n < k + s.length
   ·
    rw [if_pos (by omega), List.getElem?_append_left (by omega), List.getElem?_take, if_pos (by omega)]
    congr 1
    omega
   ·
    rw [if_neg (by omega), List.getElem?_append_right (by omega), List.getElem?_drop, e2, ← hPg n hn]
    congr 1
    omega
 ·
  rw [if_neg hn, List.getElem?_eq_none]
  simp only [List.length_append, List.length_drop, e1, e2]
  omega
theorem wrsP_nil (l : Lg) (f a : Nat) : wrsP l f a [] = [] := by cases f <;> rfl
/-- the writes of bytes s from an offset a on: the pages of the new area -/
theorem wrsP_eq (l : Lg) (hf : fitE l.disk l.frm l.til = 0) (T : List UInt8) (hT : T.length = (areaL l.disk l.frm l.til).length) : ∀ (f a : Nat) (s : List UInt8), s.length ≤ f → a + s.length ≤ T.length →
  (∀ j, a / l.disk.size.toNat * l.disk.size.toNat ≤ j → T[j]? = if j < a then (areaL l.disk l.frm l.til)[j]? else if j < a + s.length then s[j - a]? else (areaL l.disk l.frm l.til)[j]?) →
  s ≠ [] → wrsP l f a s = (pats T l.frm l.disk.size.toNat (a / l.disk.size.toNat) (cntP l.disk.size.toNat a (a + s.length))).map wrO := by
 have hz0 := (area_bd hf).2.2.1
 have hfz := fitE_zero hf
 have hAl := area_len hf
 have hap := fun i hi => area_page hf (i := i) hi
 obtain ⟨z, hz⟩ : ∃ z, l.disk.size.toNat = z := ⟨_, rfl⟩
 have hz1 : 0 < z := by omega
 obtain ⟨m, hm⟩ : ∃ m, (l.til - l.frm - 2).toNat = m := ⟨_, rfl⟩
 rw [hz, hm] at hAl
 simp only [hz, hm] at hap
 intro f
 induction f with
 | zero =>
  intro a s h1 _ _ h4
  exact absurd (List.eq_nil_of_length_eq_zero (by omega)) h4
 | succ f ih =>
  intro a s h1 h2 h3 h4
  rw [hz] at h3 ⊢
  cases s with
  | nil => exact absurd rfl h4
  | cons c r =>
   obtain ⟨i, hi⟩ : ∃ i, a / z = i := ⟨_, rfl⟩
   obtain ⟨k, hk⟩ : ∃ k, a % z = k := ⟨_, rfl⟩
   have ha : a = i * z + k := by rw [← hi, ← hk, Nat.mul_comm]; exact (Nat.div_add_mod a z).symm
   have hkz : k < z := by rw [← hk]; exact Nat.mod_lt _ hz1
   obtain ⟨n, hn⟩ : ∃ n, (c :: r).length = n := ⟨_, rfl⟩
   have hn0 : 0 < n := by rw [← hn]; simp
   rw [hn] at h1 h2 h3
   rw [hi] at h3
   have him : i < m := by
    refine Nat.lt_of_mul_lt_mul_right (a := z) ?_
    rw [← hAl, ← hT]
    omega
   have hPl : (pageL l.disk (l.frm + 2 + (i : Nat))).length = z := by rw [← hz]; exact pageL_len hfz.1 (by omega) (by omega)
   have hpg := page_patch (A := areaL l.disk l.frm l.til) (T := T) (s := c :: r) ha hkz (hap i him).symm hPl (by rw [hn]; exact h3)
   rw [hn] at hpg
   rw [wrsP, hz, hi, hk, hn, hpg]
   have e1 : (i + 1) * z = i * z + z := Nat.succ_mul i z
   by_cases hc : n ≤ z - k
   ·
    have ed : (c :: r).drop (z - k) = [] := List.drop_eq_nil_of_le (by omega)
    rw [ed, wrsP_nil]
    have ec : cntP z a (a + n) = 0 + 1 := by
     unfold cntP
     rw [hi]
     have : (a + n + z - 1) / z = i + 1 := by
      refine Nat.div_eq_of_lt_le (by omega) ?_
      rw [Nat.succ_mul]
      omega
     omega
    rw [ec, pats_succ]
    rfl
   ·
    have emin : min n (z - k) = z - k := by omega
    rw [emin]
    have ea : a + (z - k) = (i + 1) * z := by omega
    have ediv : (i + 1) * z / z = i + 1 := Nat.mul_div_cancel _ hz1
    have hdl : ((c :: r).drop (z - k)).length = n - (z - k) := by rw [List.length_drop, hn]
    have := ih (a + (z - k)) ((c :: r).drop (z - k)) (by omega) (by omega) (by
     intro j hj
     rw [hz, ea, ediv] at hj
     have h3j := h3 j (by omega)
     rw [if_neg (show ¬ j < a by omega)] at h3j
     rw [h3j, if_neg (show ¬ j < a + (z - k) by omega), hdl]
     by_cases hj2 : j < a + n
     ·
      rw [if_pos hj2, if_pos (show j < a + (z - k) + (n - (z - k)) by omega), List.getElem?_drop]
      congr 1
      omega
     ·
      rw [if_neg hj2, if_neg (show ¬ j < a + (z - k) + (n - (z - k)) by omega)]) (by intro e; rw [e] at hdl; simp at hdl; omega)
    rw [this, hz, hdl, ea, ediv]
    have ec : cntP z a (a + n) = cntP z ((i + 1) * z) ((i + 1) * z + (n - (z - k))) + 1 := by
     unfold cntP
     rw [hi, ediv]
     have e2 : (i + 1) * z + (n - (z - k)) = a + n := by omega
     rw [e2]
     have : i + 1 ≤ (a + n + z - 1) / z := (Nat.le_div_iff_mul_le hz1).2 (by omega)
     omega
    rw [ec, pats_succ]
    rfl
/-- the area with bytes put in -/
def putA (A : List UInt8) (a : Nat) (s : List UInt8) : List UInt8 := A.take a ++ s ++ A.drop (a + s.length)
theorem putA_len {A : List UInt8} {a : Nat} {s : List UInt8} (h : a + s.length ≤ A.length) : (putA A a s).length = A.length := by unfold putA; simp; omega
theorem putA_get {A : List UInt8} {a : Nat} {s : List UInt8} (h : a + s.length ≤ A.length) (j : Nat) : (putA A a s)[j]? = if j < a then A[j]? else if j < a + s.length then s[j - a]? else A[j]? := by
 unfold putA
 have e1 : (A.take a).length = a := by rw [List.length_take]; omega
 rw [List.append_assoc]
 by_cases h1 : j < a
 ·
  rw [if_pos h1, List.getElem?_append_left (by omega), List.getElem?_take, if_pos h1]
 ·
  rw [if_neg h1, List.getElem?_append_right (by omega), e1]
  by_cases h2 : j < a + s.length
  ·
   rw [if_pos h2, List.getElem?_append_left (by omega)]
  ·
   rw [if_neg h2, List.getElem?_append_right (by omega), List.getElem?_drop]
   congr 1
   omega
theorem wrsL_eq (l : Lg) (hf : fitE l.disk l.frm l.til = 0) (a : Nat) (s : List UInt8) (hs : s ≠ []) (h : a + s.length ≤ (areaL l.disk l.frm l.til).length) :
  wrsL l a s = (pats (putA (areaL l.disk l.frm l.til) a s) l.frm l.disk.size.toNat (a / l.disk.size.toNat) (cntP l.disk.size.toNat a (a + s.length))).map wrO :=
 wrsP_eq l hf _ (putA_len h) _ _ _ (Nat.le_refl _) (by rw [putA_len h]; exact h) (fun j _ => putA_get h j) hs
end Go.Proofs.YtghikgjknhjjgaaGreatDoor
namespace Go.Proofs.YtghikgjknhjjgaaGreatDoor
set_option maxRecDepth 100000
open Go.RowKit
theorem ownsRow_slice {w : World} {base : Nat} {e : TypeId} {size : Nat} {v : Value} {n : Nat} {xs : List Value} (h : w.ownsRow base e size v n xs) : ∃ o m c, v = .slice o m c := by
 rcases h.2 with ⟨hv, _⟩ | ⟨g, cap, cur, hv, _⟩
 ·
  exact ⟨_, _, _, hv⟩
 ·
  exact ⟨_, _, _, hv⟩
theorem sizeBd : (Tryz.prog.info? 88).map (·.size) = some 2 := by kernel_rfl
theorem liesBd : liesAt Tryz.prog Tryz.prog.depth 88 (2 / Tryz.prog.cellsOf 88) 0 88 1 = true := by kernel_rfl
theorem cellsU8 : Tryz.prog.cellsOf 5 = 1 := by kernel_rfl
abbrev BdAt := Lib.BuilderAt 88 5
abbrev IsBd := Lib.IsBuilder 88 5
set_option maxHeartbeats 1000000 in
set_option maxRecDepth 100000 in
theorem bd_check_used (b : Nat) (w : World) (h0 : w.cell? ⟨b, 0, none⟩ = some (.pointer (some ⟨b, 0, none⟩))) :
  Calls Tryz.prog 88 #[.pointer (some ⟨b, 0, none⟩)] w fun e w' => e = .returned (.tuple #[]) ∧ w = w' := by
 obtain ⟨j, hj, _⟩ := Option.map_eq_some_iff.1 sizeBd
 have hr := Lib.run_neq_ptr_same (P := Tryz.prog) w ⟨b, 0, none⟩ Tryz.underlying85 hj
 go_enter Tryz.func88, Tryz.ntmps88
 go_wp2
 go_end0
 exact ⟨rfl, rfl⟩
set_option maxHeartbeats 1000000 in
set_option maxRecDepth 100000 in
theorem bd_check_fresh (b : Nat) (w : World) (h0 : w.cell? ⟨b, 0, none⟩ = some (.pointer none)) (hsh : w.shape? b = some (88, 2)) (hfz : w.frozen? ⟨b, 0, none⟩ = false) :
  Calls Tryz.prog 88 #[.pointer (some ⟨b, 0, none⟩)] w fun e w' => e = .returned (.tuple #[]) ∧ w' = w.setCell ⟨b, 0, none⟩ (.pointer (some ⟨b, 0, none⟩)) := by
 obtain ⟨j, hj, hjs⟩ := Option.map_eq_some_iff.1 sizeBd
 have h1 := Lib.run_to_unsafe (P := Tryz.prog) w ⟨b, 0, none⟩ Tryz.underlying85 Tryz.underlying141 hj (by rw [hjs]; decide) hsh (Nat.zero_lt_succ 1)
 have h2 := Lib.run_from_unsafe (P := Tryz.prog) w ⟨b, 0, none⟩ Tryz.underlying141 Tryz.underlying85 hj hsh liesBd
 go_enter Tryz.func88, Tryz.ntmps88
 go_wp2
 rw [run_callFunc_extern Tryz.func102 (by kernel_rfl) (by kernel_rfl) (by kernel_rfl) (e := Extern.AbiNoEscape.same) (by kernel_rfl)]
 rw [Lib.run_noEscape]
 simp only [Result.andThen]
 rw [Oper.upon_value]
 go_wp2
 go_end0
 exact ⟨rfl, rfl⟩
theorem bd_check {B b : Nat} {bs : List Value} {w : World} (h : IsBd B b bs w) :
  Calls Tryz.prog 88 #[.pointer (some ⟨b, 0, none⟩)] w fun e w' => e = .returned (.tuple #[]) ∧ BdAt B b (.pointer (some ⟨b, 0, none⟩)) bs w' ∧ (∀ k, k ≠ b → w'.heap[k]? = w.heap[k]?) ∧ w'.heap.size = w.heap.size ∧ Below B w w' := by
 rcases h with h | h
 ·
  refine (bd_check_fresh b w h.cell0 h.shape h.frozen0).mono ?_
  rintro e w' ⟨rfl, rfl⟩
  exact ⟨rfl, h.used _, fun k hk => Below.heap_setCell w _ _ k hk, by simp, (Below.refl B w).setCell (p := ⟨b, 0, none⟩) h.1 _⟩
 ·
  refine (bd_check_used b w h.cell0).mono ?_
  rintro e w' ⟨rfl, rfl⟩
  exact ⟨rfl, h, fun _ _ => rfl, rfl, Below.refl B _⟩
set_option maxHeartbeats 1000000 in
set_option maxRecDepth 100000 in
theorem bd_String {B b : Nat} {l : List UInt8} {w : World} (h : IsBd B b (bytesV l) w) (h0 : l ≠ []) :
  Calls Tryz.prog 59 #[.pointer (some ⟨b, 0, none⟩)] w fun e w' => e = .returned (.string ⟨l.toArray⟩) ∧ Below B w w' := by
 obtain ⟨p, hB, v, hbk, hown, hne⟩ : ∃ p, BdAt B b p (bytesV l) w := by
  rcases h with h | h
  ·
   exact ⟨_, h⟩
  ·
   exact ⟨_, h⟩
 have hl0 : l.length ≠ 0 := by simpa using h0
 rw [bytesV_len] at hown
 obtain ⟨g, cap, cur, rfl, hbg, hg, hnc, hcm, hcs, htake⟩ : ∃ g cap cur, v = .slice (some ⟨g, 0, none⟩) l.length cap ∧ B ≤ g ∧ w.heap[g]? = some (.cells cur 5 (0, 0)) ∧ l.length ≤ cap ∧ cap ≤ maxLen ∧ cur.size = cap * 1 ∧ cur.toList.take (l.length * 1) = bytesV l := by
  rcases hown.2 with ⟨_, hz⟩ | ⟨g, cap, cur, hv, r⟩
  ·
   exact absurd hz hl0
  ·
   exact ⟨g, cap, cur, hv, r⟩
 have c1 : w.drew.cell? ⟨b, 1, none⟩ = some (.slice (some ⟨g, 0, none⟩) l.length cap) := by
  have : w.drew.heap[b]? = some (.cells #[p, .slice (some ⟨g, 0, none⟩) l.length cap] 88 (0, 0)) := hbk
  rw [Lib.cell_of_heap this]; rfl
 have hSD : (Builtin.unsafeSliceData_ #[86] 126 #[.slice (some ⟨g, 0, none⟩) l.length cap]).run Tryz.prog w.drew = .ok (.pointer (some ⟨g, 0, none⟩)) w.drew :=
  Lib.run_unsafeSliceData_row _ _ _ _ _ _ (by omega)
 have hUS : (Builtin.unsafeString_ #[126, 3] 9 #[.pointer (some ⟨g, 0, none⟩), .int .i64 l.length]).run Tryz.prog w.drew = .ok (.string ⟨l.toArray⟩) (w.drew.freeze ⟨g, 0, none⟩ l.length) := by
  refine Lib.run_unsafeString_row w.drew 126 3 9 5 Tryz.underlying126 cellsU8 g cur.size (by have hg' : w.drew.heap[g]? = some (.cells cur 5 (0, 0)) := hg; simp [World.shape?, hg']) l h0 (by omega) (by unfold maxLen at hcm; omega) ?_
  intro j x hx
  have := hown.cells (g := g) rfl j (.int .u8 x.toNat) (by simp [bytesV, hx])
  exact this
 clear hbk hown hne h hg htake hcs
 go_enter Tryz.func59, Tryz.ntmps59
 go_wp2
 go_region
 all_goals (go_wp2; go_ret; exact ⟨rfl, Lib.below_freeze (Below.drew (Below.refl B w)) (p := ⟨g, 0, none⟩) hbg _⟩)
set_option maxHeartbeats 2000000 in
theorem bd_WriteString {B b : Nat} {l : List UInt8} {w : World} (h : IsBd B b (bytesV l) w) (s : List UInt8) (hlen : l.length + s.length ≤ 140737488355328) (hBw : B ≤ w.heap.size) :
  Calls Tryz.prog 57 #[.pointer (some ⟨b, 0, none⟩), .string (bs s)] w fun e w' => e = .returned (.tuple #[.int .i64 s.length, .nilIface]) ∧ IsBd B b (bytesV (l ++ s)) w' ∧ Below B w w' := by
 obtain ⟨i0, hi, hz0, hz1, hz2⟩ := info_parts infoU8
 have Hi := Lib.hid (And.intro hi (And.intro hz0 (And.intro hz1 hz2)))
 have Hck := Lib.hid (bd_check h)
 have Hlen := Lib.hid hlen
 obtain ⟨S, hS⟩ : ∃ S, bs s = S := ⟨_, rfl⟩
 have hSz : S.size = s.length := by rw [← hS, bs_size]
 have HS := Lib.hid hS
 rw [hS]
 clear hi hz0 hz1 hz2 h hlen hS
 go_enter Tryz.func57, Tryz.ntmps57
 go_wp2_with fail
 refine Hck.out.mono ?_
 rintro e w1 ⟨rfl, h1, hk1, hz1, hb1⟩
 obtain ⟨hB, v, hbk, hown, hne⟩ := h1
 have c1 : w1.cell? ⟨b, 1, none⟩ = some v := by rw [Lib.cell_of_heap hbk]; rfl
 have Hown := Lib.hid hown
 have Hbk := Lib.hid hbk
 have Hne := Lib.hid hne
 have Hz1 := Lib.hid hz1
 clear hown hbk hne hk1 hz1
 have hlt : b < w1.heap.size := (Array.getElem?_eq_some_iff.1 Hbk.out).1
 go_wp2_with (at_builtin; refine Lib.wpList_append_own_string _ rfl (.tmp 12) (.tmp 13) 86 9 rfl B 5 i0 Tryz.underlying86 Tryz.underlying9 Hi.out.1 Hi.out.2.1 Hi.out.2.2.1 Hi.out.2.2.2 v _ _ rfl Hown.out S rfl (by rw [bytesV_len, hSz]; have := Hlen.out; unfold maxLen; omega) (by rw [bytesV_len, hSz]; exact Hlen.out) (by have := Hz1.out; omega) ?_; intro v' w2 hown' hgrow _; obtain ⟨ao, n', cap, rfl⟩ := ownsRow_slice hown'; have Hb2 : Hid (w2.heap[b]? = some (.cells #[.pointer (some ⟨b, 0, none⟩), v] 88 (0, 0))) := Lib.hid (by rw [hgrow.block b hlt (fun e => Hne.out e.symm)]; exact Hbk.out); have d1 : w2.cell? ⟨b, 1, none⟩ = some v := (by rw [Lib.cell_of_heap Hb2.out]; rfl); have f1 : w2.frozen? ⟨b, 1, none⟩ = false := Lib.frozen_of_heap Hb2.out 1; have Hown' := Lib.hid hown'; have HB := Lib.hid (hb1.grown hgrow (by have := Hz1.out; omega) (fun k hk => (Hown.out.lt k hk).1)); clear hown' hgrow c1)
 go_ret2
 refine ⟨by rw [← hSz]; rfl, .inr ?_, HB.out.setCell (p := ⟨b, 1, none⟩) hB _⟩
 refine Lib.BuilderAt.put (T := 88) (e := 5) hB Hb2.out (bs' := bytesV (l ++ s)) ?_ (by decide)
 have := Hown'.out
 rw [← HS.out, strCells_bs, bs_size, bytesV_len, ← bytesV_app] at this
 rwa [bytesV_len, List.length_append]
set_option maxHeartbeats 2000000 in
theorem bd_WriteByte {B b : Nat} {l : List UInt8} {w : World} (h : IsBd B b (bytesV l) w) (c : UInt8) (hlen : l.length + 1 ≤ 140737488355328) (hBw : B ≤ w.heap.size) :
  Calls Tryz.prog 65 #[.pointer (some ⟨b, 0, none⟩), .int .u8 (c.toNat : Int)] w fun e w' => e = .returned .nilIface ∧ IsBd B b (bytesV (l ++ [c])) w' ∧ Below B w w' := by
 obtain ⟨i0, hi, hz0, hz1, hz2⟩ := info_parts infoU8
 have Hi := Lib.hid (And.intro hi (And.intro hz0 (And.intro hz1 hz2)))
 have Hck := Lib.hid (bd_check h)
 have Hlen := Lib.hid hlen
 obtain ⟨x, hx⟩ : ∃ x : Int, (c.toNat : Int) = x := ⟨_, rfl⟩
 have HX := Lib.hid hx
 rw [hx]
 clear hi hz0 hz1 hz2 h hlen hx
 go_enter Tryz.func65, Tryz.ntmps65
 go_wp2_with fail
 refine Hck.out.mono ?_
 rintro e w1 ⟨rfl, h1, hk1, hz1, hb1⟩
 obtain ⟨hB, v, hbk, hown, hne⟩ := h1
 have c1 : w1.cell? ⟨b, 1, none⟩ = some v := by rw [Lib.cell_of_heap hbk]; rfl
 have Hown := Lib.hid hown
 have Hbk := Lib.hid hbk
 have Hne := Lib.hid hne
 have Hz1 := Lib.hid hz1
 clear hown hbk hne hk1 hz1
 have hlt : b < w1.heap.size := (Array.getElem?_eq_some_iff.1 Hbk.out).1
 go_wp2_with (at_builtin; refine wpList_app rfl (.tmp 11) (.tmp 13) 86 rfl B 5 i0 _ 1 1 Tryz.underlying86 Hi.out.1 Hi.out.2.1 Hi.out.2.2.1 Hi.out.2.2.2 (by simp [Value.cells]) (by decide) v _ _ rfl (Hown.out.alloc _) (some ⟨w1.heap.size, 0, none⟩) 1 1 [.int .u8 x] rfl (fun h => by cases h) rfl (RowAt.bx (Bx.new w1 _ _)) (by simp [Value.oneCell']) (by rw [bytesV_len]; have := Hlen.out; unfold maxLen; omega) (by rw [bytesV_len]; have := Hlen.out; omega) (by have := Hz1.out; simp; omega) ?_; intro v' w2 hown' hgrow; obtain ⟨ao, n', cap, rfl⟩ := ownsRow_slice hown'; have Hb2 : Hid (w2.heap[b]? = some (.cells #[.pointer (some ⟨b, 0, none⟩), v] 88 (0, 0))) := Lib.hid (by rw [hgrow.block b (by simp; omega) (fun e => Hne.out e.symm)]; exact (Below.heap_alloc w1 _ b hlt).trans Hbk.out); have d1 : w2.cell? ⟨b, 1, none⟩ = some v := (by rw [Lib.cell_of_heap Hb2.out]; rfl); have f1 : w2.frozen? ⟨b, 1, none⟩ = false := Lib.frozen_of_heap Hb2.out 1; have Hown' := Lib.hid hown'; have HB := Lib.hid ((hb1.alloc (by have := Hz1.out; omega) _).grown hgrow (by have := Hz1.out; simp; omega) (fun k hk => (Hown.out.lt k hk).1)); clear hown' hgrow c1)
 go_ret
 refine ⟨rfl, .inr ?_, HB.out.setCell (p := ⟨b, 1, none⟩) hB _⟩
 refine Lib.BuilderAt.put (T := 88) (e := 5) hB Hb2.out (bs' := bytesV (l ++ [c])) ?_ (by decide)
 have := Hown'.out
 rw [bytesV_len, ← HX.out] at this
 rw [bytesV_len, List.length_append, bytesV_app]
 exact this
/-- String of whatever a builder of the call's own holds -/
theorem bd_Str {B b : Nat} {l : List UInt8} {w : World} (h : IsBd B b (bytesV l) w) (h0 : l ≠ []) :
  Calls Tryz.prog 59 #[.pointer (some ⟨b, 0, none⟩)] w fun e w' => e = .returned (.string (bs l)) ∧ Below B w w' := bd_String h h0
end Go.Proofs.YtghikgjknhjjgaaGreatDoor
namespace Go.Proofs.YtghikgjknhjjgaaGreatDoor
set_option maxRecDepth 100000
open Go.RowKit
/-- the table of powers of ten, as the program's text lays it -/
def TabW (w : World) : Prop := Lib.TabIs Tryz.prog w "internal/strconv.uint64pow10" .u64 Lib.pow10Tab
theorem tab_global : ∃ g, Tryz.prog.globalNamed "internal/strconv.uint64pow10" = some g := by
 refine Option.isSome_iff_exists.1 ?_
 kernel_rfl
theorem TabW.below {w w' : World} (h : TabW w) (hb : Below w.heap.size w w') : TabW w' := by
 obtain ⟨g, hg⟩ := tab_global
 exact Go.Joins.tab_stays hg h hb (Nat.le_refl _)
theorem pl_itoa (n : Nat) (w : World) (hn : n ≤ 140737488351232) (hT : TabW w) :
  Calls Tryz.prog 45 #[.int .i64 n] w fun e w' => e = .returned (.string (bs (Lib.decDigits n))) ∧ Below w.heap.size w w' := by
 refine (Tryz.strconv_Itoa n (by omega) (by omega) w hT).mono ?_
 rintro e w' ⟨rfl, k, os, rfl⟩
 refine ⟨?_, Lib.below_grow _ _ (Nat.le_refl _) _ _⟩
 unfold Lib.itoa
 rw [if_neg (by omega)]; rfl
theorem nDigits_le : ∀ (k n : Nat), n < 10 ^ (k + 1) → Lib.nDigits n ≤ k + 1
 | 0, n, h => by rw [Lib.nDigits_small (by simpa using h)]; exact Nat.le_refl _
 | k + 1, n, h => by
  by_cases h' : n < 10
  ·
   rw [Lib.nDigits_small h']; omega
  ·
   rw [Lib.nDigits_big h']
   have := nDigits_le k (n / 10) (by rw [Nat.pow_succ] at h; omega)
   omega
theorem dec_len {n : Nat} (h : n ≤ 140737488351232) : 1 ≤ (Lib.decDigits n).length ∧ (Lib.decDigits n).length ≤ 15 := by
 rw [Lib.decDigits_length]
 exact ⟨Lib.nDigits_pos n, nDigits_le 14 n (by omega)⟩
theorem sizeL_snoc (l : List ByteArray) (k : Nat) (h : k < l.length) : sizeL (l.take (k + 1)) = sizeL (l.take k) + ((Lib.decDigits l[k].size).length + 1 + l[k].size) := by
 rw [List.take_succ_eq_append_getElem h]; unfold sizeL; rw [List.map_append, List.sum_append]; simp
theorem sizeL_take (l : List ByteArray) : ∀ k, sizeL (l.take k) ≤ sizeL l := by
 intro k
 have h : sizeL (l.take k) + sizeL (l.drop k) = sizeL l := by
  unfold sizeL
  rw [← List.sum_append, ← List.map_append, List.take_append_drop]
 omega
theorem streamL_snoc (l : List ByteArray) (k : Nat) (h : k < l.length) : streamL (l.take (k + 1)) = streamL (l.take k) ++ recL l[k] := by
 rw [List.take_succ_eq_append_getElem h]; unfold streamL; rw [List.map_append, List.flatten_append]; simp
theorem streamL_len (l : List ByteArray) : (streamL l).length = sizeL l := by
 induction l with
 | nil => rfl
 | cons x l ih =>
  have e : streamL (x :: l) = recL x ++ streamL l := by simp [streamL]
  have e' : sizeL (x :: l) = ((Lib.decDigits x.size).length + 1 + x.size) + sizeL l := by simp [sizeL]
  rw [e, e', List.length_append, ih]
  unfold recL
  rw [List.length_append, List.length_cons, len_size]
  omega
set_option maxHeartbeats 2000000 in
theorem pl_Size {S : Nat → Prop} (w : World) (o : Option Addr) (c : Nat) (l : List ByteArray) (ha : StrsAt S w o l) (hm : sizeL l ≤ 1000000000000) (hT : TabW w) (hl : l.length ≤ 140737488351232) :
  Calls Tryz.prog 15 #[.slice o l.length c] w fun e w' => e = .returned (.int .i64 (sizeL l)) ∧ Below w.heap.size w w' := by
 go_enter Tryz.func15, Tryz.ntmps15
 go_wp2
 go_loopw [3, 5, 8] (fun n _ i wr => ∃ (k m : Nat), k ≤ l.length ∧ i = .int .i64 k ∧ n = .int .i64 m ∧ m ≤ 1000000000000 ∧ Hid (sizeL (l.take k) = m) ∧ Below w.heap.size w wr) (fun _ _ i _ => l.length - (intOf i).toNat)
 case atStart => exact ⟨0, 0, by omega, rfl, rfl, by omega, Lib.hid rfl, Below.refl _ _⟩
 case round =>
  obtain ⟨k, m, hk, rfl, rfl, hm', hv, hB⟩ := hrel
  by_cases hlt : k < l.length
  ·
   obtain ⟨b, off, rfl, hc0, _⟩ := ha k hlt
   have hc : wr.cell? ⟨b, off + k, none⟩ = some (.string l[k]) := by rw [hB.cell (World.block_lt_of_cell? w _ hc0)]; exact hc0
   have hsn := sizeL_snoc l k hlt
   have htk := sizeL_take l (k + 1)
   have hsz : l[k].size ≤ 140737488351232 := by omega
   have hdl := (dec_len hsz).2
   have hd1 := (dec_len hsz).1
   have hsum : m + ((Lib.decDigits l[k].size).length + 1 + l[k].size) ≤ 1000000000000 := by have := hv.out; omega
   have Hs := Lib.hid hsn
   clear hsn htk hc0
   go_wp2_with fail
   refine (pl_itoa l[k].size _ hsz (hT.below hB)).mono ?_
   rintro e w1 ⟨rfl, hb1⟩
   have hB1 := btr hB hb1
   clear hc
   go_wp2
   go_roundw
   case rel => exact ⟨k + 1, m + ((Lib.decDigits l[k].size).length + 1 + l[k].size), by omega, by go_num, by go_num, hsum, Lib.hid (by rw [Hs.out, hv.out]), hB1⟩
   case measure => simp [intOf]; omega
  ·
   obtain rfl : k = l.length := by omega
   go_wp2
   go_ret
   exact ⟨by rw [← hv.out, List.take_length]; rfl, hB⟩
theorem bdAt_below {B b : Nat} {p : Value} {bs : List Value} {w w' : World} (h : BdAt B b p bs w) (hb : Below w.heap.size w w') : BdAt B b p bs w' := by
 have hlt := h.lt
 obtain ⟨hB, v, hbk, hown, hne⟩ := h
 exact ⟨hB, v, (hb.block b hlt).trans hbk, ownsRow_belowAll hown hb, hne⟩
theorem isBd_below {B b : Nat} {bs : List Value} {w w' : World} (h : IsBd B b bs w) (hb : Below w.heap.size w w') : IsBd B b bs w' := h.imp (bdAt_below · hb) (bdAt_below · hb)
theorem streamL_ne {l : List ByteArray} (h : l ≠ []) : streamL l ≠ [] := by
 cases l with
 | nil => exact absurd rfl h
 | cons x l => simp [streamL, recL]
set_option maxHeartbeats 2000000 in
theorem pl_stream {S : Nat → Prop} (w : World) (o : Option Addr) (c : Nat) (l : List ByteArray) (ha : StrsAt S w o l) (hm : sizeL l ≤ 1000000000000) (hT : TabW w) (hl : l.length ≤ 140737488351232) (h0 : l ≠ []) :
  Calls Tryz.prog 31 #[.slice o l.length c] w fun e w' => e = .returned (.string (bs (streamL l))) ∧ Below w.heap.size w w' := by
 go_enter Tryz.func31, Tryz.ntmps31
 go_wp2
 go_loopw [5, 8] (fun _ i wr => ∃ (k : Nat), k ≤ l.length ∧ i = .int .i64 k ∧ Hid (IsBd w.heap.size w.heap.size (bytesV (streamL (l.take k))) wr) ∧ Below w.heap.size w wr ∧ w.heap.size < wr.heap.size) (fun _ i _ => l.length - (intOf i).toNat)
 case atStart => exact ⟨0, by omega, rfl, Lib.hid (Lib.fresh_isBuilder _ _ w), Below.one _ _, by simp⟩
 case round =>
  obtain ⟨k, hk, rfl, hv, hB, hz⟩ := hrel
  by_cases hlt : k < l.length
  ·
   obtain ⟨b, off, rfl, hc0, _⟩ := ha k hlt
   have hc : wr.cell? ⟨b, off + k, none⟩ = some (.string l[k]) := by rw [hB.cell (World.block_lt_of_cell? w _ hc0)]; exact hc0
   have hsn := sizeL_snoc l k hlt
   have htk := sizeL_take l (k + 1)
   have hsz : l[k].size ≤ 140737488351232 := by omega
   have hll := streamL_len (l.take k)
   have hsum : (streamL (l.take k)).length + ((Lib.decDigits l[k].size).length + 1 + l[k].size) ≤ 1000000000000 := by omega
   have hlk := len_size l[k]
   obtain ⟨s, hs⟩ : ∃ s, l[k].data.toList = s := ⟨_, rfl⟩
   have hbs : bs s = l[k] := by rw [← hs, bs_of]
   have Hs := Lib.hid hs
   have Hb := Lib.hid hbs
   have Hl := Lib.hid hlk
   have Hsum := Lib.hid hsum
   clear hsn htk hc0 hll hlk hs hbs hsum
   go_wp2_with fail
   refine (pl_itoa l[k].size _ hsz (hT.below hB)).mono ?_
   rintro e w1 ⟨rfl, hb1⟩
   have hB1 := btr hB hb1
   have hbd1 := Lib.hid (isBd_below hv.out hb1)
   have hz1 := hB1.size
   clear hc
   go_wp2_with fail
   refine (bd_WriteString hbd1.out (Lib.decDigits l[k].size) (by have := Hsum.out; omega) hz1).mono ?_
   rintro e w2 ⟨rfl, hbd2, hb2⟩
   have hB2 := hB1.trans hb2
   have hz2 := hB2.size
   have hbd2 := Lib.hid hbd2
   have hw3 := Lib.hid (show Calls Tryz.prog 65 #[.pointer (some ⟨w.heap.size, 0, none⟩), .int .u8 58] w2 _ from bd_WriteByte hbd2.out 58 (by have := Hsum.out; rw [List.length_append]; omega) hz2)
   go_wp2_with fail
   refine hw3.out.mono ?_
   rintro e w3 ⟨rfl, hbd3, hb3⟩
   have hB3 := hB2.trans hb3
   have hz3 := hB3.size
   have hbd3 := Lib.hid hbd3
   have hw4 := Lib.hid (bd_WriteString hbd3.out s (by have := Hsum.out; have := Hl.out; rw [Hs.out] at this; rw [List.length_append, List.length_append, List.length_cons, List.length_nil]; omega) hz3)
   rw [Hb.out] at hw4
   go_wp2_with fail
   refine hw4.out.mono ?_
   rintro e w4 ⟨rfl, hbd4, hb4⟩
   have hB4 := hB3.trans hb4
   have hbd4 := Lib.hid hbd4
   have hlt4 : w.heap.size < w4.heap.size := by have := hb1.size; have := hb2.size; have := hb3.size; have := hb4.size; rcases hbd4.out with h | h <;> exact h.lt
   go_wp2
   go_roundw
   case rel =>
    refine ⟨k + 1, by omega, by go_num, Lib.hid ?_, hB4, hlt4⟩
    rw [streamL_snoc l k hlt]
    have := hbd4.out
    rw [← Hs.out] at this
    simpa [recL, List.append_assoc] using this
   case measure => simp [intOf]; omega
  ·
   obtain rfl : k = l.length := by omega
   rw [List.take_length] at hv
   go_wp2_with fail
   refine (bd_Str hv.out (streamL_ne h0)).mono ?_
   rintro e w1 ⟨rfl, hb1⟩
   go_wp2
   go_ret
   exact ⟨rfl, hB.trans hb1⟩
end Go.Proofs.YtghikgjknhjjgaaGreatDoor
