/- The records of a stream: pagelog.records, quiltref41.records = recsOf. Values of logs; quiltref41.Open = openL. pagelog.contents: the contract of its iterator: the contents of pages, in order. pagelog.read of a page without a valid header: what it returns, exactly; and of any page. 32-bit words: what the walk computes on them, as UInt32. Rotations of words. The schedule of words of a block, of the program and of the reference. The program's schedule of words. The constants of the steps and the first state. One block: the program's compress. Xor of two digests, of the program and of the reference. What both Sums compute. sha256.blocks: the contract of its iterator: the blocks of the padded message, in order. sha256.Sum: the digest of a message. The reference's padded message. One block: the reference's step. quiltref02.Sum: the digest of a message. The check value of a digest: of the program and of the reference. Rows of elements of more than one cell: reading, writing, growing; structs and arrays built and compared. No function of the program is named here. Lazy's law for a region inside a fence that lets everything pass (the body of a range over a function); rows of cells read, and rows compared, in the one walk. 'T{x}' and appends of elements of many cells. No function of the program is named here. Guarded operations that are wanted: load of a row, list of one. -/
import Derived.Test.YtghikgjknhjjgaaGreatDoorQ09
import Derived.Test.YtghikgjknhjjgaaGreatDoorQ10
import Derived.Test.YtghikgjknhjjgaaGreatDoorQ02
import Derived.Test.YtghikgjknhjjgaaGreatDoorQ06
import Derived.RangeFuncBox
import Derived.RangeFuncLeaves
import Derived.Shelf.Abstract
import Derived.WalkKit
import Derived.OwnWalkIn
import Derived.TacticsInMore
import Derived.LoopNIn
import Derived.LoopIn
import Derived.DeepKeys
import Derived.OrdersIn
import Derived.RangeFuncCalls
import Derived.Test.YtghikgjknhjjgaaGreatDoorQ03
namespace Go.Proofs.YtghikgjknhjjgaaGreatDoor
set_option maxRecDepth 100000
open Go.RowKit
def RecsE (w : World) (r : Option (List ByteArray)) (e : Ending) (w' : World) : Prop :=
 ∃ o c, e = .returned (.tuple #[.slice o (r.getD []).length c, .bool r.isSome]) ∧ SlW o (r.getD []).length c ∧ StrsAt (fun b => w.heap.size ≤ b ∧ b < w'.heap.size) w' o (r.getD []) ∧ Below w.heap.size w w'
/-- what is read so far, and what is left -/
def RecsInv (L : List UInt8) (k f : Nat) (l : List ByteArray) : Prop := recsOf L = (recsP f (L.drop k)).map (l ++ ·) ∧ L.length - k ≤ f ∧ l.length ≤ k ∧ k ≤ L.length
theorem RecsInv.start (L : List UInt8) : RecsInv L 0 L.length [] := ⟨by simp [recsOf], by omega, by simp, by omega⟩
theorem RecsInv.stop {L : List UInt8} {k f : Nat} {l : List ByteArray} (h : RecsInv L k f l) (hk : k = L.length) : recsOf L = some l := by
 rw [h.1, hk, List.drop_length]
 cases f <;> simp [recsP]
theorem RecsInv.none {L : List UInt8} {k f : Nat} {l : List ByteArray} (h : RecsInv L k f l) (hk : k < L.length) (hr : recP (L.drop k) = none) : recsOf L = none := by
 rw [h.1]
 have hd : L.drop k = L[k] :: L.drop (k + 1) := List.drop_eq_getElem_cons hk
 have hf := h.2.1
 obtain ⟨g, rfl⟩ : ∃ g, f = g + 1 := ⟨f - 1, by omega⟩
 rw [hd] at hr ⊢
 unfold recsP
 rw [hr]; rfl
theorem recP_bd {L a : List UInt8} {n : Nat} (h : recP L = some (a, n)) : 1 ≤ n ∧ n ≤ L.length := by
 unfold recP at h
 split at h
 ·
  cases h
 ·
  split at h
  ·
   cases h
  ·
   exact atomP_bd h
theorem RecsInv.next {L : List UInt8} {k f : Nat} {l : List ByteArray} (h : RecsInv L k f l) (hk : k < L.length) {a : List UInt8} {n : Nat} (hr : recP (L.drop k) = some (a, n)) : ∃ g, RecsInv L (k + n) g (l ++ [bs a]) := by
 have hb := recP_bd hr
 rw [List.length_drop] at hb
 have hd : L.drop k = L[k] :: L.drop (k + 1) := List.drop_eq_getElem_cons hk
 have hf := h.2.1
 obtain ⟨g, rfl⟩ : ∃ g, f = g + 1 := ⟨f - 1, by omega⟩
 refine ⟨g, ?_, by omega, by have := h.2.2.1; simp; omega, by omega⟩
 rw [h.1, ← List.drop_drop]
 rw [hd] at hr ⊢
 have e : recsP (g + 1) (L[k] :: L.drop (k + 1)) = (recsP g ((L[k] :: L.drop (k + 1)).drop n)).map (bs a :: ·) := by
  show (match recP (L[k] :: L.drop (k + 1)) with | Option.none => Option.none | some (a, n) => _) = _
  rw [hr]
 rw [e]
 simp only [Option.map_map]
 congr 1
 funext x
 simp
theorem nonempty_bytes {T : ByteArray} : 0 < T.size → T.toList.isEmpty = false := by
 intro h
 rw [ByteArray.toList_eq]
 cases e : T.data.toList with
 | nil => have := len_size T; rw [e] at this; simp at this; omega
 | cons => rfl
theorem empty_bytes {T : ByteArray} (h : T.size = 0) : T.toList.isEmpty = true := by
 rw [ByteArray.toList_eq]
 have := len_size T
 rw [h] at this
 rw [List.eq_nil_of_length_eq_zero this]; rfl
def lnV : Value → Nat | .string t => t.size | _ => 0
set_option maxHeartbeats 2000000 in
theorem pl_records (s : ByteArray) (w : World) (hs : s.size ≤ 2000000) :
  Calls Tryz.prog 58 #[.string s] w (RecsE w (recsOf s.data.toList)) := by
 obtain ⟨i0, hi, iz0, iz1, iz2⟩ := info_parts infoStr
 obtain ⟨L, hL⟩ : ∃ L, s.data.toList = L := ⟨_, rfl⟩
 have hLs : L.length = s.size := by rw [← hL, len_size]
 rw [hL]
 go_enter Tryz.func58, Tryz.ntmps58
 go_wp2
 go_loopw [0, 4] (fun t v wr => ∃ (k f : Nat) (T : ByteArray) (l : List ByteArray), t = .string T ∧ Hid (T = bs (L.drop k)) ∧ Hid (RecsInv L k f l) ∧ k ≤ L.length ∧ Hid (wr.ownsRow w.heap.size 9 1 v l.length (l.map .string)) ∧ Below w.heap.size w wr) (fun t _ _ => lnV t)
 case atStart => exact ⟨0, L.length, s, [], rfl, Lib.hid (by rw [← hL]; exact (bs_of s).symm), Lib.hid (RecsInv.start L), by omega, Lib.hid (World.ownsRow_nil _ _ _ _), Below.refl _ _⟩
 case round =>
  obtain ⟨k, f, T, l, rfl, hT, hI, hk, hown, hB⟩ := hrel
  have hTs : T.size = L.length - k := by rw [hT.out, bs_size, List.length_drop]
  have hTl : T.data.toList = L.drop k := by rw [hT.out]
  have hll : l.length ≤ 2000000 := by have := hI.out.2.2.1; omega
  by_cases hlt : k < L.length
  ·
   have hne : T.toList.isEmpty = false := nonempty_bytes (by omega)
   have HTs := Lib.hid hTs
   cases hr : recP (L.drop k) with
   | none =>
    have hR := cs_Read_none T wr (by omega) (by omega) (by rw [hTl]; exact hr)
    have Hr := Lib.hid (hI.out.none hlt hr)
    clear hTs hTl hr
    go_wp2_with fail
    refine hR.mono ?_
    rintro e w1 ⟨isl, atom, o, m, c, n, er, rfl, hor, hb1⟩
    have hB1 := btr hB hb1
    have hz1 := hB1.size
    have hB2 := hB1.alloc hz1 (.cells (sxC isl atom o m c) 123)
    clear hR
    by_cases hE : er = 0
    ·
     have hil : isl = true := by rcases hor with h | h; exact absurd hE h; exact h
     have hE' : (er != 0) = false := by rw [hE]; rfl
     clear hor
     rw [hil]
     rw [hil] at hB2
     go_wp2
     refine bodyPost_ret (v := .tuple #[.slice none 0 0, .bool false]) (by simp [results, Tryz.results58, go_sem]) rfl ?_
     rw [Hr.out]
     exact ⟨none, 0, rfl, .inl ⟨rfl, rfl, rfl⟩, (by intro j h; exact absurd h (by simp)), hB2⟩
    ·
     have hE' : (er != 0) = true := by rw [bne_iff_ne]; exact hE
     clear hor
     go_wp2
     refine bodyPost_ret (v := .tuple #[.slice none 0 0, .bool false]) (by simp [results, Tryz.results58, go_sem]) rfl ?_
     rw [Hr.out]
     exact ⟨none, 0, rfl, .inl ⟨rfl, rfl, rfl⟩, (by intro j h; exact absurd h (by simp)), hB2⟩
   | some q =>
    obtain ⟨a, n⟩ := q
    obtain ⟨g, hg⟩ := hI.out.next hlt hr
    have HI := Lib.hid hg
    have hn := recP_bd hr
    have hR := cs_Read_some T a n wr (by omega) (by rw [hTl]; exact hr)
    obtain ⟨S, hS⟩ : ∃ S, bs a = S := ⟨_, rfl⟩
    rw [hS] at hR HI
    rw [List.length_drop] at hn
    clear hTl hr hg hS
    go_wp2_with fail
    refine hR.mono ?_
    rintro e w1 ⟨rfl, hb1⟩
    have hown1 := ownsRow_belowAll hown.out hb1
    have hB1 := btr hB hb1
    have hz1 := hB1.size
    clear hR
    go_wp2_with (at_builtin; go_loud (refine wpList_app rfl (.tmp 22) (.tmp 25) 22 rfl w.heap.size 9 i0 _ 1 16 Tryz.underlying22 hi iz0 iz1 iz2 rfl (by decide) _ l.length _ rfl ((hown1.alloc _).alloc _) _ 1 1 [.string S] rfl (by intro e; cases e) rfl (RowAt.bx (Bx.newAt _ _ _ _ (by simp))) (by simp [Value.oneCell']) (by unfold maxLen; omega) (by omega) (by simp; omega) ?_; intro v2 w2 hown2 hg2))
    have hB2 := ((hB1.alloc hz1 (.cells (sxC false S none 0 0) 123)).alloc (by simp; omega) (.cells #[.string S] 9)).grown hg2 (by simp; omega) (by intro j e; have := (hown1.lt _ e).1; omega)
    have hT2 : T.extract n T.size = bs (L.drop (k + n)) := by
     rw [hT.out, bs_cut, bs_size, List.drop_drop]
     congr 1
     rw [List.take_of_length_le]
     rw [List.length_drop, List.length_drop]; omega
    have HT2 := Lib.hid hT2
    have hg1 : (0 : Int) ≤ n := by omega
    have hg2 : (n : Int) ≤ T.size := by have := HTs.out; omega
    clear hT2 hT
    go_wp2
    go_roundw
    case rel => exact ⟨k + n, g, _, _, rfl, Lib.hid (by have h := HT2.out; rw [HTs.out, hLs] at h; exact h), HI, by omega, Lib.hid (by simpa using hown2), hB2⟩
    case measure => simp only [lnV, ByteArray.size_extract]; omega
  ·
   obtain rfl : k = L.length := by omega
   have hne : T.toList.isEmpty = true := empty_bytes (by omega)
   have Hr := Lib.hid (hI.out.stop rfl)
   have Ho := Lib.hid (ownsRow_at hown.out)
   obtain ⟨o2, c2, rfl, hs2, hr2, ho2⟩ := Ho.out
   have Hr2 := Lib.hid hr2
   have Hs2 := Lib.hid hs2
   clear hr2 hs2 Ho ho2 hown
   go_wp2
   refine bodyPost_ret (v := .tuple #[.slice o2 l.length c2, .bool true]) (by simp [results, Tryz.results58, go_sem]) rfl ?_
   rw [Hr.out]
   exact ⟨o2, c2, rfl, Hs2.out, .of_row Hr2.out, hB⟩
set_option maxHeartbeats 2000000 in
theorem rf_records (s : ByteArray) (w : World) (hs : s.size ≤ 2000000) :
  Calls Tryz.prog 78 #[.string s] w (RecsE w (recsOf s.data.toList)) := by
 obtain ⟨i0, hi, iz0, iz1, iz2⟩ := info_parts infoStr
 obtain ⟨L, hL⟩ : ∃ L, s.data.toList = L := ⟨_, rfl⟩
 have hLs : L.length = s.size := by rw [← hL, len_size]
 rw [hL]
 go_enter Tryz.func78, Tryz.ntmps78
 go_wp2
 go_loopw [4, 5] (fun v t wr => ∃ (k f : Nat) (l : List ByteArray), t = .int .i64 k ∧ Hid (RecsInv L k f l) ∧ k ≤ L.length ∧ Hid (wr.ownsRow w.heap.size 9 1 v l.length (l.map .string)) ∧ Below w.heap.size w wr) (fun _ t _ => s.size - (intOf t).toNat)
 case atStart => exact ⟨0, L.length, [], rfl, Lib.hid (RecsInv.start L), by omega, Lib.hid (ownsRow_empty _ _ _ _ _ rfl (Nat.le_refl _)), Below.one _ _⟩
 case round =>
  obtain ⟨k, f, l, rfl, hI, hk, hown, hB⟩ := hrel
  have hll : l.length ≤ 2000000 := by have := hI.out.2.2.1; omega
  by_cases hlt : k < s.size
  ·
   obtain ⟨T, hT⟩ : ∃ T, s.extract k s.size = T := ⟨_, rfl⟩
   have hTl : T.data.toList = L.drop k := by
    rw [← hT, ← hL, cut_list, List.take_of_length_le]
    rw [List.length_drop, len_size]; exact Nat.le_refl _
   have hTs : T.size = s.size - k := by rw [← len_size, hTl, List.length_drop, hLs]
   have HTs := Lib.hid hTs
   have hg1 : (0 : Int) ≤ k := by omega
   have hg2 : (k : Int) ≤ s.size := by omega
   cases hr : recP (L.drop k) with
   | none =>
    have hR := rf_Read_none T wr (by omega) (by omega) (by rw [hTl]; exact hr)
    have Hr := Lib.hid (hI.out.none (by omega) hr)
    rw [← hT] at hR
    clear hTs hTl hr HTs hT
    go_wp2_with fail
    refine hR.mono ?_
    rintro e w1 ⟨isl, atom, o, m, c, n, er, rfl, hor, hb1⟩
    have hB1 := btr hB hb1
    have hz1 := hB1.size
    have hB2 := (hB1.alloc hz1 (.cells (sxC isl atom o m c) 123)).alloc (by simp; omega) (.cells #[] 9)
    clear hR
    by_cases hE : er = 0
    ·
     have hil : isl = true := by rcases hor with h | h; exact absurd hE h; exact h
     have hE' : (er != 0) = false := by rw [hE]; rfl
     clear hor
     rw [hil]
     rw [hil] at hB2
     go_wp2
     refine bodyPost_ret (v := .tuple #[.slice (some ⟨w1.heap.size + 1, 0, none⟩) 0 0, .bool false]) (by simp [results, Tryz.results78, go_sem]) rfl ?_
     rw [Hr.out]
     exact ⟨_, 0, rfl, .inr ⟨_, rfl, Nat.zero_le _, by simp [maxLen]⟩, (by intro j h; exact absurd h (by simp)), hB2⟩
    ·
     have hE' : (er != 0) = true := by rw [bne_iff_ne]; exact hE
     clear hor
     go_wp2
     refine bodyPost_ret (v := .tuple #[.slice (some ⟨w1.heap.size + 1, 0, none⟩) 0 0, .bool false]) (by simp [results, Tryz.results78, go_sem]) rfl ?_
     rw [Hr.out]
     exact ⟨_, 0, rfl, .inr ⟨_, rfl, Nat.zero_le _, by simp [maxLen]⟩, (by intro j h; exact absurd h (by simp)), hB2⟩
   | some q =>
    obtain ⟨a, n⟩ := q
    obtain ⟨g, hg⟩ := hI.out.next (by omega) hr
    have HI := Lib.hid hg
    have hn := recP_bd hr
    have hR := rf_Read_some T a n wr (by omega) (by rw [hTl]; exact hr)
    obtain ⟨S, hS⟩ : ∃ S, bs a = S := ⟨_, rfl⟩
    rw [hS] at hR HI
    rw [← hT] at hR
    rw [List.length_drop] at hn
    clear hTl hr hg hS hTs HTs hT
    go_wp2_with fail
    refine hR.mono ?_
    rintro e w1 ⟨rfl, hb1⟩
    have hown1 := ownsRow_belowAll hown.out hb1
    have hB1 := btr hB hb1
    have hz1 := hB1.size
    clear hR
    go_wp2_with (at_builtin; go_loud (refine wpList_app rfl (.tmp 29) (.tmp 32) 22 rfl w.heap.size 9 i0 _ 1 16 Tryz.underlying22 hi iz0 iz1 iz2 rfl (by decide) _ l.length _ rfl ((hown1.alloc _).alloc _) _ 1 1 [.string S] rfl (by intro e; cases e) rfl (RowAt.bx (Bx.newAt _ _ _ _ (by simp))) (by simp [Value.oneCell']) (by unfold maxLen; omega) (by omega) (by simp; omega) ?_; intro v2 w2 hown2 hg2))
    have hB2 := ((hB1.alloc hz1 (.cells (sxC false S none 0 0) 123)).alloc (by simp; omega) (.cells #[.string S] 9)).grown hg2 (by simp; omega) (by intro j e; have := (hown1.lt _ e).1; omega)
    go_wp2
    go_roundw
    case rel => exact ⟨k + n, g, _, by go_num, HI, by omega, Lib.hid (by simpa using hown2), hB2⟩
    case measure => simp [intOf]; omega
  ·
   obtain rfl : k = L.length := by omega
   have Hr := Lib.hid (hI.out.stop rfl)
   have Ho := Lib.hid (ownsRow_at hown.out)
   obtain ⟨o2, c2, rfl, hs2, hr2, ho2⟩ := Ho.out
   have Hr2 := Lib.hid hr2
   have Hs2 := Lib.hid hs2
   have hlt' : ¬ ((L.length : Int) < s.size) := by omega
   clear hr2 hs2 Ho ho2 hown
   go_wp2
   refine bodyPost_ret (v := .tuple #[.slice o2 l.length c2, .bool true]) (by simp [results, Tryz.results78, go_sem]) rfl ?_
   rw [Hr.out]
   exact ⟨o2, c2, rfl, Hs2.out, .of_row Hr2.out, hB⟩
end Go.Proofs.YtghikgjknhjjgaaGreatDoor
namespace Go.Proofs.YtghikgjknhjjgaaGreatDoor
set_option maxRecDepth 100000
open Go.RowKit
abbrev dC (d : Dsk) (po co : Option Addr) (pc cc : Nat) : Array Value := #[.int .i64 d.size, .slice po d.pages.length pc, .slice co d.cache.length cc, .int .i64 d.left]
abbrev lgC (d : Dsk) (po co : Option Addr) (pc cc : Nat) (frm til ver : Int) (ro : Option Addr) (rn rc : Nat) : Array Value := #[.int .i64 d.size, .slice po d.pages.length pc, .slice co d.cache.length cc, .int .i64 d.left, .int .i64 frm, .int .i64 til, .int .i64 ver, .slice ro rn rc]
abbrev lgZ : Array Value := #[.int .i64 0, .slice none 0 0, .slice none 0 0, .int .i64 0, .int .i64 0, .int .i64 0, .int .i64 0, .slice none 0 0]
/-- the value v is the log l in the world w -/
def LgV (w : World) (v : Value) (l : Lg) : Prop :=
 ∃ po pc co cc ro rc, v = .agg (lgC l.disk po co pc cc l.frm l.til l.ver ro l.recs.length rc) ∧ DskV w (.agg (dC l.disk po co pc cc)) l.disk ∧ SlW ro l.recs.length rc ∧ StrsAt (· < w.heap.size) w ro l.recs
theorem LgV.below {w w' : World} {v : Value} {l : Lg} (h : LgV w v l) (hb : Below w.heap.size w w') : LgV w' v l := by
 obtain ⟨po, pc, co, cc, ro, rc, rfl, h1, h2, h3⟩ := h
 exact ⟨po, pc, co, cc, ro, rc, rfl, h1.below hb, h2, (h3.below hb).mono fun _ hs => Nat.lt_of_lt_of_le hs hb.size⟩
def RetLE (w : World) (l : Lg) (er : Int) (e : Ending) (w' : World) : Prop := ∃ v, e = .returned (.tuple #[v, .int .i64 er]) ∧ LgV w' v l ∧ Below w.heap.size w w'
theorem LgV.zero (w : World) : LgV w (.agg lgZ) zeroL :=
 ⟨none, 0, none, 0, none, 0, rfl, zero_DskR w, .inl ⟨rfl, rfl, rfl⟩, by intro j h; exact absurd h (by simp [zeroL])⟩
/-- the version and the length of a page's header; zeros where it is not valid -/
def hdG (d : Dsk) (frm til : Int) (k : Nat) : Nat × Nat := (hdrP (pageL d (frm + k)) k (areaN d frm til)).getD (0, 0)
theorem headL_G (d : Dsk) (frm til : Int) : headL d frm til = if (hdG d frm til 0).1 < (hdG d frm til 1).1 then hdG d frm til 1 else hdG d frm til 0 := by
 unfold headL hdG
 have e : frm + ((0 : Nat) : Int) = frm := by simp
 have e' : frm + ((1 : Nat) : Int) = frm + 1 := by simp
 rw [e, e']
 cases hx : hdrP (pageL d frm) 0 (areaN d frm til) with
 | none =>
  cases hy : hdrP (pageL d (frm + 1)) 1 (areaN d frm til) with
  | none => simp [pickH]
  | some y =>
   obtain ⟨q1, q2, q3, _⟩ := hdrP_some hy
   simp [pickH]; omega
 | some x =>
  cases hy : hdrP (pageL d (frm + 1)) 1 (areaN d frm til) with
  | none => simp [pickH]
  | some y => simp [pickH]
theorem hdG_bd (d : Dsk) (frm til : Int) (k : Nat) : (hdG d frm til k).1 ≤ 1099511627776 ∧ (hdG d frm til k).2 ≤ 1099511627776 ∧ ((hdG d frm til k).1 ≠ 0 → ((hdG d frm til k).2 : Int) ≤ areaN d frm til) := by
 unfold hdG
 cases hx : hdrP (pageL d (frm + k)) k (areaN d frm til) with
 | none => simp
 | some x =>
  obtain ⟨q1, q2, q3, q4, q5, q6, q7, q8⟩ := hdrP_some hx
  exact ⟨q4, q7, fun _ => q6⟩
theorem headL_bd (d : Dsk) (frm til : Int) : (headL d frm til).1 ≤ 1099511627776 ∧ (headL d frm til).2 ≤ 1099511627776 ∧ ((headL d frm til).1 ≠ 0 → ((headL d frm til).2 : Int) ≤ areaN d frm til) := by
 rw [headL_G]
 split
 ·
  exact hdG_bd _ _ _ _
 ·
  exact hdG_bd _ _ _ _
theorem rf_hd (d : Dsk) (v : Value) (frm til : Int) (k : Nat) (w : World) (hf : fitE d frm til = 0) (hk : k ≤ 1) (hD : DskV w v d) :
  Calls Tryz.prog 77 #[v, .int .i64 frm, .int .i64 til, .int .i64 k] w fun e w' => e = .returned (.tuple #[.int .i64 (hdG d frm til k).1, .int .i64 (hdG d frm til k).2]) ∧ Below w.heap.size w w' := by
 unfold hdG
 cases hx : hdrP (pageL d (frm + k)) k (areaN d frm til) with
 | none => exact rf_header_none d v frm til k w hf hk hx hD
 | some x => exact rf_header_some d v frm til k x.1 x.2 w hf hk hx hD
theorem openL_bad {d : Dsk} {frm til : Int} (h : fitE d frm til ≠ 0) : openL d frm til = (zeroL, fitE d frm til) := by unfold openL; rw [if_pos h]
theorem openL_nohead {d : Dsk} {frm til : Int} (h : fitE d frm til = 0) (hv : (headL d frm til).1 = 0) : openL d frm til = (zeroL, 25) := by unfold openL; rw [if_neg (by simpa using h), if_pos hv]
theorem openL_norecs {d : Dsk} {frm til : Int} (h : fitE d frm til = 0) (hv : (headL d frm til).1 ≠ 0) (hr : recsOf ((areaL d frm til).take (headL d frm til).2) = none) : openL d frm til = (zeroL, 25) := by
 unfold openL; rw [if_neg (by simpa using h), if_neg hv, hr]
theorem openL_ok {d : Dsk} {frm til : Int} (h : fitE d frm til = 0) (hv : (headL d frm til).1 ≠ 0) {l : List ByteArray} (hr : recsOf ((areaL d frm til).take (headL d frm til).2) = some l) : openL d frm til = (⟨d, frm, til, (headL d frm til).1, l⟩, 0) := by
 unfold openL; rw [if_neg (by simpa using h), if_neg hv, hr]
def st8 (w : World) (b : Nat) (v0 v1 v2 v3 v4 v5 v6 v7 : Value) : World :=
 (((((((w.setCell ⟨b, 0, none⟩ v0).setCell ⟨b, 1, none⟩ v1).setCell ⟨b, 2, none⟩ v2).setCell ⟨b, 3, none⟩ v3).setCell ⟨b, 4, none⟩ v4).setCell ⟨b, 5, none⟩ v5).setCell ⟨b, 6, none⟩ v6).setCell ⟨b, 7, none⟩ v7
theorem Bx.set8 {w : World} {b : Nat} {u0 u1 u2 u3 u4 u5 u6 u7 v0 v1 v2 v3 v4 v5 v6 v7 : Value} {t : TypeId} (h : Bx w b #[u0, u1, u2, u3, u4, u5, u6, u7] t) : Bx (st8 w b v0 v1 v2 v3 v4 v5 v6 v7) b #[v0, v1, v2, v3, v4, v5, v6, v7] t := by
 have := (((((((h.set 0 v0).set 1 v1).set 2 v2).set 3 v3).set 4 v4).set 5 v5).set 6 v6).set 7 v7
 simpa [Go.Proofs.YtghikgjknhjjgaaGreatDoor.st8] using this
theorem below_set8 {B : Nat} {w w' : World} {b : Nat} {v0 v1 v2 v3 v4 v5 v6 v7 : Value} (h : Below B w w') (hb : B ≤ b) : Below B w (st8 w' b v0 v1 v2 v3 v4 v5 v6 v7) :=
 below_set1 (b := b) (below_set1 (b := b) (below_set1 (b := b) (below_set1 (b := b) (below_set1 (b := b) (below_set1 (b := b) (below_set1 (b := b) (below_set1 (b := b) h hb) hb) hb) hb) hb) hb) hb) hb
theorem Same.set8 {S : Nat → Prop} {w w' : World} {b : Nat} {v0 v1 v2 v3 v4 v5 v6 v7 : Value} (h : Same S w w') (hb : ¬ S b) : Same S w (st8 w' b v0 v1 v2 v3 v4 v5 v6 v7) :=
 (((((((h.set1 (b := b) (k := 0) hb).set1 (b := b) (k := 1) hb).set1 (b := b) (k := 2) hb).set1 (b := b) (k := 3) hb).set1 (b := b) (k := 4) hb).set1 (b := b) (k := 5) hb).set1 (b := b) (k := 6) hb).set1 (b := b) (k := 7) hb
theorem size_set8 (w : World) (b : Nat) (v0 v1 v2 v3 v4 v5 v6 v7 : Value) : (Go.Proofs.YtghikgjknhjjgaaGreatDoor.st8 w b v0 v1 v2 v3 v4 v5 v6 v7).heap.size = w.heap.size := by simp [Go.Proofs.YtghikgjknhjjgaaGreatDoor.st8]
/-- what stands while a log is opened: the disk in block N, the result in block N + 1 -/
structure OpS (w : World) (N : Nat) (d : Dsk) (po co : Option Addr) (pc cc : Nat) (W : World) : Prop where
 dsk : Bx W N (dC d po co pc cc) 25
 res : Bx W (N + 1) lgZ 27
 below : Below w.heap.size w W
 val : DskV W (.agg (dC d po co pc cc)) d
 size : N + 1 < W.heap.size
theorem OpS.next {w : World} {N : Nat} {d : Dsk} {po co : Option Addr} {pc cc : Nat} {W W' : World} (h : OpS w N d po co pc cc W) (hb : Below W.heap.size W W') : OpS w N d po co pc cc W' :=
 ⟨h.dsk.belowAll hb, h.res.belowAll hb, btr h.below hb, h.val.below hb, Nat.lt_of_lt_of_le h.size hb.size⟩
set_option maxHeartbeats 800000 in
theorem rf_Open (d : Dsk) (v : Value) (frm til : Int) (w : World) (hD : DskV w v d) :
  Calls Tryz.prog 48 #[v, .int .i64 frm, .int .i64 til] w (RetLE w (openL d frm til).1 (openL d frm til).2) := by
 have hD0 := hD
 obtain ⟨po, pc, co, cc, rfl⟩ := hD.agg
 obtain ⟨N, hN⟩ : ∃ N, w.heap.size = N := ⟨_, rfl⟩
 obtain ⟨W0, hW0⟩ : ∃ W0, (w.alloc (.cells (dC d po co pc cc) 25)).alloc (.cells lgZ 27) = W0 := ⟨_, rfl⟩
 have s0 : OpS w N d po co pc cc W0 := by
  subst hW0 hN
  have HB := (Below.one w (.cells (dC d po co pc cc) 25)).alloc (by simp) (.cells lgZ 27)
  exact ⟨(Bx.new w (dC d po co pc cc) 25).alloc _, Bx.newAt _ _ _ _ (by simp), HB, hD0.below HB, by simp⟩
 clear hD
 have hor : ∀ er : Int, openL d frm til = (zeroL, er) → Hid (openL d frm til = (zeroL, er)) := fun _ h => Lib.hid h
 go_enter Tryz.func48, Tryz.ntmps48
 have cD := s0.dsk.cell
 have lD := s0.dsk.lt
 go_wp2_with fail
 refine (ref40_check d _ W0 s0.val).mono ?_
 rintro e w1 ⟨rfl, hb1⟩
 have s1 := s0.next hb1
 clear cD lD hW0
 have cD := s1.dsk.cell
 have lD := s1.dsk.lt
 cases hc : (chk d != 0)
 ·
  cases hft : fitsB d frm til
  ·
   have ho : openL d frm til = (zeroL, 2) := by
    have e : fitE d frm til = 2 := by unfold fitE; rw [if_neg (by simpa using hc), if_pos hft]
    rw [openL_bad (by rw [e]; decide), e]
   obtain ⟨er0, her⟩ : ∃ er : Int, er = 2 := ⟨2, rfl⟩
   have Her := Lib.hid her
   have Ho : Hid (openL d frm til = (zeroL, er0)) := Lib.hid (by rw [her]; exact ho)
   clear ho her
   go_wp2_with fail
   refine (rf_Fits d _ frm til _ hc hft s1.val).mono ?_
   rintro e w2 ⟨rfl, hb2⟩
   have s1 := s1.next hb2
   clear cD lD
   have X0 := s1.res
   have lX := X0.lt
   have cX := X0.cell
   have xf := X0.free
   have hBz := Lib.hid (below_set8 (b := N + 1) (v0 := .int .i64 0) (v1 := .slice none 0 0) (v2 := .slice none 0 0) (v3 := .int .i64 0) (v4 := .int .i64 0) (v5 := .int .i64 0) (v6 := .int .i64 0) (v7 := .slice none 0 0) s1.below (by omega))
   have Xz := Lib.hid (X0.set8 (v0 := .int .i64 0) (v1 := .slice none 0 0) (v2 := .slice none 0 0) (v3 := .int .i64 0) (v4 := .int .i64 0) (v5 := .int .i64 0) (v6 := .int .i64 0) (v7 := .slice none 0 0))
   go_wp2
   have cz := Xz.out.cell
   simp only [st8] at cz
   refine bodyPost_ret (v := .tuple #[.agg lgZ, .int .i64 er0]) (by simp [results, Tryz.results48, go_sem, cz, Her.out]) rfl ?_
   rw [Ho.out]
   exact ⟨_, rfl, LgV.zero _, hBz.out⟩
  ·
   have hf0 : fitE d frm til = 0 := by unfold fitE; rw [if_neg (by simpa using hc), if_neg (by simp [hft])]
   go_wp2_with fail
   refine (rf_Fits d _ frm til _ hc hft s1.val).mono ?_
   rintro e w2 ⟨rfl, hb2⟩
   have s1 := s1.next hb2
   clear cD lD
   have cD := s1.dsk.cell
   have lD := s1.dsk.lt
   obtain ⟨k1, hk1⟩ : ∃ k1 : Nat, (hdG d frm til 0).1 = k1 := ⟨_, rfl⟩
   obtain ⟨k2, hk2⟩ : ∃ k2 : Nat, (hdG d frm til 0).2 = k2 := ⟨_, rfl⟩
   obtain ⟨m1, hm1⟩ : ∃ m1 : Nat, (hdG d frm til 1).1 = m1 := ⟨_, rfl⟩
   obtain ⟨m2, hm2⟩ : ∃ m2 : Nat, (hdG d frm til 1).2 = m2 := ⟨_, rfl⟩
   have hG := headL_G d frm til
   have hGb := headL_bd d frm til
   have K1 := Lib.hid hk1
   have K2 := Lib.hid hk2
   have M1 := Lib.hid hm1
   have M2 := Lib.hid hm2
   have HG := Lib.hid hG
   have HGb := Lib.hid hGb
   have HF := Lib.hid hf0
   have h1 := fun W vv (h : DskV W vv d) => rf_hd d vv frm til 0 W hf0 (by omega) h
   have h2 := fun W vv (h : DskV W vv d) => rf_hd d vv frm til 1 W hf0 (by omega) h
   rw [hk1, hk2] at h1
   rw [hm1, hm2] at h2
   have H1 := Lib.hid h1
   have H2 := Lib.hid h2
   clear hG hGb hk1 hk2 hm1 hm2 h1 h2 hf0
   go_wp2_with fail
   refine (H1.out _ _ s1.val).mono ?_
   rintro e w3 ⟨rfl, hb3⟩
   have s1 := s1.next hb3
   clear cD lD
   have cD := s1.dsk.cell
   have lD := s1.dsk.lt
   go_wp2_with fail
   refine (H2.out _ _ s1.val).mono ?_
   rintro e w4 ⟨rfl, hb4⟩
   have s1 := s1.next hb4
   clear cD lD
   have cD := s1.dsk.cell
   have lD := s1.dsk.lt
   by_cases hlt : (k1 : Int) < m1
   ·
    have e0 : ((m1 : Int) == 0) = false := by rw [beq_eq_false_iff_ne]; omega
    obtain ⟨V, hV⟩ : ∃ V, (headL d frm til).1 = V := ⟨_, rfl⟩
    obtain ⟨n, hn⟩ : ∃ n, (headL d frm til).2 = n := ⟨_, rfl⟩
    have hp := HG.out
    rw [if_pos (by rw [K1.out, M1.out]; omega)] at hp
    have e1' : m1 = V := by rw [← M1.out, ← hV, hp]
    have e2' : m2 = n := by rw [← M2.out, ← hn, hp]
    have e1 := Lib.hid e1'
    have e2 := Lib.hid e2'
    have hn0 : V ≠ 0 := by omega
    have Hn0 := Lib.hid hn0
    have hnb : Hid ((n : Int) ≤ areaN d frm til) := Lib.hid (by have := HGb.out.2.2; rw [hV, hn] at this; exact this hn0)
    have HV := Lib.hid hV
    have HN := Lib.hid hn
    have hf0 := HF.out
    clear hp hn0 hV hn e1' e2'
    go_wp2_with fail
    rw [e1.out, e2.out]
    refine (rf_area d _ frm til _ hf0 s1.val).mono ?_
    rintro e w2 ⟨rfl, hb2⟩
    have s2 := s1.next hb2
    obtain ⟨T, hT⟩ : ∃ T, bs (areaL d frm til) = T := ⟨_, rfl⟩
    have hTs : (T.size : Int) = areaN d frm til := by rw [← hT, bs_size, areaL_len hf0]
    have hg1 : (0 : Int) ≤ n := by omega
    have hg2 : (n : Int) ≤ T.size := by have := hnb.out; omega
    obtain ⟨U, hU⟩ : ∃ U, T.extract 0 n = U := ⟨_, rfl⟩
    have hUl : U.data.toList = (areaL d frm til).take n := by rw [← hU, cut_list, ← hT]; simp
    have hUs : U.size ≤ 2000000 := by
     rw [← len_size, hUl, List.length_take]
     have ha := areaL_len hf0
     have := area_bd hf0
     omega
    have HR := rf_records U w2 hUs
    rw [hUl] at HR
    rw [hT]
    clear cD lD hT hTs hUs hUl
    cases hrr : recsOf ((areaL d frm til).take n) with
    | none =>
     rw [hrr] at HR
     have ho : openL d frm til = (zeroL, 25) := openL_norecs hf0 (by rw [HV.out]; exact Hn0.out) (by rw [HN.out]; exact hrr)
     clear hrr
     obtain ⟨er0, her⟩ : ∃ er : Int, er = 25 := ⟨25, rfl⟩
     have Her := Lib.hid her
     have Ho : Hid (openL d frm til = (zeroL, er0)) := Lib.hid (by rw [her]; exact ho)
     clear ho her
     go_wp2_with fail
     refine HR.mono ?_
     rintro e w3 ⟨o, c, rfl, hsl, hst, hb3⟩
     have s1 := s2.next hb3
     clear HR hU
     have cD : True := trivial
     have lD : True := trivial
     clear cD lD
     have X0 := s1.res
     have lX := X0.lt
     have cX := X0.cell
     have xf := X0.free
     have hBz := Lib.hid (below_set8 (b := N + 1) (v0 := .int .i64 0) (v1 := .slice none 0 0) (v2 := .slice none 0 0) (v3 := .int .i64 0) (v4 := .int .i64 0) (v5 := .int .i64 0) (v6 := .int .i64 0) (v7 := .slice none 0 0) s1.below (by omega))
     have Xz := Lib.hid (X0.set8 (v0 := .int .i64 0) (v1 := .slice none 0 0) (v2 := .slice none 0 0) (v3 := .int .i64 0) (v4 := .int .i64 0) (v5 := .int .i64 0) (v6 := .int .i64 0) (v7 := .slice none 0 0))
     go_wp2
     have cz := Xz.out.cell
     simp only [st8] at cz
     refine bodyPost_ret (v := .tuple #[.agg lgZ, .int .i64 er0]) (by simp [results, Tryz.results48, go_sem, cz, Her.out]) rfl ?_
     rw [Ho.out]
     exact ⟨_, rfl, LgV.zero _, hBz.out⟩
    | some l =>
     rw [hrr] at HR
     have ho := Lib.hid (openL_ok hf0 (by rw [HV.out]; exact Hn0.out) (by rw [HN.out]; exact hrr))
     clear hrr
     go_wp2_with fail
     refine HR.mono ?_
     rintro e w3 ⟨o, c, rfl, hsl, hst, hb3⟩
     have s3 := s2.next hb3
     clear HR hU
     have Hsl := Lib.hid hsl
     have Hst := Lib.hid hst
     have hz2 := s2.size
     clear hsl hst
     have X0 := s3.res
     have lX := X0.lt
     have cX := X0.cell
     have xf := X0.free
     have cD := s3.dsk.cell
     have lD := s3.dsk.lt
     have hl : (some l).getD [] = l := rfl
     have hBz := Lib.hid (below_set8 (b := N + 1) (v0 := .int .i64 d.size) (v1 := .slice po d.pages.length pc) (v2 := .slice co d.cache.length cc) (v3 := .int .i64 d.left) (v4 := .int .i64 frm) (v5 := .int .i64 til) (v6 := .int .i64 V) (v7 := .slice o l.length c) s3.below (by omega))
     have Xz := Lib.hid (X0.set8 (v0 := .int .i64 d.size) (v1 := .slice po d.pages.length pc) (v2 := .slice co d.cache.length cc) (v3 := .int .i64 d.left) (v4 := .int .i64 frm) (v5 := .int .i64 til) (v6 := .int .i64 V) (v7 := .slice o l.length c))
     have Hst2 := Lib.hid (Hst.out.same ((Same.refl _ _).set8 (b := N + 1) (v0 := .int .i64 d.size) (v1 := .slice po d.pages.length pc) (v2 := .slice co d.cache.length cc) (v3 := .int .i64 d.left) (v4 := .int .i64 frm) (v5 := .int .i64 til) (v6 := .int .i64 V) (v7 := .slice o l.length c) (by omega)))
     go_wp2
     have cz := Xz.out.cell
     simp only [st8] at cz
     refine bodyPost_ret (v := .tuple #[.agg (lgC d po co pc cc frm til V o l.length c), .int .i64 0]) (by simp [results, Tryz.results48, go_sem, cz]) rfl ?_
     rw [ho.out, HV.out]
     refine ⟨_, rfl, ⟨po, pc, co, cc, o, c, rfl, hD0.below hBz.out, Hsl.out, ?_⟩, hBz.out⟩
     exact Hst2.out.mono (fun b hb => by have := size_set8 w3 (N + 1) (.int .i64 d.size) (.slice po d.pages.length pc) (.slice co d.cache.length cc) (.int .i64 d.left) (.int .i64 frm) (.int .i64 til) (.int .i64 V) (.slice o l.length c); unfold st8 at this; simp only [Option.getD_some] at *; omega)
   ·
    cases e0 : ((k1 : Int) == 0)
    ·
     obtain ⟨V, hV⟩ : ∃ V, (headL d frm til).1 = V := ⟨_, rfl⟩
     obtain ⟨n, hn⟩ : ∃ n, (headL d frm til).2 = n := ⟨_, rfl⟩
     have hp := HG.out
     rw [if_neg (by rw [K1.out, M1.out]; omega)] at hp
     have e1' : k1 = V := by rw [← K1.out, ← hV, hp]
     have e2' : k2 = n := by rw [← K2.out, ← hn, hp]
     have e1 := Lib.hid e1'
     have e2 := Lib.hid e2'
     have hn0 : V ≠ 0 := by rw [← e1']; intro h; rw [h] at e0; cases e0
     have Hn0 := Lib.hid hn0
     have hnb : Hid ((n : Int) ≤ areaN d frm til) := Lib.hid (by have := HGb.out.2.2; rw [hV, hn] at this; exact this hn0)
     have HV := Lib.hid hV
     have HN := Lib.hid hn
     have hf0 := HF.out
     clear hp hn0 hV hn e1' e2'
     go_wp2_with fail
     rw [e1.out, e2.out]
     refine (rf_area d _ frm til _ hf0 s1.val).mono ?_
     rintro e w2 ⟨rfl, hb2⟩
     have s2 := s1.next hb2
     obtain ⟨T, hT⟩ : ∃ T, bs (areaL d frm til) = T := ⟨_, rfl⟩
     have hTs : (T.size : Int) = areaN d frm til := by rw [← hT, bs_size, areaL_len hf0]
     have hg1 : (0 : Int) ≤ n := by omega
     have hg2 : (n : Int) ≤ T.size := by have := hnb.out; omega
     obtain ⟨U, hU⟩ : ∃ U, T.extract 0 n = U := ⟨_, rfl⟩
     have hUl : U.data.toList = (areaL d frm til).take n := by rw [← hU, cut_list, ← hT]; simp
     have hUs : U.size ≤ 2000000 := by
      rw [← len_size, hUl, List.length_take]
      have ha := areaL_len hf0
      have := area_bd hf0
      omega
     have HR := rf_records U w2 hUs
     rw [hUl] at HR
     rw [hT]
     clear cD lD hT hTs hUs hUl
     cases hrr : recsOf ((areaL d frm til).take n) with
     | none =>
      rw [hrr] at HR
      have ho : openL d frm til = (zeroL, 25) := openL_norecs hf0 (by rw [HV.out]; exact Hn0.out) (by rw [HN.out]; exact hrr)
      clear hrr
      obtain ⟨er0, her⟩ : ∃ er : Int, er = 25 := ⟨25, rfl⟩
      have Her := Lib.hid her
      have Ho : Hid (openL d frm til = (zeroL, er0)) := Lib.hid (by rw [her]; exact ho)
      clear ho her
      go_wp2_with fail
      refine HR.mono ?_
      rintro e w3 ⟨o, c, rfl, hsl, hst, hb3⟩
      have s1 := s2.next hb3
      clear HR hU
      have cD : True := trivial
      have lD : True := trivial
      clear cD lD
      have X0 := s1.res
      have lX := X0.lt
      have cX := X0.cell
      have xf := X0.free
      have hBz := Lib.hid (below_set8 (b := N + 1) (v0 := .int .i64 0) (v1 := .slice none 0 0) (v2 := .slice none 0 0) (v3 := .int .i64 0) (v4 := .int .i64 0) (v5 := .int .i64 0) (v6 := .int .i64 0) (v7 := .slice none 0 0) s1.below (by omega))
      have Xz := Lib.hid (X0.set8 (v0 := .int .i64 0) (v1 := .slice none 0 0) (v2 := .slice none 0 0) (v3 := .int .i64 0) (v4 := .int .i64 0) (v5 := .int .i64 0) (v6 := .int .i64 0) (v7 := .slice none 0 0))
      go_wp2
      have cz := Xz.out.cell
      simp only [st8] at cz
      refine bodyPost_ret (v := .tuple #[.agg lgZ, .int .i64 er0]) (by simp [results, Tryz.results48, go_sem, cz, Her.out]) rfl ?_
      rw [Ho.out]
      exact ⟨_, rfl, LgV.zero _, hBz.out⟩
     | some l =>
      rw [hrr] at HR
      have ho := Lib.hid (openL_ok hf0 (by rw [HV.out]; exact Hn0.out) (by rw [HN.out]; exact hrr))
      clear hrr
      go_wp2_with fail
      refine HR.mono ?_
      rintro e w3 ⟨o, c, rfl, hsl, hst, hb3⟩
      have s3 := s2.next hb3
      clear HR hU
      have Hsl := Lib.hid hsl
      have Hst := Lib.hid hst
      have hz2 := s2.size
      clear hsl hst
      have X0 := s3.res
      have lX := X0.lt
      have cX := X0.cell
      have xf := X0.free
      have cD := s3.dsk.cell
      have lD := s3.dsk.lt
      have hl : (some l).getD [] = l := rfl
      have hBz := Lib.hid (below_set8 (b := N + 1) (v0 := .int .i64 d.size) (v1 := .slice po d.pages.length pc) (v2 := .slice co d.cache.length cc) (v3 := .int .i64 d.left) (v4 := .int .i64 frm) (v5 := .int .i64 til) (v6 := .int .i64 V) (v7 := .slice o l.length c) s3.below (by omega))
      have Xz := Lib.hid (X0.set8 (v0 := .int .i64 d.size) (v1 := .slice po d.pages.length pc) (v2 := .slice co d.cache.length cc) (v3 := .int .i64 d.left) (v4 := .int .i64 frm) (v5 := .int .i64 til) (v6 := .int .i64 V) (v7 := .slice o l.length c))
      have Hst2 := Lib.hid (Hst.out.same ((Same.refl _ _).set8 (b := N + 1) (v0 := .int .i64 d.size) (v1 := .slice po d.pages.length pc) (v2 := .slice co d.cache.length cc) (v3 := .int .i64 d.left) (v4 := .int .i64 frm) (v5 := .int .i64 til) (v6 := .int .i64 V) (v7 := .slice o l.length c) (by omega)))
      go_wp2
      have cz := Xz.out.cell
      simp only [st8] at cz
      refine bodyPost_ret (v := .tuple #[.agg (lgC d po co pc cc frm til V o l.length c), .int .i64 0]) (by simp [results, Tryz.results48, go_sem, cz]) rfl ?_
      rw [ho.out, HV.out]
      refine ⟨_, rfl, ⟨po, pc, co, cc, o, c, rfl, hD0.below hBz.out, Hsl.out, ?_⟩, hBz.out⟩
      exact Hst2.out.mono (fun b hb => by have := size_set8 w3 (N + 1) (.int .i64 d.size) (.slice po d.pages.length pc) (.slice co d.cache.length cc) (.int .i64 d.left) (.int .i64 frm) (.int .i64 til) (.int .i64 V) (.slice o l.length c); unfold st8 at this; simp only [Option.getD_some] at *; omega)
    ·
     have ho : openL d frm til = (zeroL, 25) := openL_nohead HF.out (by rw [HG.out, if_neg (by rw [K1.out, M1.out]; omega), K1.out]; have := of_decide_eq_true e0; omega)
     have q1 : k1 = 0 := by have := of_decide_eq_true e0; omega
     have q2 : m1 = 0 := by omega
     clear e0 hlt
     obtain ⟨er0, her⟩ : ∃ er : Int, er = 25 := ⟨25, rfl⟩
     have Her := Lib.hid her
     have Ho : Hid (openL d frm til = (zeroL, er0)) := Lib.hid (by rw [her]; exact ho)
     clear ho her
     rw [q1, q2]
     clear q1 q2
     simp only [Int.natCast_zero]
     clear cD lD
     have X0 := s1.res
     have lX := X0.lt
     have cX := X0.cell
     have xf := X0.free
     have hBz := Lib.hid (below_set8 (b := N + 1) (v0 := .int .i64 0) (v1 := .slice none 0 0) (v2 := .slice none 0 0) (v3 := .int .i64 0) (v4 := .int .i64 0) (v5 := .int .i64 0) (v6 := .int .i64 0) (v7 := .slice none 0 0) s1.below (by omega))
     have Xz := Lib.hid (X0.set8 (v0 := .int .i64 0) (v1 := .slice none 0 0) (v2 := .slice none 0 0) (v3 := .int .i64 0) (v4 := .int .i64 0) (v5 := .int .i64 0) (v6 := .int .i64 0) (v7 := .slice none 0 0))
     go_wp2
     have cz := Xz.out.cell
     simp only [st8] at cz
     refine bodyPost_ret (v := .tuple #[.agg lgZ, .int .i64 er0]) (by simp [results, Tryz.results48, go_sem, cz, Her.out]) rfl ?_
     rw [Ho.out]
     exact ⟨_, rfl, LgV.zero _, hBz.out⟩
 ·
  have ho := openL_bad (d := d) (frm := frm) (til := til) (by rw [fitE_1 hc]; decide)
  rw [fitE_1 hc] at ho
  obtain ⟨er0, her⟩ : ∃ er : Int, er = 1 := ⟨1, rfl⟩
  have Her := Lib.hid her
  have Ho : Hid (openL d frm til = (zeroL, er0)) := Lib.hid (by rw [her]; exact ho)
  clear ho her
  clear cD lD
  have X0 := s1.res
  have lX := X0.lt
  have cX := X0.cell
  have xf := X0.free
  have hBz := Lib.hid (below_set8 (b := N + 1) (v0 := .int .i64 0) (v1 := .slice none 0 0) (v2 := .slice none 0 0) (v3 := .int .i64 0) (v4 := .int .i64 0) (v5 := .int .i64 0) (v6 := .int .i64 0) (v7 := .slice none 0 0) s1.below (by omega))
  have Xz := Lib.hid (X0.set8 (v0 := .int .i64 0) (v1 := .slice none 0 0) (v2 := .slice none 0 0) (v3 := .int .i64 0) (v4 := .int .i64 0) (v5 := .int .i64 0) (v6 := .int .i64 0) (v7 := .slice none 0 0))
  go_wp2
  have cz := Xz.out.cell
  simp only [st8] at cz
  refine bodyPost_ret (v := .tuple #[.agg lgZ, .int .i64 er0]) (by simp [results, Tryz.results48, go_sem, cz, Her.out]) rfl ?_
  rw [Ho.out]
  exact ⟨_, rfl, LgV.zero _, hBz.out⟩
end Go.Proofs.YtghikgjknhjjgaaGreatDoor
namespace Go.Proofs.YtghikgjknhjjgaaGreatDoor
set_option maxRecDepth 100000
open Go.RowKit Go.Shelf
attribute [local go_sem] Oper.semAt_some
theorem KeepT.same {S T : Nat → Prop} {W W' : World} (h : KeepT T W W') (hS : InS S W) (hTS : ∀ b, S b → T b) : Same S W W' := by
 intro b hb
 have hlt := hS b hb
 have ho : W.heap[b]? = some (W.heap[b]'hlt) := Array.getElem?_eq_getElem hlt
 rw [ho]
 exact h b _ (hTS b hb) ho
theorem KeepT.inS {S T : Nat → Prop} {W W' : World} (h : KeepT T W W') (hS : InS S W) (hTS : ∀ b, S b → T b) : InS S W' := by
 intro b hb
 have ho : W.heap[b]? = some (W.heap[b]'(hS b hb)) := Array.getElem?_eq_getElem (hS b hb)
 exact (Array.getElem?_eq_some_iff.1 (h b _ (hTS b hb) ho)).1
theorem KeepT.below {T : Nat → Prop} {W W' : World} (hb : Below W.heap.size W W') : KeepT T W W' := fun k _o _ ho => (hb.block k (Array.getElem?_eq_some_iff.1 ho).1).trans ho
theorem read_page (d : Dsk) (i : Int) : readD d i = (bs (pageL d i), (readD d i).2) := by
 unfold pageL; rw [bs_of]
set_option maxRecDepth 100000 in
set_option maxHeartbeats 1000000 in
theorem pc_runs (n : Nat) (hn : 2 ≤ n) (Bf Bt Bd : Nat) (d : Dsk) (po co : Option Addr) (pc cc : Nat) (frm til : Int) (M : Nat) (hM : til = frm + M) (hf0 : 0 ≤ frm) (ht : til ≤ 2000) {S : Nat → Prop} (T : Nat → Prop) (W : World)
  (hTS : ∀ b, S b → T b) (hS : InS S W) (_hTf : T Bf) (hTt : T Bt) (hTd : T Bd) (hD : DskR S W (.agg (dC d po co pc cc)) d)
  (xf : Bx W Bf #[.int .i64 frm] 3) (xt : Bx W Bt #[.int .i64 til] 3) (xd : Bx W Bd (dC d po co pc cc) 25) :
  SeqRun Fence.wide n Tryz.prog 86 #[.pointer (some ⟨Bf, 0, none⟩), .pointer (some ⟨Bt, 0, none⟩), .pointer (some ⟨Bd, 0, none⟩)] (fun x : Fin M => #[Value.string (bs (pageL d (frm + x.1)))]) T (fun ys => ys = List.finRange M) M W := by
 intro l J hJ hY h0
 have hro : Fence.wide.round = none := rfl
 have h1 : 1 ≤ n := by omega
 refine callsIn_of_wp Tryz.func86 rfl trivial ?_ hro
 simp only [Tryz.ntmps86, List.size_toArray, List.length_cons, List.length_nil, Nat.reduceAdd, Nat.reduceSub, Array.replicate_succ, Array.replicate_zero, List.push_toArray, List.append_toArray, List.nil_append, List.cons_append]
 have cf := xf.cell 0
 have lf := xf.lt
 simp at cf
 gi_wp2
 gi_loopw [5, 6, 7] (fun i _ _ wr => ∃ k : Nat, k ≤ M ∧ i = .int .i64 (frm + k) ∧ J (firsts M k) wr ∧ KeepT T W wr)
  (fun i _ _ _ => (til - intOf i).toNat)
 case atStart => exact ⟨0, Nat.zero_le _, by simp, h0, KeepT.refl _ _⟩
 case round =>
  obtain ⟨k, hk, rfl, hJk, hKT⟩ := hrel
  clear cf lf
  have yt : Bx wr Bt #[.int .i64 til] 3 := hKT _ _ hTt xt
  have yd : Bx wr Bd (dC d po co pc cc) 25 := hKT _ _ hTd xd
  have ct := yt.cell 0
  have lt := yt.lt
  have cd := yd.cell
  have ld := yd.lt
  simp at ct
  by_cases hlt : k < M
  ·
   have hlt' : frm + (k : Int) < til := by omega
   have hw : IntKind.i64.wrap (frm + (k : Int) + 1) = frm + (k : Int) + 1 := IntWalk.i64_in _ (by omega)
   have hV : DskV wr (.agg (dC d po co pc cc)) d := .of (hD.same (hKT.same hS hTS)) (hKT.inS hS hTS)
   have HM := Lib.hid hM
   clear hM
   gi_wp2_with (refine ⟨trivial, ?_⟩; gi_at_call 24; refine (callsIn_wide.2 (v_read d _ (frm + k) _ hV (read_page d _))).mono ?_)
   rintro e w1 ⟨rfl, hb1⟩
   have hJ1 := hJ _ _ _ hJk (grown_of_below hb1 none)
   have hK1 : KeepT T W w1 := hKT.trans (KeepT.below hb1)
   obtain ⟨fn, tmps, assign, body, hy, hR⟩ := hY _ ⟨k, hlt⟩ w1 hJ1 (by rw [firsts_len hk]; exact hlt)
   dsimp only at hy
   clear ct lt cd ld
   gi_wp2
   refine hR.mono ?_
   rintro e W3 ⟨rfl, hJ3, hk3⟩
   have z1 : Bx W3 Bt #[.int .i64 til] 3 := hk3 _ _ hTt (hK1 _ _ hTt xt)
   have hmz : frm + (k : Int) + 1 = frm + ((k + 1 : Nat) : Int) := by omega
   have hmz' := Lib.hid hmz
   clear hmz
   gi_wp2
   go_roundw
   case rel => exact ⟨k + 1, by omega, by rw [hmz'.out], by rw [firsts_succ hlt]; exact hJ3, hK1.trans hk3⟩
   case measure => simp [intOf]; have := HM.out; omega
  ·
   obtain rfl : k = M := by omega
   have hlt' : ¬ (frm + (k : Int) < til) := by omega
   have HM := Lib.hid hM
   clear hM
   gi_wp2
   go_end0
   exact ⟨⟨_, rfl⟩, by rw [← firsts_all]; exact hJk⟩
set_option maxHeartbeats 1000000 in
theorem pc_in (n : Nat) (v0 v1 v2 v3 : Value) (frm til : Int) (w : World) :
  CallsIn Fence.wide n Tryz.prog 55 #[.agg #[v0, v1, v2, v3], .int .i64 frm, .int .i64 til] w fun e w' => e = .returned (.func (.func 86) #[] #[.pointer (some ⟨w.heap.size + 1, 0, none⟩), .pointer (some ⟨w.heap.size + 1 + 1, 0, none⟩), .pointer (some ⟨w.heap.size, 0, none⟩)]) ∧ w' = ((w.alloc (.cells #[v0, v1, v2, v3] 25)).alloc (.cells #[.int .i64 frm] 3)).alloc (.cells #[.int .i64 til] 3) := by
 have hro : Fence.wide.round = none := rfl
 refine callsIn_of_wp Tryz.func55 rfl trivial ?_ hro
 simp only [Tryz.ntmps55, List.size_toArray, List.length_cons, List.length_nil, Nat.reduceAdd, Nat.reduceSub, Array.replicate_succ, Array.replicate_zero, List.push_toArray, List.append_toArray, List.nil_append, List.cons_append]
 gi_wp2
 go_ret
 exact ⟨by simp, rfl⟩
end Go.Proofs.YtghikgjknhjjgaaGreatDoor
namespace Go.Proofs.YtghikgjknhjjgaaGreatDoor
set_option maxRecDepth 100000
open Go.RowKit
def RetHX (x y : Int) (w : World) (e : Ending) (w' : World) : Prop := e = .returned (.tuple #[.int .i64 x, .int .i64 y, .bool false]) ∧ Below w.heap.size w w'
set_option maxHeartbeats 2000000 in
theorem pl_read_noneX (s : ByteArray) (k : Nat) (area : Int) (w : World) (hs : 24 ≤ s.size) (hs2 : s.size ≤ 512) (ha : area ≤ 1099511627776) (hh : hdrP s.data.toList k area = none) :
  Calls Tryz.prog 56 #[.string s, .int .i64 k, .int .i64 area] w (RetHX (valP (s.data.toList.take 8) 0) (valP ((s.data.toList.drop 8).take 8) 0) w) := by
 have hl := len_size s
 obtain ⟨x, hx⟩ : ∃ x, valP (s.data.toList.take 8) 0 = x := ⟨_, rfl⟩
 obtain ⟨y, hy⟩ : ∃ y, valP ((s.data.toList.drop 8).take 8) 0 = y := ⟨_, rfl⟩
 rw [hx, hy]
 have c1 := Lib.hid hx
 have c2 := Lib.hid hy
 have hH := Lib.hid hh
 clear hx hy hh
 have v1 : ∀ W, Calls Tryz.prog 87 #[.string s] W fun e w' => e = .returned (.int .i64 x) ∧ w' = W := fun W => by rw [← c1.out]; exact (pl_value s W (by omega)).mono fun _ _ h => ⟨h.1, h.2.symm⟩
 have v2 : ∀ W, Calls Tryz.prog 87 #[.string (s.extract 8 s.size)] W fun e w' => e = .returned (.int .i64 y) ∧ w' = W := fun W => by
  have := (pl_value (s.extract 8 s.size) W (by simp; omega)).mono fun _ _ h => (And.intro h.1 h.2.symm)
  rw [← c2.out]
  rwa [val_drop s (by omega)] at this
 cases g1 : decide (1 ≤ x)
 ·
  go_enter Tryz.func56, Tryz.ntmps56
  go_wp2_with fail
  go_quiet ((first | (go_at_call 87; with_reducible exact Calls.quiet_of_same (v1 _)) | (go_at_call 87; with_reducible exact Calls.quiet_of_same (v2 _))))
  go_wp2
  go_ret3
  exact ⟨rfl, Below.drewN (Below.refl _ _) nq⟩
 have g1' := of_decide_eq_true g1
 cases g2 : decide (x ≤ 1099511627776)
 ·
  go_enter Tryz.func56, Tryz.ntmps56
  go_wp2_with fail
  go_quiet ((first | (go_at_call 87; with_reducible exact Calls.quiet_of_same (v1 _)) | (go_at_call 87; with_reducible exact Calls.quiet_of_same (v2 _))))
  go_wp2
  go_ret3
  exact ⟨rfl, Below.drewN (Below.refl _ _) nq⟩
 have g2' := of_decide_eq_true g2
 obtain ⟨v, rfl⟩ : ∃ v : Nat, x = v := ⟨x.toNat, by omega⟩
 cases g3 : decide ((v : Int) % 2 = (k : Int))
 ·
  have g3' := of_decide_eq_false g3
  go_enter Tryz.func56, Tryz.ntmps56
  go_wp2_with fail
  go_quiet ((first | (go_at_call 87; with_reducible exact Calls.quiet_of_same (v1 _)) | (go_at_call 87; with_reducible exact Calls.quiet_of_same (v2 _))))
  go_wp2
  go_ret3
  exact ⟨rfl, Below.drewN (Below.refl _ _) nq⟩
 have g3' := of_decide_eq_true g3
 cases g4 : decide (0 ≤ y)
 ·
  go_enter Tryz.func56, Tryz.ntmps56
  go_wp2_with fail
  go_quiet ((first | (go_at_call 87; with_reducible exact Calls.quiet_of_same (v1 _)) | (go_at_call 87; with_reducible exact Calls.quiet_of_same (v2 _))))
  go_wp2
  go_ret3
  exact ⟨rfl, Below.drewN (Below.refl _ _) nq⟩
 have g4' := of_decide_eq_true g4
 cases g5 : decide (y ≤ area)
 ·
  go_enter Tryz.func56, Tryz.ntmps56
  go_wp2_with fail
  go_quiet ((first | (go_at_call 87; with_reducible exact Calls.quiet_of_same (v1 _)) | (go_at_call 87; with_reducible exact Calls.quiet_of_same (v2 _))))
  go_wp2
  go_ret3
  exact ⟨rfl, Below.drewN (Below.refl _ _) nq⟩
 have g5' := of_decide_eq_true g5
 obtain ⟨n, rfl⟩ : ∃ n : Nat, y = n := ⟨y.toNat, by omega⟩
 have hne : (s.toList == hdrL s.size v n) = false := by
  have : s ≠ bs (hdrL s.size v n) → (s.toList == hdrL s.size v n) = false := fun h => by simpa using beq_bytes_false h
  refine this fun e => ?_
  have b1 : be (s.data.toList.take 8) = v := by
   rcases valP_be (s.data.toList.take 8) 0 with h | ⟨h, _⟩ <;> rw [c1.out] at h
   ·
    exact (Int.ofNat_inj.1 h).symm
   ·
    omega
  have b2 : be ((s.data.toList.drop 8).take 8) = n := by
   rcases valP_be ((s.data.toList.drop 8).take 8) 0 with h | ⟨h, _⟩ <;> rw [c2.out] at h
   ·
    exact (Int.ofNat_inj.1 h).symm
   ·
    omega
  have := hH.out
  unfold hdrP at this
  rw [if_pos ⟨by omega, by omega, by omega, by omega, by omega, by rw [b1, b2, hl]; exact (congrArg (fun s : ByteArray => s.data.toList) e).trans (bs_list _)⟩] at this
  cases this
 clear hl
 go_enter Tryz.func56, Tryz.ntmps56
 go_wp2_with fail
 go_quiet ((first | (go_at_call 87; with_reducible exact Calls.quiet_of_same (v1 _)) | (go_at_call 87; with_reducible exact Calls.quiet_of_same (v2 _))))
 go_wp2_with fail
 refine (pl_header s.size v n _ hs (by omega)).mono ?_
 rintro e w1 ⟨rfl, hb1⟩
 go_wp2
 go_ret3
 exact ⟨rfl, Below.then (Below.drewN (Below.refl _ _) nq) hb1 (Nat.le_refl _)⟩
/-- what pagelog.read returns -/
def rdX (l : List UInt8) (k : Nat) (area : Int) : Int × Int × Bool := match hdrP l k area with
 | some p => (p.1, p.2, true)
 | none => (valP (l.take 8) 0, valP ((l.drop 8).take 8) 0, false)
theorem pl_readX (s : ByteArray) (k : Nat) (area : Int) (w : World) (hs : 24 ≤ s.size) (hs2 : s.size ≤ 512) (ha : area ≤ 1099511627776) {x y : Int} {b : Bool} (h : rdX s.data.toList k area = (x, y, b)) :
  Calls Tryz.prog 56 #[.string s, .int .i64 k, .int .i64 area] w fun e w' => e = .returned (.tuple #[.int .i64 x, .int .i64 y, .bool b]) ∧ Below w.heap.size w w' := by
 unfold rdX at h
 cases hh : hdrP s.data.toList k area with
 | none =>
  rw [hh] at h
  injection h with h1 h2
  injection h2 with h2 h3
  subst h1 h2 h3
  exact pl_read_noneX s k area w hs hs2 ha hh
 | some p =>
  rw [hh] at h
  injection h with h1 h2
  injection h2 with h2 h3
  subst h1 h2 h3
  exact pl_read_some s k area p.1 p.2 w hs hs2 hh
end Go.Proofs.YtghikgjknhjjgaaGreatDoor
namespace Go.Proofs.YtghikgjknhjjgaaGreatDoor
set_option maxRecDepth 100000
open Go.RowKit
end Go.Proofs.YtghikgjknhjjgaaGreatDoor
namespace Go.Proofs.YtghikgjknhjjgaaGreatDoor
open Go.RowKit
end Go.Proofs.YtghikgjknhjjgaaGreatDoor
namespace Go.Proofs.YtghikgjknhjjgaaGreatDoor
open Go.RowKit
end Go.Proofs.YtghikgjknhjjgaaGreatDoor
namespace Go.Proofs.YtghikgjknhjjgaaGreatDoor
open Go.RowKit
end Go.Proofs.YtghikgjknhjjgaaGreatDoor
namespace Go.Proofs.YtghikgjknhjjgaaGreatDoor
open Go.RowKit
section
variable {P : Program} {ops : Array Oper} {rest : List Oper} {o : Oper} {a : Act} {Q : Exit → Act → World → Prop} {w : World}
end
end Go.Proofs.YtghikgjknhjjgaaGreatDoor
namespace Go.Proofs.YtghikgjknhjjgaaGreatDoor
open Go.RowKit
structure S8 where
 a : UInt32
 b : UInt32
 c : UInt32
 d : UInt32
 e : UInt32
 f : UInt32
 g : UInt32
 h : UInt32
def S8.of (l : List UInt32) : S8 := ⟨l.getD 0 0, l.getD 1 0, l.getD 2 0, l.getD 3 0, l.getD 4 0, l.getD 5 0, l.getD 6 0, l.getD 7 0⟩
def S8.list (s : S8) : List UInt32 := [s.a, s.b, s.c, s.d, s.e, s.f, s.g, s.h]
theorem S8.len (s : S8) : s.list.length = 8 := rfl
end Go.Proofs.YtghikgjknhjjgaaGreatDoor
namespace Go.Proofs.YtghikgjknhjjgaaGreatDoor
set_option maxRecDepth 100000
open Go.RowKit
end Go.Proofs.YtghikgjknhjjgaaGreatDoor
namespace Go.Proofs.YtghikgjknhjjgaaGreatDoor
set_option maxRecDepth 100000
open Go.RowKit
/-- the zeros behind a message of n bytes and its first byte of the padding -/
def zN (n : Nat) : Nat := (120 - (n + 1) % 64) % 64
/-- a block of 64 bytes -/
def Blk : Type := { x : ByteArray // x.size = 64 }
def Blk.b (x : Blk) : ByteArray := x.1
end Go.Proofs.YtghikgjknhjjgaaGreatDoor
namespace Go.Proofs.YtghikgjknhjjgaaGreatDoor
open Go.RowKit Go.Shelf
attribute [local go_sem] Oper.semAt_some
theorem info_parts {P : Program} {t : TypeId} {z : Value} {n b : Nat} (h : (P.info? t).map (fun i => (i.zero, i.size, i.bytes)) = some (some z, n, b)) : ∃ i, P.info? t = some i ∧ i.zero = some z ∧ i.size = n ∧ i.bytes = b := by
 cases hi : P.info? t with
 | none => simp [hi] at h
 | some i => simp [hi] at h; exact ⟨i, rfl, h.1, h.2.1, h.2.2⟩
end Go.Proofs.YtghikgjknhjjgaaGreatDoor
namespace Go.Proofs.YtghikgjknhjjgaaGreatDoor
open Go.RowKit Go.Shelf
section
attribute [local go_sem] Oper.semAt_some
end
end Go.Proofs.YtghikgjknhjjgaaGreatDoor
namespace Go.Proofs.YtghikgjknhjjgaaGreatDoor
set_option maxRecDepth 100000
open Go.RowKit
/-- a string of bytes, kept closed -/
def sB (l : List UInt8) : ByteArray := ⟨l.toArray⟩
end Go.Proofs.YtghikgjknhjjgaaGreatDoor
namespace Go.Proofs.YtghikgjknhjjgaaGreatDoor
open Go.RowKit
end Go.Proofs.YtghikgjknhjjgaaGreatDoor
namespace Go.Proofs.YtghikgjknhjjgaaGreatDoor
open Go.RowKit
end Go.Proofs.YtghikgjknhjjgaaGreatDoor
namespace Go.Proofs.YtghikgjknhjjgaaGreatDoor
set_option maxRecDepth 100000
open Go.RowKit
end Go.Proofs.YtghikgjknhjjgaaGreatDoor
namespace Go.Proofs.YtghikgjknhjjgaaGreatDoor
set_option maxRecDepth 100000
open Go.RowKit
theorem flat_len {α : Type} {m : Nat} : ∀ {L : List (List α)}, (∀ x ∈ L, x.length = m) → L.flatten.length = L.length * m
 | [], _ => by simp
 | x :: L, h => by
  rw [List.flatten_cons, List.length_append, h x (by simp), flat_len (L := L) (fun y hy => h y (by simp [hy])), List.length_cons, Nat.add_mul]; omega
theorem flat_get {α : Type} {m : Nat} : ∀ {L : List (List α)}, (∀ x ∈ L, x.length = m) → ∀ (i r : Nat), r < m → L.flatten[i * m + r]? = L[i]?.bind (·[r]?)
 | [], _, i, r, _ => by simp
 | x :: L, h, 0, r, hr => by
  rw [List.flatten_cons, Nat.zero_mul, Nat.zero_add, List.getElem?_append_left (by rw [h x (by simp)]; exact hr)]; rfl
 | x :: L, h, i + 1, r, hr => by
  rw [List.flatten_cons, List.getElem?_append_right (by rw [h x (by simp), Nat.add_mul]; omega), h x (by simp), show (i + 1) * m + r - m = i * m + r by rw [Nat.add_mul]; omega, flat_get (L := L) (fun y hy => h y (by simp [hy])) i r hr]
  rfl
/-- a slice value over elements L, in blocks of S -/
def RowsR (S : Nat → Prop) (w : World) (v : Value) (L : List (List Value)) : Prop := ∃ o c, v = .slice o L.length c ∧ SlW o L.length c ∧ RowAt S w o L.flatten
theorem RowsR.below {S : Nat → Prop} {w w' : World} {v : Value} {L : List (List Value)} (h : RowsR S w v L) (hb : Below w.heap.size w w') : RowsR S w' v L := by
 obtain ⟨o, c, e, hs, hr⟩ := h
 exact ⟨o, c, e, hs, hr.below hb⟩
theorem RowsR.same {S : Nat → Prop} {w w' : World} {v : Value} {L : List (List Value)} (h : RowsR S w v L) (hb : Same S w w') : RowsR S w' v L := by
 obtain ⟨o, c, e, hs, hr⟩ := h
 exact ⟨o, c, e, hs, hr.same hb⟩
theorem RowsR.mono {S T : Nat → Prop} {w : World} {v : Value} {L : List (List Value)} (h : RowsR S w v L) (hT : ∀ b, S b → T b) : RowsR T w v L := by
 obtain ⟨o, c, e, hs, hr⟩ := h
 exact ⟨o, c, e, hs, hr.mono hT⟩
theorem RowsR.nil (S : Nat → Prop) (w : World) : RowsR S w (.slice none 0 0) [] := ⟨none, 0, rfl, .inl ⟨rfl, rfl, rfl⟩, RowAt.nil _ _ _⟩
theorem RowsR.owns {w : World} {base : Nat} {e : TypeId} {m : Nat} {v : Value} {L : List (List Value)} (h : w.ownsRow base e m v L.length L.flatten) : RowsR (fun b => base ≤ b ∧ b < w.heap.size) w v L := by
 obtain ⟨o, c, e', hs, hr, _⟩ := ownsRow_at h
 exact ⟨o, c, e', hs, hr⟩
end Go.Proofs.YtghikgjknhjjgaaGreatDoor
namespace Go.Proofs.YtghikgjknhjjgaaGreatDoor
set_option maxRecDepth 100000
open Go.RowKit
/-- a fence that lets every call pass -/
structure Lets (F : Fence) (P : Program) : Prop where
 fn : ∀ f, F.fn f
 depth : F.depth = none
 calls : ∀ {n : Nat} {f : FuncId} {args : Array Value} {w : World} {R : Ending → World → Prop}, Calls P f args w R → CallsIn F n P f args w R
theorem lets_round (P : Program) (l : Nat) : Lets (Fence.wide.inRound l) P := ⟨fun _ => trivial, rfl, fun h => CallsIn.inRound l (callsIn_wide.2 h)⟩
section
variable {F : Fence} {nF : Nat} {P : Program} {ops : Array Oper} {md : Region.Mode} {W0 : World} {an : Anns} {Q : Exit → Act → World → Prop}
theorem not_defer_value {ρ : Operand → Value} {o : Oper} {w w' : World} {v : Value} (h : (execOp ρ o).run P w = .ok (.value v) w') : ∀ c, o.op ≠ .defer c := by
 intro c hc
 unfold execOp at h
 rw [hc] at h
 simp only [Sem.run_bind] at h
 cases hr : (resolve ρ c o.type).run P w with
 | ok d w1 => rw [hr] at h; simp [Result.andThen] at h
 | halt x w1 => rw [hr] at h; simp [Result.andThen] at h
theorem not_defer_lz {o : Oper} {a : Act} {w : World} {Post : Value → World → Prop} (h : lzAt P o a w Post) : ∀ c, o.op ≠ .defer c := by
 intro c hc
 unfold lzAt execOp at h
 rw [hc] at h
 simp only [Sem.run_bind] at h
 cases hr : (resolve a.eval c o.type).run P w with
 | ok d w1 => rw [hr] at h; simp [Result.andThen] at h
 | halt x w1 => rw [hr] at h; simp [Result.andThen] at h
theorem wpIn_of_lz (hF : Lets F P) {o : Oper} {a : Act} {w : World} {Post : Value → World → Prop} {K : Act → World → Prop} (h : lzAt P o a w Post) (hK : ∀ v w', Post v w' → K (a.put o.dst v) w') : o.wpIn F nF P a w K Q := by
 have hnd := not_defer_lz h
 unfold Oper.wpIn
 refine ⟨fun f _ => hF.fn f, ?_⟩
 rw [Oper.semAt_plain F _ _ hnd]
 unfold lzAt at h
 generalize (execOp a.eval o).run P w = r at *
 cases r with
 | ok n w' =>
  cases n <;> simp only [Oper.uponIn] at h ⊢
  case value u => exact hK _ _ h
  case skip => exact hK _ _ h
  case enter f args => exact ⟨fun hd => by rw [hF.depth] at hd; simp at hd, hF.calls (h.mono fun e w'' ⟨v, he, hp⟩ => by subst he; exact hK _ _ hp)⟩
 | halt x w' => exact h.elim
theorem wpAnyIn_of_AO (hF : Lets F P) {n g : Nat} {L : Array Bool → Recs → Act → Prop} (hL : ∀ listed ξ a w, L listed ξ a → Good an W0 ξ w → wpAnyIn F nF P md ops Q g listed a w) :
  ∀ (f : Nat) (listed : Array Bool) (ξ : Recs) (a : Act) (w : World), AO P ops md an W0 n L f listed ξ a → Good an W0 ξ w → wpAnyIn F nF P md ops Q (f + g) listed a w
 | 0, listed, ξ, a, w, h, hg => by rw [Nat.zero_add]; exact hL _ _ _ _ h hg
 | f + 1, listed, ξ, a, w, h, hg => by
  rw [show f + 1 + g = (f + g) + 1 by omega]
  refine ⟨fun h0 => absurd h0 h.1, fun i hi => ?_⟩
  obtain ⟨_, oi, hoi, _⟩ := mem_ready.1 hi
  obtain ⟨S, hS, hK⟩ := (h.2 i hi).2 oi hoi
  unfold wpOpIn
  simp only [hoi]
  cases hS with
  | skip hw =>
   rw [if_neg (by rw [hw]; exact Bool.false_ne_true)]
   exact ⟨fun f _ => hF.fn f, wpAnyIn_of_AO hF hL f _ _ _ _ (hK none undef ⟨rfl, rfl⟩) hg⟩
  | quiet v hw hn hr =>
   rw [if_pos hw]
   have hrun := hr w ⟨⟨w, hg.below⟩, rfl⟩
   unfold Oper.wpIn
   refine ⟨fun f _ => hF.fn f, ?_⟩
   rw [Oper.semAt_plain F _ _ (not_defer_value hrun), hrun]
   exact wpAnyIn_of_AO hF hL f _ _ _ _ (hK none v ⟨rfl, rfl⟩) hg
  | lzy A hw hn hl =>
   rw [if_pos hw]
   refine wpIn_of_lz hF (hl w hg.below fun j _ => hg.fact j) ?_
   rintro v w' ⟨hb, x, rfl, hΦ⟩
   exact wpAnyIn_of_AO hF hL f _ _ _ _ (hK _ _ ⟨_, rfl, rfl⟩) (hg.add hb hn hΦ)
theorem wpIn_region_lz (hF : Lets F P) {id : Nat} {a : Act} {w : World} {l : List Oper} (n g : Nat) (done : Array Bool) (an : Anns) (hm : P.follows .mixedOrders = true) (hn : l.length = n + g) (hd : setTo (Array.replicate l.length false) n 0 = done) (hB : lazyB .any l.toArray n = true)
  (h : LW P l.toArray .any an w (fun ξ a' => ∀ w', Good an w ξ w' → wpAnyIn F nF P .any l.toArray Q g done a' w') (l.take n) 0 (fun _ => none) a) : (Code.region id l.toArray true).wpIn F nF P Q a w := by
 simp only [lazyB, Bool.and_eq_true] at hB
 obtain ⟨⟨hsel, hs⟩, hlex⟩ := hB
 have htl : (l.take n).length = n := by simp; omega
 have inv0 : Closed .any l.toArray n (Array.replicate l.toArray.size false) := ⟨by simp, fun j oj _ hl => (by rw [getD_replicate_false] at hl; cases hl)⟩
 have hdn := lazyHead_done _ _ _ hlex
 have H := AO_lex (md := .any) hsel hs _ hdn (l.take n) 0 _ _ a (fun j hj => by
  have hj' : j < n := by rw [htl] at hj; exact hj
  simp [hj']) (by simpa using htl) inv0 (by rw [htl]) (by rw [htl]; exact hlex) h
 refine wpIn_region_any hm ?_
 simp only [List.size_toArray] at H
 have := wpAnyIn_of_AO hF (nF := nF) (g := g) (Q := Q) (w := { w with drawn := w.drawn + 1 }) (fun listed ξ a' w' hL hg => ?_) _ _ _ _ H (Good.start an ((Below.refl _ w).drew))
 ·
  rw [htl] at this
  rw [← hn] at this
  rw [List.size_toArray]
  exact this
 ·
  rw [hL.1, hd]
  exact hL.2 w' hg
end
section
variable {P : Program} {o : Oper} {a : Act} {C : World → Prop} {K : Act → Prop}
end
end Go.Proofs.YtghikgjknhjjgaaGreatDoor
namespace Go.Proofs.YtghikgjknhjjgaaGreatDoor
open Go.RowKit
section
variable {P : Program} {ops : Array Oper} {rest : List Oper} {o : Oper} {a : Act} {Q : Exit → Act → World → Prop} {w : World}
end
end Go.Proofs.YtghikgjknhjjgaaGreatDoor
namespace Go.Proofs.YtghikgjknhjjgaaGreatDoor
open Go.RowKit
section
variable {P : Program} {ops : Array Oper} {rest : List Oper} {o : Oper} {a : Act} {Q : Exit → Act → World → Prop} {w : World}
end
end Go.Proofs.YtghikgjknhjjgaaGreatDoor
