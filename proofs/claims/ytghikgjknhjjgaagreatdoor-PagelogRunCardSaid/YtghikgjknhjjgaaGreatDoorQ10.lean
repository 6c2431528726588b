/- quiltref01's reader: read; Read. quiltref01.Read. quiltref41.header: the header of a page. -/
import Derived.Test.YtghikgjknhjjgaaGreatDoorQ09
import Derived.Test.YtghikgjknhjjgaaGreatDoorQ07
namespace Go.Proofs.YtghikgjknhjjgaaGreatDoor
set_option maxRecDepth 100000
open Go.RowKit
abbrev sxC (isl : Bool) (a : ByteArray) (o : Option Addr) (m c : Nat) : Array Value := #[.bool isl, .string a, .slice o m c]
abbrev zSx : Array Value := #[.bool false, .string ⟨#[]⟩, .slice none 0 0]
abbrev zRd : Array Value := #[.string ⟨#[]⟩, .int .i64 0, .int .i64 0, .int .i64 0]
/-- how reading a node ends in an error -/
def BadR (s : ByteArray) (d : Nat) (left : Int) (w : World) (e : Ending) (w' : World) : Prop :=
 ∃ (isl : Bool) (a : ByteArray) (o : Option Addr) (m c : Nat) (k' : Nat) (left' er : Int), e = .returned (.tuple #[.agg (sxC isl a o m c), rdV s k' left' er]) ∧ er ≠ 0 ∧ k' ≤ s.size + d + 1 ∧ 0 ≤ left' ∧ left' ≤ left ∧ Below w.heap.size w w'
def NodeR (s : ByteArray) (k d : Nat) (left : Int) (w : World) : Option (List UInt8 × Nat) → Ending → World → Prop
 | some (a, n), e, w' => e = .returned (.tuple #[.agg (sxC false (bs a) none 0 0), rdV s ((k + n : Nat) : Int) (left - 1) 0]) ∧ Below w.heap.size w w'
 | none, e, w' => BadR s d left w e w'
theorem Bx.set3 {w : World} {b : Nat} {u0 u1 u2 v0 v1 v2 : Value} {t : TypeId} (h : Bx w b #[u0, u1, u2] t) : Bx (((w.setCell ⟨b, 0, none⟩ v0).setCell ⟨b, 1, none⟩ v1).setCell ⟨b, 2, none⟩ v2) b #[v0, v1, v2] t := by
 simpa using ((h.set 0 v0).set 1 v1).set 2 v2
theorem Bx.setO3 {w : World} {b b' : Nat} {cs : Array Value} {v0 v1 v2 : Value} {t : TypeId} (h : Bx w b cs t) (hne : b ≠ b') : Bx (((w.setCell ⟨b', 0, none⟩ v0).setCell ⟨b', 1, none⟩ v1).setCell ⟨b', 2, none⟩ v2) b cs t :=
 ((h.setO (a := ⟨b', 0, none⟩) hne _).setO (a := ⟨b', 1, none⟩) hne _).setO (a := ⟨b', 2, none⟩) hne _
theorem below_set3 {B : Nat} {w w' : World} {b : Nat} {v0 v1 v2 : Value} (h : Below B w w') (hb : B ≤ b) : Below B w (((w'.setCell ⟨b, 0, none⟩ v0).setCell ⟨b, 1, none⟩ v1).setCell ⟨b, 2, none⟩ v2) :=
 ((h.setCell (p := ⟨b, 0, none⟩) hb _).setCell (p := ⟨b, 1, none⟩) hb _).setCell (p := ⟨b, 2, none⟩) hb _
set_option maxHeartbeats 8000000 in
theorem rf_read_atom (w : World) (s : ByteArray) (k d : Nat) (left : Int) (hk : k < s.size) (hs : s.size ≤ 1000000000) (hd : 1 ≤ d) (hd2 : d ≤ 12) (hl : 0 < left) (hl2 : left ≤ 20000) (hc : s[k] ≠ 40) :
  Calls Tryz.prog 109 #[rdV s k left 0, .int .i64 d] w (NodeR s k d left w (atomP (s.data.toList.drop k))) := by
 obtain ⟨R, hR⟩ : ∃ R, atomP (s.data.toList.drop k) = R := ⟨_, rfl⟩
 have HR := Lib.hid hR
 rw [hR]
 clear hR
 have Y0 := ((Bx.new w (rdC s k (left - 1) 0) 156).alloc (.cells zSx 123)).alloc (.cells zRd 156)
 have Y1 := (Bx.newAt (w.alloc (.cells (rdC s k (left - 1) 0) 156)) zSx 123 (w.heap.size + 1) (by simp)).alloc (.cells zRd 156)
 have Y2 := Bx.newAt ((w.alloc (.cells (rdC s k (left - 1) 0) 156)).alloc (.cells zSx 123)) zRd 156 (w.heap.size + 1 + 1) (by simp)
 have HB1 := ((Below.one w (.cells (rdC s k (left - 1) 0) 156)).alloc (by simp) (.cells zSx 123)).alloc (by simp; omega) (.cells zRd 156)
 have hc' : ((s[k].toNat : Int) != 40) = true := by
  rw [bne_iff_ne]
  intro e
  exact hc (UInt8.toNat_inj.1 (by show s[k].toNat = 40; omega))
 obtain ⟨ch, hch⟩ : ∃ ch : UInt8, s[k] = ch := ⟨_, rfl⟩
 rw [hch] at hc'
 have hki : (k : Int) < (s.size : Int) := by omega
 have hkn : ¬ ((k : Int) = (s.size : Int)) := by omega
 have hd0 : ((d : Int) == 0) = false := by rw [beq_eq_false_iff_ne]; omega
 have hl0 : (left == 0) = false := by rw [beq_eq_false_iff_ne]; omega
 unfold rdV
 obtain ⟨N, hN⟩ : ∃ N, w.heap.size = N := ⟨_, rfl⟩
 rw [hN] at Y0 Y1 Y2 HB1
 go_enter Tryz.func109, Tryz.ntmps109
 go_wp2_with fail
 have hA := rf_atom (((w.alloc (.cells (rdC s k (left - 1) 0) 156)).alloc (.cells zSx 123)).alloc (.cells zRd 156)) s k (left - 1) (by omega) hs
 rw [HR.out] at hA
 unfold rdV at hA
 generalize ((w.alloc (.cells (rdC s k (left - 1) 0) 156)).alloc (.cells zSx 123)).alloc (.cells zRd 156) = W1 at *
 cases R with
 | none =>
  refine hA.mono ?_
  rintro e w2 ⟨S, p, ER, rfl, her, hp, hb1⟩
  obtain ⟨P, hP⟩ : ∃ P : Int, (p : Int) = P := ⟨_, rfl⟩
  unfold rdV
  rw [hP]
  have Z1 := Y1.belowAll hb1
  have Z2 := Y2.belowAll hb1
  have HB2 : Below N w w2 := HB1.trans (hb1.mono (by have := Y2.lt; omega))
  have hz2 : N + 1 + 1 < w2.heap.size := Z2.lt
  clear Y0 Y1 Y2 HB1 hb1
  go_wp2_with fail
  have V1 := Z1.alloc (.cells (rdC s P (left - 1) ER) 156)
  have V2 := Z2.alloc (.cells (rdC s P (left - 1) ER) 156)
  have V3 := Bx.new w2 (rdC s P (left - 1) ER) 156
  have HB3 := HB2.alloc (by omega) (.cells (rdC s P (left - 1) ER) 156)
  clear Z1 Z2 HB2
  generalize w2.alloc (.cells (rdC s P (left - 1) ER) 156) = w3 at *
  obtain ⟨M, hM⟩ : ∃ M, w2.heap.size = M := ⟨_, rfl⟩
  rw [hM] at V3 hz2 ⊢
  have c1 := V1.cell
  have f1 := V1.free
  have l1 := V1.lt
  have c2 := V2.cell
  have f2 := V2.free
  have l2 := V2.lt
  have c3 := V3.cell
  go_region
  have U1 := ((Bx.set3 V1 (v0 := .bool false) (v1 := .string S) (v2 := .slice none 0 0)).setO4 (b' := N + 1 + 1) (by simp) (v0 := .string s) (v1 := .int .i64 P) (v2 := .int .i64 (left - 1)) (v3 := .int .i64 ER)).drew
  have U2 := ((Bx.setO3 V2 (b' := N + 1) (by simp) (v0 := .bool false) (v1 := .string S) (v2 := .slice none 0 0)).set4 (v0 := .string s) (v1 := .int .i64 P) (v2 := .int .i64 (left - 1)) (v3 := .int .i64 ER)).drew
  have HB4 := (below_set4 (b := N + 1 + 1) (below_set3 (b := N + 1) HB3 (by omega) (v0 := .bool false) (v1 := .string S) (v2 := .slice none 0 0)) (by omega) (v0 := .string s) (v1 := .int .i64 P) (v2 := .int .i64 (left - 1)) (v3 := .int .i64 ER)).drew
  generalize World.drew _ = w4 at *
  clear c1 f1 l1 c2 f2 l2 c3 V1 V2 V3 HB3
  have u1 := U1.cell
  have u2 := U2.cell
  go_wp2
  refine bodyPost_ret (v := .tuple #[.agg (sxC false S none 0 0), .agg (rdC s P (left - 1) ER)]) (by simp [results, Tryz.results109, go_sem, u1, u2]) rfl ⟨false, S, none, 0, 0, p, left - 1, ER, ?_, her, by omega, by omega, by omega, by rw [hN]; exact HB4⟩
  rw [hP]; rfl
 | some q =>
  obtain ⟨a, n⟩ := q
  refine hA.mono ?_
  rintro e w2 ⟨rfl, hb1⟩
  obtain ⟨P, hP⟩ : ∃ P : Int, ((k + n : Nat) : Int) = P := ⟨_, rfl⟩
  obtain ⟨ER, hER⟩ : ∃ ER : Int, 0 = ER := ⟨_, rfl⟩
  obtain ⟨S, hS⟩ : ∃ S, bs a = S := ⟨_, rfl⟩
  unfold rdV
  rw [hP, hS, hER]
  have Z1 := Y1.belowAll hb1
  have Z2 := Y2.belowAll hb1
  have HB2 : Below N w w2 := HB1.trans (hb1.mono (by have := Y2.lt; omega))
  have hz2 : N + 1 + 1 < w2.heap.size := Z2.lt
  clear Y0 Y1 Y2 HB1 hb1
  go_wp2_with fail
  have V1 := Z1.alloc (.cells (rdC s P (left - 1) ER) 156)
  have V2 := Z2.alloc (.cells (rdC s P (left - 1) ER) 156)
  have V3 := Bx.new w2 (rdC s P (left - 1) ER) 156
  have HB3 := HB2.alloc (by omega) (.cells (rdC s P (left - 1) ER) 156)
  clear Z1 Z2 HB2
  generalize w2.alloc (.cells (rdC s P (left - 1) ER) 156) = w3 at *
  obtain ⟨M, hM⟩ : ∃ M, w2.heap.size = M := ⟨_, rfl⟩
  rw [hM] at V3 hz2 ⊢
  have c1 := V1.cell
  have f1 := V1.free
  have l1 := V1.lt
  have c2 := V2.cell
  have f2 := V2.free
  have l2 := V2.lt
  have c3 := V3.cell
  go_region
  have U1 := ((Bx.set3 V1 (v0 := .bool false) (v1 := .string S) (v2 := .slice none 0 0)).setO4 (b' := N + 1 + 1) (by simp) (v0 := .string s) (v1 := .int .i64 P) (v2 := .int .i64 (left - 1)) (v3 := .int .i64 ER)).drew
  have U2 := ((Bx.setO3 V2 (b' := N + 1) (by simp) (v0 := .bool false) (v1 := .string S) (v2 := .slice none 0 0)).set4 (v0 := .string s) (v1 := .int .i64 P) (v2 := .int .i64 (left - 1)) (v3 := .int .i64 ER)).drew
  have HB4 := (below_set4 (b := N + 1 + 1) (below_set3 (b := N + 1) HB3 (by omega) (v0 := .bool false) (v1 := .string S) (v2 := .slice none 0 0)) (by omega) (v0 := .string s) (v1 := .int .i64 P) (v2 := .int .i64 (left - 1)) (v3 := .int .i64 ER)).drew
  generalize World.drew _ = w4 at *
  clear c1 f1 l1 c2 f2 l2 c3 V1 V2 V3 HB3
  have u1 := U1.cell
  have u2 := U2.cell
  go_wp2
  refine bodyPost_ret (v := .tuple #[.agg (sxC false S none 0 0), .agg (rdC s P (left - 1) ER)]) (by simp [results, Tryz.results109, go_sem, u1, u2]) rfl ⟨?_, by rw [hN]; exact HB4⟩
  rw [hP, hS, hER]; rfl
def GotR (s : ByteArray) (k : Nat) (left : Int) (w : World) (e : Ending) (w' : World) : Prop :=
 ∃ (isl : Bool) (a : ByteArray) (o : Option Addr) (m c : Nat) (k' : Nat) (left' : Int), e = .returned (.tuple #[.agg (sxC isl a o m c), rdV s k' left' 0]) ∧ k < k' ∧ k' ≤ s.size ∧ 0 ≤ left' ∧ left' ≤ left ∧ ((h : k < s.size) → s[k] = 40 → isl = true) ∧ Below w.heap.size w w'
def AnyR (s : ByteArray) (k d : Nat) (left : Int) (w : World) (e : Ending) (w' : World) : Prop := BadR s d left w e w' ∨ GotR s k left w e w'
def erW (w : World) (b : Nat) : Int := match w.cell? ⟨b, 3, none⟩ with | some v => intOf v | none => 0
def muR (w : World) (b n : Nat) : Nat := if erW w b = 0 then n - atW w b + 1 else 0
theorem muR_of {w : World} {b n k : Nat} {s : ByteArray} {left er : Int} (h : Bx w b (rdC s k left er) 156) : muR w b n = if er = 0 then n - k + 1 else 0 := by
 have h1 : w.cell? ⟨b, 1, none⟩ = some (.int .i64 k) := h.cell 1
 have h3 : w.cell? ⟨b, 3, none⟩ = some (.int .i64 er) := h.cell 3
 unfold muR erW atW
 rw [h1, h3]; rfl
set_option maxHeartbeats 8000000 in
/-- reading ends at once: at the end of the string, or where no node may come any more -/
theorem rf_read_stop (w : World) (s : ByteArray) (k d : Nat) (left : Int) (hk : k ≤ s.size) (_hs : s.size ≤ 1000000000) (hd : d ≤ 12) (hl : 0 ≤ left) (hl2 : left ≤ 20000) (hst : k = s.size ∨ d = 0 ∨ left = 0) :
  Calls Tryz.prog 109 #[rdV s k left 0, .int .i64 d] w (BadR s d left w) := by
 unfold rdV
 by_cases hks : k = s.size
 ·
  have hkn : ((k : Int) == (s.size : Int)) = true := by rw [beq_iff_eq]; omega
  clear hks
  have Y1 := (Bx.newAt (w.alloc (.cells (rdC s k left 11) 156)) zSx 123 (w.heap.size + 1) (by simp)).alloc (.cells zRd 156)
  have Y0 := ((Bx.new w (rdC s k left 11) 156).alloc (.cells zSx 123)).alloc (.cells zRd 156)
  have Y2 := Bx.newAt ((w.alloc (.cells (rdC s k left 11) 156)).alloc (.cells zSx 123)) zRd 156 (w.heap.size + 1 + 1) (by simp)
  have HB1 := ((Below.one w (.cells (rdC s k left 11) 156)).alloc (by simp) (.cells zSx 123)).alloc (by simp; omega) (.cells zRd 156)
  obtain ⟨N, hN⟩ : ∃ N, w.heap.size = N := ⟨_, rfl⟩
  rw [hN] at Y0 Y1 Y2 HB1
  go_enter Tryz.func109, Tryz.ntmps109
  go_wp2_with fail
  generalize ((w.alloc (.cells (rdC s k left 11) 156)).alloc (.cells zSx 123)).alloc (.cells zRd 156) = w3 at *
  have c0 := Y0.cell
  have c1 := Y1.cell
  have f1 := Y1.free
  have l1 := Y1.lt
  have c2 := Y2.cell
  have f2 := Y2.free
  have l2 := Y2.lt
  go_region
  have U1 := ((Bx.set3 Y1 (v0 := .bool false) (v1 := .string ⟨#[]⟩) (v2 := .slice none 0 0)).setO4 (b' := N + 1 + 1) (by simp) (v0 := .string s) (v1 := .int .i64 (k : Int)) (v2 := .int .i64 left) (v3 := .int .i64 11)).drew
  have U2 := ((Bx.setO3 Y2 (b' := N + 1) (by simp) (v0 := .bool false) (v1 := .string ⟨#[]⟩) (v2 := .slice none 0 0)).set4 (v0 := .string s) (v1 := .int .i64 (k : Int)) (v2 := .int .i64 left) (v3 := .int .i64 11)).drew
  have HB4 := (below_set4 (b := N + 1 + 1) (below_set3 (b := N + 1) HB1 (by omega) (v0 := .bool false) (v1 := .string ⟨#[]⟩) (v2 := .slice none 0 0)) (by omega) (v0 := .string s) (v1 := .int .i64 (k : Int)) (v2 := .int .i64 left) (v3 := .int .i64 11)).drew
  generalize World.drew _ = w4 at *
  clear c0 c1 f1 l1 c2 f2 l2 Y0 Y1 Y2 HB1
  have u1 := U1.cell
  have u2 := U2.cell
  go_wp2
  refine bodyPost_ret (v := .tuple #[.agg zSx, .agg (rdC s k left 11)]) (by simp [results, Tryz.results109, go_sem, u1, u2]) rfl ⟨false, ⟨#[]⟩, none, 0, 0, k, left, 11, rfl, by decide, by omega, by omega, by omega, by rw [hN]; exact HB4⟩
 ·
  have hkn : ((k : Int) == (s.size : Int)) = false := by rw [beq_eq_false_iff_ne]; omega
  by_cases hd0 : d = 0
  ·
   have hd0' : ((d : Int) == 0) = true := by rw [hd0]; rfl
   clear hd0 hst hks
   have Y1 := (Bx.newAt (w.alloc (.cells (rdC s k left 12) 156)) zSx 123 (w.heap.size + 1) (by simp)).alloc (.cells zRd 156)
   have Y0 := ((Bx.new w (rdC s k left 12) 156).alloc (.cells zSx 123)).alloc (.cells zRd 156)
   have Y2 := Bx.newAt ((w.alloc (.cells (rdC s k left 12) 156)).alloc (.cells zSx 123)) zRd 156 (w.heap.size + 1 + 1) (by simp)
   have HB1 := ((Below.one w (.cells (rdC s k left 12) 156)).alloc (by simp) (.cells zSx 123)).alloc (by simp; omega) (.cells zRd 156)
   obtain ⟨N, hN⟩ : ∃ N, w.heap.size = N := ⟨_, rfl⟩
   rw [hN] at Y0 Y1 Y2 HB1
   go_enter Tryz.func109, Tryz.ntmps109
   go_wp2_with fail
   generalize ((w.alloc (.cells (rdC s k left 12) 156)).alloc (.cells zSx 123)).alloc (.cells zRd 156) = w3 at *
   have c0 := Y0.cell
   have c1 := Y1.cell
   have f1 := Y1.free
   have l1 := Y1.lt
   have c2 := Y2.cell
   have f2 := Y2.free
   have l2 := Y2.lt
   go_region
   have U1 := ((Bx.set3 Y1 (v0 := .bool false) (v1 := .string ⟨#[]⟩) (v2 := .slice none 0 0)).setO4 (b' := N + 1 + 1) (by simp) (v0 := .string s) (v1 := .int .i64 (k : Int)) (v2 := .int .i64 left) (v3 := .int .i64 12)).drew
   have U2 := ((Bx.setO3 Y2 (b' := N + 1) (by simp) (v0 := .bool false) (v1 := .string ⟨#[]⟩) (v2 := .slice none 0 0)).set4 (v0 := .string s) (v1 := .int .i64 (k : Int)) (v2 := .int .i64 left) (v3 := .int .i64 12)).drew
   have HB4 := (below_set4 (b := N + 1 + 1) (below_set3 (b := N + 1) HB1 (by omega) (v0 := .bool false) (v1 := .string ⟨#[]⟩) (v2 := .slice none 0 0)) (by omega) (v0 := .string s) (v1 := .int .i64 (k : Int)) (v2 := .int .i64 left) (v3 := .int .i64 12)).drew
   generalize World.drew _ = w4 at *
   clear c0 c1 f1 l1 c2 f2 l2 Y0 Y1 Y2 HB1
   have u1 := U1.cell
   have u2 := U2.cell
   go_wp2
   refine bodyPost_ret (v := .tuple #[.agg zSx, .agg (rdC s k left 12)]) (by simp [results, Tryz.results109, go_sem, u1, u2]) rfl ⟨false, ⟨#[]⟩, none, 0, 0, k, left, 12, rfl, by decide, by omega, by omega, by omega, by rw [hN]; exact HB4⟩
  ·
   have hd0' : ((d : Int) == 0) = false := by rw [beq_eq_false_iff_ne]; omega
   have hl0 : (left == 0) = true := by rw [beq_iff_eq]; omega
   clear hd0 hst hks
   have Y1 := (Bx.newAt (w.alloc (.cells (rdC s k left 12) 156)) zSx 123 (w.heap.size + 1) (by simp)).alloc (.cells zRd 156)
   have Y0 := ((Bx.new w (rdC s k left 12) 156).alloc (.cells zSx 123)).alloc (.cells zRd 156)
   have Y2 := Bx.newAt ((w.alloc (.cells (rdC s k left 12) 156)).alloc (.cells zSx 123)) zRd 156 (w.heap.size + 1 + 1) (by simp)
   have HB1 := ((Below.one w (.cells (rdC s k left 12) 156)).alloc (by simp) (.cells zSx 123)).alloc (by simp; omega) (.cells zRd 156)
   obtain ⟨N, hN⟩ : ∃ N, w.heap.size = N := ⟨_, rfl⟩
   rw [hN] at Y0 Y1 Y2 HB1
   go_enter Tryz.func109, Tryz.ntmps109
   go_wp2_with fail
   generalize ((w.alloc (.cells (rdC s k left 12) 156)).alloc (.cells zSx 123)).alloc (.cells zRd 156) = w3 at *
   have c0 := Y0.cell
   have c1 := Y1.cell
   have f1 := Y1.free
   have l1 := Y1.lt
   have c2 := Y2.cell
   have f2 := Y2.free
   have l2 := Y2.lt
   go_region
   have U1 := ((Bx.set3 Y1 (v0 := .bool false) (v1 := .string ⟨#[]⟩) (v2 := .slice none 0 0)).setO4 (b' := N + 1 + 1) (by simp) (v0 := .string s) (v1 := .int .i64 (k : Int)) (v2 := .int .i64 left) (v3 := .int .i64 12)).drew
   have U2 := ((Bx.setO3 Y2 (b' := N + 1) (by simp) (v0 := .bool false) (v1 := .string ⟨#[]⟩) (v2 := .slice none 0 0)).set4 (v0 := .string s) (v1 := .int .i64 (k : Int)) (v2 := .int .i64 left) (v3 := .int .i64 12)).drew
   have HB4 := (below_set4 (b := N + 1 + 1) (below_set3 (b := N + 1) HB1 (by omega) (v0 := .bool false) (v1 := .string ⟨#[]⟩) (v2 := .slice none 0 0)) (by omega) (v0 := .string s) (v1 := .int .i64 (k : Int)) (v2 := .int .i64 left) (v3 := .int .i64 12)).drew
   generalize World.drew _ = w4 at *
   clear c0 c1 f1 l1 c2 f2 l2 Y0 Y1 Y2 HB1
   have u1 := U1.cell
   have u2 := U2.cell
   go_wp2
   refine bodyPost_ret (v := .tuple #[.agg zSx, .agg (rdC s k left 12)]) (by simp [results, Tryz.results109, go_sem, u1, u2]) rfl ⟨false, ⟨#[]⟩, none, 0, 0, k, left, 12, rfl, by decide, by omega, by omega, by omega, by rw [hN]; exact HB4⟩
set_option maxHeartbeats 16000000 in
theorem rf_read_any : ∀ (d : Nat) (w : World) (s : ByteArray) (k : Nat) (left : Int), d ≤ 12 → k ≤ s.size → s.size ≤ 1000000000 → 0 ≤ left → left ≤ 20000 →
  Calls Tryz.prog 109 #[rdV s k left 0, .int .i64 d] w (AnyR s k d left w) := by
 intro d
 induction d with
 | zero =>
  intro w s k left hd hk hs hl hl2
  exact (rf_read_stop w s k 0 left hk hs hd hl hl2 (.inr (.inl rfl))).mono fun _ _ h => .inl h
 | succ d ih =>
  intro w s k left hd hk hs hl hl2
  by_cases hks : k < s.size
  ·
   by_cases hl0 : left = 0
   ·
    exact (rf_read_stop w s k (d + 1) left hk hs hd hl hl2 (.inr (.inr hl0))).mono fun _ _ h => .inl h
   ·
    by_cases hc : s[k] = 40
    ·
     have hki : (k : Int) < (s.size : Int) := by omega
     have hkn : ((k : Int) == (s.size : Int)) = false := by rw [beq_eq_false_iff_ne]; omega
     have hd0 : (((d + 1 : Nat) : Int) == 0) = false := by rw [beq_eq_false_iff_ne]; omega
     have hl0' : (left == 0) = false := by rw [beq_eq_false_iff_ne]; exact hl0
     obtain ⟨dd, hdd⟩ : ∃ dd : Int, ((d + 1 : Nat) : Int) = dd := ⟨_, rfl⟩
     have hdm : dd - 1 = (d : Int) := by omega
     have hdd1 : 1 ≤ dd := by omega
     have hdd2 : dd ≤ 12 := by omega
     rw [hdd] at hd0 ⊢
     clear hdd
     have Y0 := (((Bx.new w (rdC s ((k : Int) + 1) (left - 1) 0) 156).alloc (.cells zSx 123)).alloc (.cells zRd 156)).alloc (.cells (sxC true ⟨#[]⟩ none 0 0) 123)
     have Y1 := ((Bx.newAt (w.alloc (.cells (rdC s ((k : Int) + 1) (left - 1) 0) 156)) zSx 123 (w.heap.size + 1) (by simp)).alloc (.cells zRd 156)).alloc (.cells (sxC true ⟨#[]⟩ none 0 0) 123)
     have Y2 := (Bx.newAt ((w.alloc (.cells (rdC s ((k : Int) + 1) (left - 1) 0) 156)).alloc (.cells zSx 123)) zRd 156 (w.heap.size + 1 + 1) (by simp)).alloc (.cells (sxC true ⟨#[]⟩ none 0 0) 123)
     have Y3 := Bx.newAt (((w.alloc (.cells (rdC s ((k : Int) + 1) (left - 1) 0) 156)).alloc (.cells zSx 123)).alloc (.cells zRd 156)) (sxC true ⟨#[]⟩ none 0 0) 123 (w.heap.size + 1 + 1 + 1) (by simp)
     have HB1 := (((Below.one w (.cells (rdC s ((k : Int) + 1) (left - 1) 0) 156)).alloc (by simp) (.cells zSx 123)).alloc (by simp; omega) (.cells zRd 156)).alloc (by simp; omega) (.cells (sxC true ⟨#[]⟩ none 0 0) 123)
     have hcx : s[k] = 40 := hc
     unfold rdV
     obtain ⟨N, hN⟩ : ∃ N, w.heap.size = N := ⟨_, rfl⟩
     rw [hN] at Y0 Y1 Y2 Y3 HB1
     have Hih := Lib.hid ih
     clear ih
     go_enter Tryz.func109, Tryz.ntmps109
     go_wp2_with fail
     generalize (((w.alloc (.cells (rdC s ((k : Int) + 1) (left - 1) 0) 156)).alloc (.cells zSx 123)).alloc (.cells zRd 156)).alloc (.cells (sxC true ⟨#[]⟩ none 0 0) 123) = W0 at *
     obtain ⟨i0, hi, iz0, iz1, iz2⟩ := info_parts infoSx
     have Hi := Lib.hid (And.intro hi (And.intro iz0 (And.intro iz1 iz2)))
     have hlp : 1 ≤ left := by omega
     clear hi iz0 iz1 iz2 hl0 hkn hki hcx hd0 hl0'
     go_loopw [54] (fun _ wr => ∃ (k1 : Nat) (l1 er : Int) (o : Option Addr) (m c : Nat) (xs : List Value), Bx wr N (rdC s k1 l1 er) 156 ∧ Bx wr (N + 1) zSx 123 ∧ Bx wr (N + 1 + 1) zRd 156 ∧ Bx wr (N + 1 + 1 + 1) (sxC true ⟨#[]⟩ o m c) 123 ∧
      Hid (wr.ownsRow (N + 1 + 1 + 1 + 1) 123 3 (.slice o m c) m xs ∧ ∀ x ∈ xs, x.oneCell' = true) ∧ Below N w wr ∧ 0 ≤ l1 ∧ l1 ≤ left ∧ m ≤ 1000000001 ∧ Hid ((er = 0 ∧ k < k1 ∧ k1 ≤ s.size ∧ m ≤ k1) ∨ (er ≠ 0 ∧ k1 ≤ s.size + d + 1))) (fun _ wr => muR wr N s.size)
     case atStart => exact ⟨k + 1, left - 1, 0, none, 0, 0, [], Y0, Y1, Y2, Y3, Lib.hid ⟨World.ownsRow_nil _ _ _ _, by simp⟩, HB1, by omega, by omega, by omega, Lib.hid (.inl ⟨rfl, by omega, by omega, by omega⟩)⟩
     case round =>
      clear Y0 Y1 Y2 Y3 HB1
      obtain ⟨k1, l1, er, o, m, c, xs, X0, X1, X2, X3, hown, HB, hl1, hl1', hm, hz⟩ := hrel
      rcases hz.out with ⟨he, hk1, hk1s, hmk⟩ | ⟨he, hk1s⟩
      ·
       have he' : (er == 0) = true := by rw [he]; rfl
       have He := Lib.hid he
       clear he
       by_cases hlt : k1 < s.size
       ·
        have hki : (k1 : Int) < (s.size : Int) := by omega
        have hkn : ((k1 : Int) == (s.size : Int)) = false := by rw [beq_eq_false_iff_ne]; omega
        obtain ⟨ch, hch⟩ : ∃ ch : UInt8, s[k1] = ch := ⟨_, rfl⟩
        by_cases hc1 : ch = 41
        ·
         have hcc : ((ch.toNat : Int) != 41) = false := by rw [hc1]; rfl
         clear hc1
         obtain ⟨P, hP⟩ : ∃ P : Nat, k1 + 1 = P := ⟨_, rfl⟩
         have hPi : (k1 : Int) + 1 = (P : Int) := by omega
         have c0 := X0.cell
         have f0 := X0.free
         have l0 := X0.lt
         have c3 := X3.cell
         have p1 := X1.cell
         have p1f := X1.free
         have p1l := X1.lt
         have p2 := X2.cell
         have p2f := X2.free
         have p2l := X2.lt
         go_wp2_with fail
         have V0 := X0.set 1 (.int .i64 (P : Int))
         have V1 := X1.setO (a := ⟨N, 1, none⟩) (by simp) (.int .i64 (P : Int))
         have V2 := X2.setO (a := ⟨N, 1, none⟩) (by simp; omega) (.int .i64 (P : Int))
         have V3 := X3.setO (a := ⟨N, 1, none⟩) (by simp; omega) (.int .i64 (P : Int))
         have HB1 := below_set1 (b := N) (k := 1) (v := .int .i64 (P : Int)) HB (Nat.le_refl _)
         simp only [rdC, List.setIfInBounds_toArray, List.set_cons_zero, List.set_cons_succ] at V0
         clear c0 f0 l0 c3 p1 p1f p1l p2 p2f p2l
         generalize wr.setCell ⟨N, 1, none⟩ (.int .i64 (P : Int)) = w5 at *
         have c0 := V0.cell
         have c3 := V3.cell
         have p1 := V1.cell
         have p1f := V1.free
         have p1l := V1.lt
         have p2 := V2.cell
         have p2f := V2.free
         have p2l := V2.lt
         go_region
         have U1 := ((Bx.set3 V1 (v0 := .bool true) (v1 := .string ⟨#[]⟩) (v2 := .slice o m c)).setO4 (b' := N + 1 + 1) (by simp) (v0 := .string s) (v1 := .int .i64 (P : Int)) (v2 := .int .i64 l1) (v3 := .int .i64 er)).drew
         have U2 := ((Bx.setO3 V2 (b' := N + 1) (by simp) (v0 := .bool true) (v1 := .string ⟨#[]⟩) (v2 := .slice o m c)).set4 (v0 := .string s) (v1 := .int .i64 (P : Int)) (v2 := .int .i64 l1) (v3 := .int .i64 er)).drew
         have HB4 := (below_set4 (b := N + 1 + 1) (below_set3 (b := N + 1) HB1 (by omega) (v0 := .bool true) (v1 := .string ⟨#[]⟩) (v2 := .slice o m c)) (by omega) (v0 := .string s) (v1 := .int .i64 (P : Int)) (v2 := .int .i64 l1) (v3 := .int .i64 er)).drew
         generalize World.drew _ = w6 at *
         clear c0 c3 p1 p1f p1l p2 p2f p2l V0 V1 V2 V3 HB1
         have u1 := U1.cell
         have u2 := U2.cell
         go_wp2
         refine bodyPost_ret (v := .tuple #[.agg (sxC true ⟨#[]⟩ o m c), .agg (rdC s (P : Int) l1 er)]) (by simp [results, Tryz.results109, go_sem, u1, u2]) rfl ?_
         clear u1 u2
         exact Or.inr ⟨true, ⟨#[]⟩, o, m, c, P, l1, by rw [He.out]; rfl, by omega, by omega, by omega, by omega, fun _ _ => rfl, by rw [hN]; exact HB4⟩
        ·
         have hcc : ((ch.toNat : Int) != 41) = true := by
          rw [bne_iff_ne]
          intro e
          exact hc1 (UInt8.toNat_inj.1 (by show ch.toNat = 41; omega))
         clear hc1
         have X0h := Lib.hid X0
         have hone := Lib.hid hown.out.2
         have ho1 := Lib.hid hown.out.1
         have c0 := X0.cell
         have l0 := X0.lt
         have hcall := Hih.out wr s k1 l1 (by omega) (by omega) hs (by omega) (by omega)
         have hcall : Calls Tryz.prog 109 #[.agg (rdC s k1 l1 er), .int .i64 d] wr (AnyR s k1 d l1 wr) := by rw [He.out]; exact hcall
         go_wp2_with fail
         refine hcall.mono ?_
         clear hcall c0 l0
         rintro e w2 (⟨isl, a2, o2, m2, c2, k2, l2, er2, rfl, her2, hk2, hl2a, hl2b, hb2⟩ | ⟨isl, a2, o2, m2, c2, k2, l2, rfl, hk2, hk2s, hl2a, hl2b, _, hb2⟩)
         ·
          have S0 := X0.belowAll hb2
          have S1 := X1.belowAll hb2
          have S2 := X2.belowAll hb2
          have S3 := X3.belowAll hb2
          have ho2 := ownsRow_belowAll ho1.out hb2
          have HBs : Below N w w2 := HB.trans (hb2.mono (by have := X3.lt; omega))
          have hz2 : N + 1 + 1 + 1 < w2.heap.size := S3.lt
          unfold rdV
          have c0 := S0.cell
          have f0 := S0.free
          have l0 := S0.lt
          have he2 : (er2 == 0) = false := by rw [beq_eq_false_iff_ne]; exact her2
          clear hb2 X0 X1 X2 X3 hown
          have T0 := ((Bx.set4 S0 (v0 := .string s) (v1 := .int .i64 (k2 : Int)) (v2 := .int .i64 l2) (v3 := .int .i64 er2)).alloc (.cells (sxC isl a2 o2 m2 c2) 123)).alloc (.cells (rdC s k2 l2 er2) 156)
          have T1 := ((Bx.setO4 S1 (b' := N) (by simp) (v0 := .string s) (v1 := .int .i64 (k2 : Int)) (v2 := .int .i64 l2) (v3 := .int .i64 er2)).alloc (.cells (sxC isl a2 o2 m2 c2) 123)).alloc (.cells (rdC s k2 l2 er2) 156)
          have T2 := ((Bx.setO4 S2 (b' := N) (by simp; omega) (v0 := .string s) (v1 := .int .i64 (k2 : Int)) (v2 := .int .i64 l2) (v3 := .int .i64 er2)).alloc (.cells (sxC isl a2 o2 m2 c2) 123)).alloc (.cells (rdC s k2 l2 er2) 156)
          have T3 := ((Bx.setO4 S3 (b' := N) (by simp; omega) (v0 := .string s) (v1 := .int .i64 (k2 : Int)) (v2 := .int .i64 l2) (v3 := .int .i64 er2)).alloc (.cells (sxC isl a2 o2 m2 c2) 123)).alloc (.cells (rdC s k2 l2 er2) 156)
          have TB := ((below_set4 (b := N) HBs (Nat.le_refl _) (v0 := .string s) (v1 := .int .i64 (k2 : Int)) (v2 := .int .i64 l2) (v3 := .int .i64 er2)).alloc (by simp; omega) (.cells (sxC isl a2 o2 m2 c2) 123)).alloc (by simp; omega) (.cells (rdC s k2 l2 er2) 156)
          have TO := ((ownsRow_set4 (v0 := .string s) (v1 := .int .i64 (k2 : Int)) (v2 := .int .i64 l2) (v3 := .int .i64 er2) ho2 (b := N) (fun e => by have := (ho2.lt _ e).1; omega)).alloc (.cells (sxC isl a2 o2 m2 c2) 123)).alloc (.cells (rdC s k2 l2 er2) 156)
          go_wp2
          go_roundw
          case rel => exact ⟨k2, l2, er2, o, m, c, xs, T0, T1, T2, T3, Lib.hid ⟨TO, hone.out⟩, TB, by omega, by omega, by omega, Lib.hid (.inr ⟨her2, by omega⟩)⟩
          case measure => rw [muR_of T0, muR_of X0h.out, if_neg her2, if_pos He.out]; omega
         ·
          have S0 := X0.belowAll hb2
          have S1 := X1.belowAll hb2
          have S2 := X2.belowAll hb2
          have S3 := X3.belowAll hb2
          have ho2 := ownsRow_belowAll ho1.out hb2
          have HBs : Below N w w2 := HB.trans (hb2.mono (by have := X3.lt; omega))
          have hz2 : N + 1 + 1 + 1 < w2.heap.size := S3.lt
          unfold rdV
          have c0 := S0.cell
          have f0 := S0.free
          have l0 := S0.lt
          have c3 := S3.cell
          have l3 := S3.lt
          have g3 : ((w2.alloc (.cells (sxC isl a2 o2 m2 c2) 123)).alloc (.cells (rdC s k2 l2 0) 156)).cell? ⟨N + 1 + 1 + 1, 2, none⟩ = some (.slice o m c) := ((S3.alloc _).alloc _).cell 2
          have SA := ((Bx.new w2 (sxC isl a2 o2 m2 c2) 123).alloc (.cells (rdC s k2 l2 0) 156)).alloc (.cells (sxC isl a2 o2 m2 c2) 123)
          have SB := (Bx.newAt (w2.alloc (.cells (sxC isl a2 o2 m2 c2) 123)) (rdC s k2 l2 0) 156 (w2.heap.size + 1) (by simp)).alloc (.cells (sxC isl a2 o2 m2 c2) 123)
          have SC := Bx.newAt ((w2.alloc (.cells (sxC isl a2 o2 m2 c2) 123)).alloc (.cells (rdC s k2 l2 0) 156)) (sxC isl a2 o2 m2 c2) 123 (w2.heap.size + 1 + 1) (by simp)
          have al : ∀ {b : Nat} {cs : Array Value} {t : TypeId}, Bx w2 b cs t → Bx (((w2.alloc (.cells (sxC isl a2 o2 m2 c2) 123)).alloc (.cells (rdC s k2 l2 0) 156)).alloc (.cells (sxC isl a2 o2 m2 c2) 123)) b cs t := fun h => ((h.alloc _).alloc _).alloc _
          have ho3 := Lib.hid (((ho2.alloc (.cells (sxC isl a2 o2 m2 c2) 123)).alloc (.cells (rdC s k2 l2 0) 156)).alloc (.cells (sxC isl a2 o2 m2 c2) 123))
          have HA := (((HBs.alloc (by omega) (.cells (sxC isl a2 o2 m2 c2) 123)).alloc (by simp; omega) (.cells (rdC s k2 l2 0) 156)).alloc (by simp; omega) (.cells (sxC isl a2 o2 m2 c2) 123))
          have A0 := Lib.hid (al S0)
          have A1 := Lib.hid (al S1)
          have A2 := Lib.hid (al S2)
          have A3 := Lib.hid (al S3)
          have SB := Lib.hid SB
          have SC := Lib.hid SC
          have HA := Lib.hid HA
          have hne : ∀ q, q ≤ N + 1 + 1 + 1 → some q ≠ (Value.slice o m c).ownBlock := fun q hq e => by have := (ho2.lt q e.symm).1; omega
          have hne2 : ∀ q, w2.heap.size ≤ q → some q ≠ (Value.slice o m c).ownBlock := fun q hq e => by have := (ho2.lt q e.symm).2; omega
          have hmb : m + 1 ≤ 1000000001 := by omega
          clear hb2 X0 X1 X2 X3 hown S0 S1 S2 S3 ho2 HBs al SA
          go_wp2_with (at_builtin; refine wpList_app rfl (.tmp 83) (.tmp 85) 121 rfl (N + 1 + 1 + 1 + 1) 123 i0 _ 3 48 Tryz.underlying121 Hi.out.1 Hi.out.2.1 Hi.out.2.2.1 Hi.out.2.2.2 rfl (by decide) (.slice o m c) m xs rfl ho3.out (some ⟨w2.heap.size + 1 + 1, 0, none⟩) 1 1 [.bool isl, .string a2, .slice o2 m2 c2] rfl (fun h => by cases h) rfl (RowAt.bx SC.out) (by simp [Value.oneCell']) (by unfold maxLen; omega) (by omega) (by simp; omega) ?_; intro v' w4 hown5 hg5; clear c0 f0 l0 c3 l3 g3; obtain ⟨o5, c5, rfl⟩ := ownsRow_slice' hown5; have G0 := A0.out.grown hg5 (hne N (by omega)); have G1 := Lib.hid (A1.out.grown hg5 (hne (N + 1) (by omega))); have G2 := Lib.hid (A2.out.grown hg5 (hne (N + 1 + 1) (by omega))); have G3 := A3.out.grown hg5 (hne (N + 1 + 1 + 1) (by omega)); have GB := SB.out.grown hg5 (hne2 (w2.heap.size + 1) (by omega)); have HG := Lib.hid (HA.out.grown hg5 (by simp; omega) (fun q e => Nat.le_of_not_lt fun h => hne q (by omega) e.symm)); have hown5 := Lib.hid hown5; clear hg5; have c0 := G0.cell; have f0 := G0.free; have l0 := G0.lt; have c3 := G3.cell; have f3 := G3.free; have l3 := G3.lt; have cB := GB.cell)
          have U0 := Bx.set4 (Bx.setO G0 (a := ⟨N + 1 + 1 + 1, 2, none⟩) (by simp; omega) (.slice o5 (m + 1) c5)) (v0 := .string s) (v1 := .int .i64 (k2 : Int)) (v2 := .int .i64 l2) (v3 := .int .i64 0)
          clear c0 f0 l0 c3 f3 l3 cB
          go_roundw
          case rel =>
           have U1 := Bx.setO4 (Bx.setO G1.out (a := ⟨N + 1 + 1 + 1, 2, none⟩) (by simp) (.slice o5 (m + 1) c5)) (b' := N) (by simp) (v0 := .string s) (v1 := .int .i64 (k2 : Int)) (v2 := .int .i64 l2) (v3 := .int .i64 0)
           have U2 := Bx.setO4 (Bx.setO G2.out (a := ⟨N + 1 + 1 + 1, 2, none⟩) (by simp) (.slice o5 (m + 1) c5)) (b' := N) (by simp; omega) (v0 := .string s) (v1 := .int .i64 (k2 : Int)) (v2 := .int .i64 l2) (v3 := .int .i64 0)
           have U3 := Bx.setO4 (Bx.set G3 2 (.slice o5 (m + 1) c5)) (b' := N) (by simp; omega) (v0 := .string s) (v1 := .int .i64 (k2 : Int)) (v2 := .int .i64 l2) (v3 := .int .i64 0)
           refine ⟨k2, l2, 0, o5, m + 1, c5, _, U0, U1, U2, U3, Lib.hid ⟨ownsRow_set4 (ownsRow_setB hown5.out (by omega) _) (fun e => by have := (hown5.out.lt _ e).1; omega), ?_⟩, below_set4 (b := N) (below_set1 (b := N + 1 + 1 + 1) HG.out (by omega)) (Nat.le_refl _), by omega, by omega, hmb, Lib.hid (.inl ⟨rfl, by omega, hk2s, by omega⟩)⟩
           intro x hx
           rcases List.mem_append.1 hx with hx | hx
           ·
            exact hone.out x hx
           ·
            simp at hx; rcases hx with rfl | rfl | rfl <;> rfl
          case measure => rw [muR_of U0, muR_of X0h.out, if_pos rfl, if_pos He.out]; omega
       ·
        obtain ⟨z, hz⟩ : ∃ z : Nat, s.size = z := ⟨_, rfl⟩
        have hkz : k1 = z := by omega
        have hkn : ((k1 : Int) == (s.size : Int)) = true := by rw [beq_iff_eq]; omega
        clear hkz hz
        have X0h := Lib.hid X0
        have hone := Lib.hid hown.out.2
        have ho1 := Lib.hid hown.out.1
        have c0 := X0.cell
        have l0 := X0.lt
        have hcall := Hih.out wr s k1 l1 (by omega) (by omega) hs (by omega) (by omega)
        have hcall : Calls Tryz.prog 109 #[.agg (rdC s k1 l1 er), .int .i64 d] wr (AnyR s k1 d l1 wr) := by rw [He.out]; exact hcall
        go_wp2_with fail
        refine hcall.mono ?_
        clear hcall c0 l0
        rintro e w2 (⟨isl, a2, o2, m2, c2, k2, l2, er2, rfl, her2, hk2, hl2a, hl2b, hb2⟩ | ⟨isl, a2, o2, m2, c2, k2, l2, rfl, hk2, hk2s, hl2a, hl2b, _, hb2⟩)
        ·
         have S0 := X0.belowAll hb2
         have S1 := X1.belowAll hb2
         have S2 := X2.belowAll hb2
         have S3 := X3.belowAll hb2
         have ho2 := ownsRow_belowAll ho1.out hb2
         have HBs : Below N w w2 := HB.trans (hb2.mono (by have := X3.lt; omega))
         have hz2 : N + 1 + 1 + 1 < w2.heap.size := S3.lt
         unfold rdV
         have c0 := S0.cell
         have f0 := S0.free
         have l0 := S0.lt
         have he2 : (er2 == 0) = false := by rw [beq_eq_false_iff_ne]; exact her2
         clear hb2 X0 X1 X2 X3 hown
         have T0 := ((Bx.set4 S0 (v0 := .string s) (v1 := .int .i64 (k2 : Int)) (v2 := .int .i64 l2) (v3 := .int .i64 11)).alloc (.cells (sxC isl a2 o2 m2 c2) 123)).alloc (.cells (rdC s k2 l2 11) 156)
         have T1 := ((Bx.setO4 S1 (b' := N) (by simp) (v0 := .string s) (v1 := .int .i64 (k2 : Int)) (v2 := .int .i64 l2) (v3 := .int .i64 11)).alloc (.cells (sxC isl a2 o2 m2 c2) 123)).alloc (.cells (rdC s k2 l2 11) 156)
         have T2 := ((Bx.setO4 S2 (b' := N) (by simp; omega) (v0 := .string s) (v1 := .int .i64 (k2 : Int)) (v2 := .int .i64 l2) (v3 := .int .i64 11)).alloc (.cells (sxC isl a2 o2 m2 c2) 123)).alloc (.cells (rdC s k2 l2 11) 156)
         have T3 := ((Bx.setO4 S3 (b' := N) (by simp; omega) (v0 := .string s) (v1 := .int .i64 (k2 : Int)) (v2 := .int .i64 l2) (v3 := .int .i64 11)).alloc (.cells (sxC isl a2 o2 m2 c2) 123)).alloc (.cells (rdC s k2 l2 11) 156)
         have TB := ((below_set4 (b := N) HBs (Nat.le_refl _) (v0 := .string s) (v1 := .int .i64 (k2 : Int)) (v2 := .int .i64 l2) (v3 := .int .i64 11)).alloc (by simp; omega) (.cells (sxC isl a2 o2 m2 c2) 123)).alloc (by simp; omega) (.cells (rdC s k2 l2 11) 156)
         have TO := ((ownsRow_set4 (v0 := .string s) (v1 := .int .i64 (k2 : Int)) (v2 := .int .i64 l2) (v3 := .int .i64 11) ho2 (b := N) (fun e => by have := (ho2.lt _ e).1; omega)).alloc (.cells (sxC isl a2 o2 m2 c2) 123)).alloc (.cells (rdC s k2 l2 11) 156)
         go_wp2
         go_roundw
         case rel => exact ⟨k2, l2, 11, o, m, c, xs, T0, T1, T2, T3, Lib.hid ⟨TO, hone.out⟩, TB, by omega, by omega, by omega, Lib.hid (.inr ⟨by decide, by omega⟩)⟩
         case measure => rw [muR_of T0, muR_of X0h.out, if_neg (by decide), if_pos He.out]; omega
        ·
         exact absurd hk2s (by omega)
      ·
       have he' : (er == 0) = false := by rw [beq_eq_false_iff_ne]; exact he
       obtain ⟨P, hP⟩ : ∃ P : Nat, k1 + 1 = P := ⟨_, rfl⟩
       have hPi : (k1 : Int) + 1 = (P : Int) := by omega
       have c0 := X0.cell
       have f0 := X0.free
       have l0 := X0.lt
       have c3 := X3.cell
       have p1 := X1.cell
       have p1f := X1.free
       have p1l := X1.lt
       have p2 := X2.cell
       have p2f := X2.free
       have p2l := X2.lt
       go_wp2_with fail
       have V0 := X0.set 1 (.int .i64 (P : Int))
       have V1 := X1.setO (a := ⟨N, 1, none⟩) (by simp) (.int .i64 (P : Int))
       have V2 := X2.setO (a := ⟨N, 1, none⟩) (by simp; omega) (.int .i64 (P : Int))
       have V3 := X3.setO (a := ⟨N, 1, none⟩) (by simp; omega) (.int .i64 (P : Int))
       have HB1 := below_set1 (b := N) (k := 1) (v := .int .i64 (P : Int)) HB (Nat.le_refl _)
       simp only [rdC, List.setIfInBounds_toArray, List.set_cons_zero, List.set_cons_succ] at V0
       clear c0 f0 l0 c3 p1 p1f p1l p2 p2f p2l
       generalize wr.setCell ⟨N, 1, none⟩ (.int .i64 (P : Int)) = w5 at *
       have c0 := V0.cell
       have c3 := V3.cell
       have p1 := V1.cell
       have p1f := V1.free
       have p1l := V1.lt
       have p2 := V2.cell
       have p2f := V2.free
       have p2l := V2.lt
       go_region
       have U1 := ((Bx.set3 V1 (v0 := .bool true) (v1 := .string ⟨#[]⟩) (v2 := .slice o m c)).setO4 (b' := N + 1 + 1) (by simp) (v0 := .string s) (v1 := .int .i64 (P : Int)) (v2 := .int .i64 l1) (v3 := .int .i64 er)).drew
       have U2 := ((Bx.setO3 V2 (b' := N + 1) (by simp) (v0 := .bool true) (v1 := .string ⟨#[]⟩) (v2 := .slice o m c)).set4 (v0 := .string s) (v1 := .int .i64 (P : Int)) (v2 := .int .i64 l1) (v3 := .int .i64 er)).drew
       have HB4 := (below_set4 (b := N + 1 + 1) (below_set3 (b := N + 1) HB1 (by omega) (v0 := .bool true) (v1 := .string ⟨#[]⟩) (v2 := .slice o m c)) (by omega) (v0 := .string s) (v1 := .int .i64 (P : Int)) (v2 := .int .i64 l1) (v3 := .int .i64 er)).drew
       generalize World.drew _ = w6 at *
       clear c0 c3 p1 p1f p1l p2 p2f p2l V0 V1 V2 V3 HB1
       have u1 := U1.cell
       have u2 := U2.cell
       go_wp2
       refine bodyPost_ret (v := .tuple #[.agg (sxC true ⟨#[]⟩ o m c), .agg (rdC s (P : Int) l1 er)]) (by simp [results, Tryz.results109, go_sem, u1, u2]) rfl ?_
       clear u1 u2
       exact Or.inl ⟨true, ⟨#[]⟩, o, m, c, P, l1, er, rfl, he, by omega, by omega, by omega, by rw [hN]; exact HB4⟩
    ·
     refine (rf_read_atom w s k (d + 1) left hks hs (by omega) hd (by omega) hl2 hc).mono ?_
     intro e w' hA
     cases ha : atomP (s.data.toList.drop k) with
     | none => rw [ha] at hA; exact .inl hA
     | some q =>
      obtain ⟨a, n⟩ := q
      rw [ha] at hA
      obtain ⟨a1, a2⟩ := atomP_bd ha
      rw [List.length_drop, len_size] at a2
      exact .inr ⟨false, bs a, none, 0, 0, k + n, left - 1, hA.1, by omega, by omega, by omega, by omega, fun _ h' => absurd h' hc, hA.2⟩
  ·
   exact (rf_read_stop w s k (d + 1) left hk hs hd hl hl2 (.inl (by omega))).mono fun _ _ h => .inl h
end Go.Proofs.YtghikgjknhjjgaaGreatDoor
namespace Go.Proofs.YtghikgjknhjjgaaGreatDoor
set_option maxRecDepth 100000
open Go.RowKit
theorem w_ge {w : World} {B b : Nat} {cs : Array Value} {t : TypeId} (h : Bx w b cs t) (hB : B ≤ b) : B ≤ w.heap.size := Nat.le_trans hB (Nat.le_of_lt h.lt)
set_option maxHeartbeats 4000000 in
theorem rf_Read_some (s : ByteArray) (a : List UInt8) (n : Nat) (w : World) (hs : s.size ≤ 1000000000) (h : recP s.data.toList = some (a, n)) :
  Calls Tryz.prog 97 #[.string s] w fun e w' => e = .returned (.tuple #[.agg #[.bool false, .string (bs a), .slice none 0 0], .int .i64 n, .int .i64 0]) ∧ Below w.heap.size w w' := by
 obtain ⟨h0, hc, ha⟩ := recP_some h
 have X0 := Bx.new w zSx 123
 have HB := Below.one w (.cells zSx 123)
 have hA := rf_read_atom (w.alloc (.cells zSx 123)) s 0 12 20000 h0 hs (by omega) (by omega) (by omega) (by omega) hc
 rw [ha] at hA
 unfold rdV at hA
 obtain ⟨S, hS⟩ : ∃ S, bs a = S := ⟨_, rfl⟩
 obtain ⟨N, hN⟩ : ∃ N, w.heap.size = N := ⟨_, rfl⟩
 rw [hN] at X0 HB
 go_enter Tryz.func97, Tryz.ntmps97
 go_wp2_with fail
 refine hA.mono ?_
 rintro e w1 ⟨rfl, hb1⟩
 unfold rdV
 obtain ⟨kk, hkk⟩ : ∃ kk : Int, ((0 + n : Nat) : Int) = kk := ⟨_, rfl⟩
 obtain ⟨ll, hll⟩ : ∃ ll : Int, (20000 - 1 : Int) = ll := ⟨_, rfl⟩
 rw [hS, hkk, hll]
 clear hA h ha
 have Y0 := X0.belowAll hb1
 have HB1 : Below N w w1 := HB.trans (hb1.mono (by simp; omega))
 have Z0 := (Y0.alloc (.cells (sxC false S none 0 0) 123)).alloc (.cells (rdC s kk ll 0) 156)
 have Z1 := (Bx.new w1 (sxC false S none 0 0) 123).alloc (.cells (rdC s kk ll 0) 156)
 have Z2 := Bx.newAt (w1.alloc (.cells (sxC false S none 0 0) 123)) (rdC s kk ll 0) 156 (w1.heap.size + 1) (by simp)
 have HB2 := (HB1.alloc (w_ge Y0 (Nat.le_refl _)) (.cells (sxC false S none 0 0) 123)).alloc (by have := Y0.lt; simp; omega) (.cells (rdC s kk ll 0) 156)
 have hlt := Y0.lt
 clear X0 HB Y0 HB1 hb1
 go_wp2_with fail
 generalize (w1.alloc (.cells (sxC false S none 0 0) 123)).alloc (.cells (rdC s kk ll 0) 156) = w2 at *
 have c0 := Z0.cell
 have f0 := Z0.free
 have l0 := Z0.lt
 have c1 := Z1.cell
 have c2 := Z2.cell
 go_region
 have U0 := (Bx.set3 Z0 (v0 := .bool false) (v1 := .string S) (v2 := .slice none 0 0)).drew
 have HB3 := (below_set3 (b := N) HB2 (Nat.le_refl _) (v0 := .bool false) (v1 := .string S) (v2 := .slice none 0 0)).drew
 generalize World.drew _ = w3 at *
 clear c0 f0 l0 c1 c2 Z0 Z1 Z2 HB2
 have u0 := U0.cell
 go_wp2
 refine bodyPost_ret (v := .tuple #[.agg (sxC false S none 0 0), .int .i64 kk, .int .i64 0]) (by simp [results, Tryz.results97, go_sem, u0]) rfl ⟨?_, by rw [hN]; exact HB3⟩
 rw [hS, ← hkk, Nat.zero_add]
set_option maxHeartbeats 4000000 in
theorem rf_Read_none (s : ByteArray) (w : World) (hs : s.size ≤ 1000000000) (h0 : 0 < s.size) (h : recP s.data.toList = none) :
  Calls Tryz.prog 97 #[.string s] w (ReadBad w) := by
 have X0 := Bx.new w zSx 123
 have HB := Below.one w (.cells zSx 123)
 have hA : Calls Tryz.prog 109 #[rdV s ((0 : Nat) : Int) 20000 0, .int .i64 ((12 : Nat) : Int)] (w.alloc (.cells zSx 123)) (fun e w' => ∃ (IL : Bool) (S : ByteArray) (SO : Option Addr) (SM SC : Nat) (KK : Nat) (LL EE : Int), e = .returned (.tuple #[.agg (sxC IL S SO SM SC), rdV s KK LL EE]) ∧ (EE ≠ 0 ∨ IL = true) ∧ Below (w.alloc (.cells zSx 123)).heap.size (w.alloc (.cells zSx 123)) w') := by
  by_cases hc : s[0] = 40
  ·
   refine (rf_read_any 12 _ s 0 20000 (by omega) (by omega) hs (by omega) (by omega)).mono ?_
   rintro e w' (⟨a, b, c, d, f, g, i, j, h1, h2, h3, h4, h5, h6⟩ | ⟨a, b, c, d, f, g, i, h1, h2, h3, h4, h5, h6, h7⟩)
   ·
    exact ⟨a, b, c, d, f, g, i, j, h1, .inl h2, h6⟩
   ·
    exact ⟨a, b, c, d, f, g, i, 0, h1, .inr (h6 h0 hc), h7⟩
  ·
   refine (rf_read_atom _ s 0 12 20000 h0 hs (by omega) (by omega) (by omega) (by omega) hc).mono ?_
   intro e w' hA
   have hn : atomP (s.data.toList.drop 0) = none := by
    rw [List.drop_zero]
    have hd := drop_cons s 0 h0
    rw [List.drop_zero] at hd
    unfold recP at h
    rw [hd] at h ⊢
    simpa [hc] using h
   rw [hn] at hA
   obtain ⟨a, b, c, d, f, g, i, j, h1, h2, h3, h4, h5, h6⟩ := hA
   exact ⟨a, b, c, d, f, g, i, j, h1, .inl h2, h6⟩
 unfold rdV at hA
 obtain ⟨N, hN⟩ : ∃ N, w.heap.size = N := ⟨_, rfl⟩
 rw [hN] at X0 HB
 go_enter Tryz.func97, Tryz.ntmps97
 go_wp2_with fail
 refine hA.mono ?_
 rintro e w1 ⟨IL, S, SO, SM, SC, KK0, LL, EE, rfl, hor, hb1⟩
 obtain ⟨KK, hKK⟩ : ∃ KK : Int, (KK0 : Int) = KK := ⟨_, rfl⟩
 rw [hKK]
 clear hA h
 by_cases hE : EE = 0
 ·
  have hE' : (EE != 0) = false := by rw [hE]; rfl
  have hIL := Lib.hid (show IL = true from by rcases hor with h | h; exact absurd hE h; exact h)
  clear hor hE
  have Y0 := X0.belowAll hb1
  have HB1 : Below N w w1 := HB.trans (hb1.mono (by simp; omega))
  have Z0 := (Y0.alloc (.cells (sxC IL S SO SM SC) 123)).alloc (.cells (rdC s KK LL EE) 156)
  have Z1 := (Bx.new w1 (sxC IL S SO SM SC) 123).alloc (.cells (rdC s KK LL EE) 156)
  have Z2 := Bx.newAt (w1.alloc (.cells (sxC IL S SO SM SC) 123)) (rdC s KK LL EE) 156 (w1.heap.size + 1) (by simp)
  have HB2 := (HB1.alloc (w_ge Y0 (Nat.le_refl _)) (.cells (sxC IL S SO SM SC) 123)).alloc (by have := Y0.lt; simp; omega) (.cells (rdC s KK LL EE) 156)
  have hlt := Y0.lt
  clear X0 HB Y0 HB1 hb1
  go_wp2_with fail
  generalize (w1.alloc (.cells (sxC IL S SO SM SC) 123)).alloc (.cells (rdC s KK LL EE) 156) = w2 at *
  have c0 := Z0.cell
  have f0 := Z0.free
  have l0 := Z0.lt
  have c1 := Z1.cell
  have c2 := Z2.cell
  go_region
  have U0 := (Bx.set3 Z0 (v0 := .bool IL) (v1 := .string S) (v2 := .slice SO SM SC)).drew
  have HB3 := (below_set3 (b := N) HB2 (Nat.le_refl _) (v0 := .bool IL) (v1 := .string S) (v2 := .slice SO SM SC)).drew
  generalize World.drew _ = w3 at *
  clear c0 f0 l0 c1 c2 Z0 Z1 Z2 HB2
  have u0 := U0.cell
  go_wp2
  exact bodyPost_ret (v := .tuple #[.agg (sxC IL S SO SM SC), .int .i64 KK, .int .i64 0]) (by simp [results, Tryz.results97, go_sem, u0]) rfl ⟨_, _, _, _, _, _, _, rfl, .inr hIL.out, by rw [hN]; exact HB3⟩
 ·
  have hE' : (EE != 0) = true := by rw [bne_iff_ne]; exact hE
  have hE2 := Lib.hid hE
  clear hor hE
  have Y0 := X0.belowAll hb1
  have HB1 : Below N w w1 := HB.trans (hb1.mono (by simp; omega))
  have Z0 := (Y0.alloc (.cells (sxC IL S SO SM SC) 123)).alloc (.cells (rdC s KK LL EE) 156)
  have Z1 := (Bx.new w1 (sxC IL S SO SM SC) 123).alloc (.cells (rdC s KK LL EE) 156)
  have Z2 := Bx.newAt (w1.alloc (.cells (sxC IL S SO SM SC) 123)) (rdC s KK LL EE) 156 (w1.heap.size + 1) (by simp)
  have HB2 := (HB1.alloc (w_ge Y0 (Nat.le_refl _)) (.cells (sxC IL S SO SM SC) 123)).alloc (by have := Y0.lt; simp; omega) (.cells (rdC s KK LL EE) 156)
  have hlt := Y0.lt
  clear X0 HB Y0 HB1 hb1
  go_wp2_with fail
  generalize (w1.alloc (.cells (sxC IL S SO SM SC) 123)).alloc (.cells (rdC s KK LL EE) 156) = w2 at *
  have c0 := Z0.cell
  have f0 := Z0.free
  have l0 := Z0.lt
  have c1 := Z1.cell
  have c2 := Z2.cell
  go_region
  have U0 := (Bx.set3 Z0 (v0 := .bool false) (v1 := .string ⟨#[]⟩) (v2 := .slice none 0 0)).drew
  have HB3 := (below_set3 (b := N) HB2 (Nat.le_refl _) (v0 := .bool false) (v1 := .string ⟨#[]⟩) (v2 := .slice none 0 0)).drew
  generalize World.drew _ = w3 at *
  clear c0 f0 l0 c1 c2 Z0 Z1 Z2 HB2
  have u0 := U0.cell
  go_wp2
  exact bodyPost_ret (v := .tuple #[.agg zSx, .int .i64 0, .int .i64 EE]) (by simp [results, Tryz.results97, go_sem, u0]) rfl ⟨_, _, _, _, _, _, _, rfl, .inl hE2.out, by rw [hN]; exact HB3⟩
end Go.Proofs.YtghikgjknhjjgaaGreatDoor
namespace Go.Proofs.YtghikgjknhjjgaaGreatDoor
set_option maxRecDepth 100000
open Go.RowKit
theorem valR_le {n : Nat} (h : n ≤ 1099511627776) : valR n = n := by unfold valR; rw [if_neg (by omega)]
theorem cut_list (s : ByteArray) (a b : Nat) : (s.extract a b).data.toList = (s.data.toList.drop a).take (b - a) := by
 conv => lhs; rw [← bs_of s, bs_cut, bs_list]
theorem val_08 (s : ByteArray) : (s.extract 0 8).data.toList.take 8 = s.data.toList.take 8 := by
 rw [cut_list]; simp [List.take_take]
theorem val_816 (s : ByteArray) : (s.extract 8 16).data.toList.take 8 = (s.data.toList.drop 8).take 8 := by
 rw [cut_list]; simp [List.take_take]
theorem rf_vals (s : ByteArray) (hs : 24 ≤ s.size) : (∀ W, Calls Tryz.prog 96 #[.string (s.extract 0 8)] W fun e w' => e = .returned (.int .i64 (valR (be (s.data.toList.take 8)))) ∧ w' = W) ∧
  (∀ W, Calls Tryz.prog 96 #[.string (s.extract 8 16)] W fun e w' => e = .returned (.int .i64 (valR (be ((s.data.toList.drop 8).take 8)))) ∧ w' = W) := by
 constructor
 ·
  intro W
  have := (rf_value (s.extract 0 8) W (by simp; omega)).mono fun _ _ h => (And.intro h.1 h.2.symm)
  rwa [val_08] at this
 ·
  intro W
  have := (rf_value (s.extract 8 16) W (by simp; omega)).mono fun _ _ h => (And.intro h.1 h.2.symm)
  rwa [val_816] at this
set_option maxHeartbeats 4000000 in
theorem rf_header_some (d : Dsk) (v : Value) (frm til : Int) (k : Nat) (V n : Nat) (w : World) (hf : fitE d frm til = 0) (hk : k ≤ 1) (hh : hdrP (pageL d (frm + k)) k (areaN d frm til) = some (V, n)) (hD : DskV w v d) :
  Calls Tryz.prog 77 #[v, .int .i64 frm, .int .i64 til, .int .i64 k] w fun e w' => e = .returned (.tuple #[.int .i64 V, .int .i64 n]) ∧ Below w.heap.size w w' := by
 obtain ⟨a1, a2, a3, a4, a5, a6⟩ := area_bd hf
 obtain ⟨h0, h1, h2, h3, h4, h5⟩ := fitE_zero hf
 have hr := rangedB_true (chk_zero h0).1
 have hl := pageL_len h0 (i := frm + k) (by omega) (by omega)
 obtain ⟨q1, q2, q3, q4, q5, q6, q7, q8⟩ := hdrP_some hh
 obtain ⟨s, hs⟩ : ∃ s, bs (pageL d (frm + k)) = s := ⟨_, rfl⟩
 have hsl : s.data.toList = pageL d (frm + k) := by rw [← hs, bs_list]
 have hz : s.size = d.size.toNat := by rw [← len_size, hsl, hl]
 have hz24 : 24 ≤ s.size := by omega
 have hz512 : s.size ≤ 512 := by omega
 have hzd : (s.size : Int) = d.size := by omega
 obtain ⟨v1, v2⟩ := rf_vals s hz24
 rw [hsl, q1, valR_le q4] at v1
 rw [hsl, q2, valR_le q7] at v2
 have hhd : ∀ W, Calls Tryz.prog 73 #[.int .i64 d.size, .int .i64 V, .int .i64 n] W fun e w' => e = .returned (.string s) ∧ Below W.heap.size W w' := fun W => by
  have := rf_Header s.size V n W hz24 (by omega)
  rwa [hzd, hz, ← hl, ← q8, hs] at this
 have hrd : ∀ W vv, DskV W vv d → Calls Tryz.prog 69 #[vv, .int .i64 (frm + k)] W fun e w' => e = .returned (.string s) ∧ Below W.heap.size W w' := fun W vv h => hs ▸ rf_read d vv (frm + k) W h
 have hD0 := hD
 obtain ⟨po, pc, co, cc, rfl⟩ := hD.agg
 have b1 : 0 ≤ (til - frm - 2) * d.size := a1
 have b2 : (til - frm - 2) * d.size ≤ 1024000 := a2
 have b3 : (n : Int) ≤ (til - frm - 2) * d.size := q6
 have q5' : (V : Int) % 2 = (k : Int) := by omega
 clear hD hf h0 hh q1 q2 q8 hs hsl hz hl hzd
 go_enter Tryz.func77, Tryz.ntmps77
 go_wp2_with fail
 refine (hrd _ _ (hD0.below (Below.one _ _))).mono ?_
 rintro e w1 ⟨rfl, hb1⟩
 have x1 := (Bx.new w _ _).belowAll hb1
 have hB1 := btr (Below.one _ _) hb1
 go_wp2_with fail
 go_quiet ((first | (go_at_call 96; with_reducible exact Calls.quiet_of_same (v1 _)) | (go_at_call 96; with_reducible exact Calls.quiet_of_same (v2 _))))
 have x2 := x1.drewN nq
 have cX := x2.cell
 have lX := x2.lt
 go_wp2_with fail
 refine (hhd _).mono ?_
 rintro e w2 ⟨rfl, hb2⟩
 go_wp2
 go_ret2
 exact ⟨rfl, btr (Below.drewN hB1 nq) hb2⟩
set_option maxHeartbeats 4000000 in
theorem rf_header_none (d : Dsk) (v : Value) (frm til : Int) (k : Nat) (w : World) (hf : fitE d frm til = 0) (hk : k ≤ 1) (hh : hdrP (pageL d (frm + k)) k (areaN d frm til) = none) (hD : DskV w v d) :
  Calls Tryz.prog 77 #[v, .int .i64 frm, .int .i64 til, .int .i64 k] w fun e w' => e = .returned (.tuple #[.int .i64 0, .int .i64 0]) ∧ Below w.heap.size w w' := by
 obtain ⟨a1, a2, a3, a4, a5, a6⟩ := area_bd hf
 obtain ⟨h0, h1, h2, h3, h4, h5⟩ := fitE_zero hf
 have hr := rangedB_true (chk_zero h0).1
 have hl := pageL_len h0 (i := frm + k) (by omega) (by omega)
 obtain ⟨s, hs⟩ : ∃ s, bs (pageL d (frm + k)) = s := ⟨_, rfl⟩
 have hsl : s.data.toList = pageL d (frm + k) := by rw [← hs, bs_list]
 have hz : s.size = d.size.toNat := by rw [← len_size, hsl, hl]
 have hz24 : 24 ≤ s.size := by omega
 have hz512 : s.size ≤ 512 := by omega
 have hzd : (s.size : Int) = d.size := by omega
 obtain ⟨v1, v2⟩ := rf_vals s hz24
 rw [hsl] at v1 v2
 obtain ⟨x, hx⟩ : ∃ x, valR (be ((pageL d (frm + k)).take 8)) = x := ⟨_, rfl⟩
 obtain ⟨y, hy⟩ : ∃ y, valR (be (((pageL d (frm + k)).drop 8).take 8)) = y := ⟨_, rfl⟩
 rw [hx] at v1
 rw [hy] at v2
 have bx : -1 ≤ x ∧ x ≤ 1099511627776 := by unfold valR at hx; split at hx <;> omega
 have by_ : -1 ≤ y ∧ y ≤ 1099511627776 := by unfold valR at hy; split at hy <;> omega
 have hhd : ∀ (V n : Nat) (W : World), Calls Tryz.prog 73 #[.int .i64 d.size, .int .i64 V, .int .i64 n] W fun e w' => e = .returned (.string (bs (hdrL s.size V n))) ∧ Below W.heap.size W w' := fun V n W => by
  have := rf_Header s.size V n W hz24 (by omega)
  rwa [hzd] at this
 have hrd : ∀ W vv, DskV W vv d → Calls Tryz.prog 69 #[vv, .int .i64 (frm + k)] W fun e w' => e = .returned (.string s) ∧ Below W.heap.size W w' := fun W vv h => hs ▸ rf_read d vv (frm + k) W h
 have hD0 := hD
 obtain ⟨po, pc, co, cc, rfl⟩ := hD.agg
 have b1 : 0 ≤ (til - frm - 2) * d.size := a1
 have b2 : (til - frm - 2) * d.size ≤ 1024000 := a2
 have Hx := Lib.hid hx
 have Hy := Lib.hid hy
 have Hh := Lib.hid hh
 have Hs := Lib.hid hsl
 have Hz := Lib.hid hz
 have Hl := Lib.hid hl
 clear hD hf h0 hh hs hsl hz hl hzd hx hy
 cases g1 : decide (x < 1)
 rotate_left
 ·
  have g1' := of_decide_eq_true g1
  go_enter Tryz.func77, Tryz.ntmps77
  go_wp2_with fail
  refine (hrd _ _ (hD0.below (Below.one _ _))).mono ?_
  rintro e w1 ⟨rfl, hb1⟩
  have x1 := (Bx.new w _ _).belowAll hb1
  have hB1 := btr (Below.one _ _) hb1
  go_wp2_with fail
  go_quiet ((first | (go_at_call 96; with_reducible exact Calls.quiet_of_same (v1 _)) | (go_at_call 96; with_reducible exact Calls.quiet_of_same (v2 _))))
  have x2 := x1.drewN nq
  have cX := x2.cell
  have lX := x2.lt
  go_wp2
  go_ret2
  exact ⟨rfl, Below.drewN hB1 nq⟩
 have g1' := of_decide_eq_false g1
 obtain ⟨V, rfl⟩ : ∃ V : Nat, x = V := ⟨x.toNat, by omega⟩
 cases g2 : decide (y < 0)
 rotate_left
 ·
  have g2' := of_decide_eq_true g2
  go_enter Tryz.func77, Tryz.ntmps77
  go_wp2_with fail
  refine (hrd _ _ (hD0.below (Below.one _ _))).mono ?_
  rintro e w1 ⟨rfl, hb1⟩
  have x1 := (Bx.new w _ _).belowAll hb1
  have hB1 := btr (Below.one _ _) hb1
  go_wp2_with fail
  go_quiet ((first | (go_at_call 96; with_reducible exact Calls.quiet_of_same (v1 _)) | (go_at_call 96; with_reducible exact Calls.quiet_of_same (v2 _))))
  have x2 := x1.drewN nq
  have cX := x2.cell
  have lX := x2.lt
  go_wp2
  go_ret2
  exact ⟨rfl, Below.drewN hB1 nq⟩
 have g2' := of_decide_eq_false g2
 obtain ⟨n, rfl⟩ : ∃ n : Nat, y = n := ⟨y.toNat, by omega⟩
 cases g3 : decide ((til - frm - 2) * d.size < (n : Int))
 rotate_left
 ·
  have g3' := of_decide_eq_true g3
  go_enter Tryz.func77, Tryz.ntmps77
  go_wp2_with fail
  refine (hrd _ _ (hD0.below (Below.one _ _))).mono ?_
  rintro e w1 ⟨rfl, hb1⟩
  have x1 := (Bx.new w _ _).belowAll hb1
  have hB1 := btr (Below.one _ _) hb1
  go_wp2_with fail
  go_quiet ((first | (go_at_call 96; with_reducible exact Calls.quiet_of_same (v1 _)) | (go_at_call 96; with_reducible exact Calls.quiet_of_same (v2 _))))
  have x2 := x1.drewN nq
  have cX := x2.cell
  have lX := x2.lt
  go_wp2
  go_ret2
  exact ⟨rfl, Below.drewN hB1 nq⟩
 have g3' := of_decide_eq_false g3
 cases g4 : decide ((V : Int) % 2 = (k : Int))
 ·
  have g4' := of_decide_eq_false g4
  go_enter Tryz.func77, Tryz.ntmps77
  go_wp2_with fail
  refine (hrd _ _ (hD0.below (Below.one _ _))).mono ?_
  rintro e w1 ⟨rfl, hb1⟩
  have x1 := (Bx.new w _ _).belowAll hb1
  have hB1 := btr (Below.one _ _) hb1
  go_wp2_with fail
  go_quiet ((first | (go_at_call 96; with_reducible exact Calls.quiet_of_same (v1 _)) | (go_at_call 96; with_reducible exact Calls.quiet_of_same (v2 _))))
  have x2 := x1.drewN nq
  have cX := x2.cell
  have lX := x2.lt
  go_wp2
  go_ret2
  exact ⟨rfl, Below.drewN hB1 nq⟩
 have g4' := of_decide_eq_true g4
 have hne : (hdrL s.size V n == s.toList) = false := by
  rw [beq_eq_false_iff_ne]
  intro e
  rw [ByteArray.toList_eq, Hs.out] at e
  have b1 : be ((pageL d (frm + k)).take 8) = V := by
   have := Hx.out; unfold valR at this; split at this <;> omega
  have b2 : be (((pageL d (frm + k)).drop 8).take 8) = n := by
   have := Hy.out; unfold valR at this; split at this <;> omega
  have := Hh.out
  unfold hdrP at this
  have g3'' : (n : Int) ≤ areaN d frm til := by unfold areaN; omega
  rw [if_pos ⟨by omega, by omega, by omega, by rw [b2]; exact g3'', by omega, by rw [b1, b2, Hl.out, ← Hz.out]; exact e.symm⟩] at this
  cases this
 go_enter Tryz.func77, Tryz.ntmps77
 go_wp2_with fail
 refine (hrd _ _ (hD0.below (Below.one _ _))).mono ?_
 rintro e w1 ⟨rfl, hb1⟩
 have x1 := (Bx.new w _ _).belowAll hb1
 have hB1 := btr (Below.one _ _) hb1
 go_wp2_with fail
 go_quiet ((first | (go_at_call 96; with_reducible exact Calls.quiet_of_same (v1 _)) | (go_at_call 96; with_reducible exact Calls.quiet_of_same (v2 _))))
 have x2 := x1.drewN nq
 have cX := x2.cell
 have lX := x2.lt
 go_wp2_with fail
 refine (hhd _ _ _).mono ?_
 rintro e w2 ⟨rfl, hb2⟩
 go_wp2
 go_ret2
 exact ⟨rfl, btr (Below.drewN hB1 nq) hb2⟩
end Go.Proofs.YtghikgjknhjjgaaGreatDoor
