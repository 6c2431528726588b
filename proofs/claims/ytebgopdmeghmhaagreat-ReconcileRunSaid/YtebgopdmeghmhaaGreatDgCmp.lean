/- Compare of two digests, of the program and of the reference. -/
import Derived.Test.YtebgopdmeghmhaaGreatDgXor
import Derived.Lib.Bytealg
import Derived.Laws.Externs
namespace Go.Proofs.YtebgopdmeghmhaaGreat
open Go.RowKit

def cmpD (a b : List UInt8) : Int := Lib.compareBytes a b

theorem cmpD_lt {a b : List UInt8} {k : Nat} (ha : k < a.length) (hb : k < b.length) (h : a[k] < b[k]) : cmpD (a.drop k) (b.drop k) = -1 := by
  rw [List.drop_eq_getElem_cons ha, List.drop_eq_getElem_cons hb, cmpD, Lib.compareBytes, if_pos h]
theorem cmpD_gt {a b : List UInt8} {k : Nat} (ha : k < a.length) (hb : k < b.length) (h : ¬ a[k] < b[k]) (h' : b[k] < a[k]) : cmpD (a.drop k) (b.drop k) = 1 := by
  rw [List.drop_eq_getElem_cons ha, List.drop_eq_getElem_cons hb, cmpD, Lib.compareBytes, if_neg h, if_pos h']
theorem cmpD_eq {a b : List UInt8} {k : Nat} (ha : k < a.length) (hb : k < b.length) (h : ¬ a[k] < b[k]) (h' : ¬ b[k] < a[k]) : cmpD (a.drop k) (b.drop k) = cmpD (a.drop (k + 1)) (b.drop (k + 1)) := by
  rw [List.drop_eq_getElem_cons ha, List.drop_eq_getElem_cons hb, cmpD, Lib.compareBytes, if_neg h, if_neg h']; rfl

set_option maxHeartbeats 1000000 in
theorem ref02_compare (a b : List UInt8) (ha : a.length = 32) (hb : b.length = 32) (w : World) :
    Calls Tryz.prog 35 #[dgV a, dgV b] w fun e w' => e = .returned (.int .i64 (cmpD a b)) ∧ Below w.heap.size w w' := by
  obtain ⟨ca, hca⟩ : ∃ c, (bytesV a).toArray = c := ⟨_, rfl⟩
  obtain ⟨cb, hcb⟩ : ∃ c, (bytesV b).toArray = c := ⟨_, rfl⟩
  unfold dgV
  rw [hca, hcb]
  have xa := Bx.new w ca 39 |>.alloc (.cells cb 39)
  have xb := Bx.new (w.alloc (.cells ca 39)) cb 39
  simp only [World.size_alloc] at xb
  have hB := (Below.one w (.cells ca 39)).alloc (by simp) (.cells cb 39)
  have hca' := Lib.hid hca
  have hcb' := Lib.hid hcb
  clear hca hcb
  go_enter Tryz.func35, Tryz.ntmps35
  go_wp2
  generalize (w.alloc (.cells ca 39)).alloc (.cells cb 39) = w1 at *
  have ha' := Lib.hid ha
  have hb' := Lib.hid hb
  clear ha hb
  go_loopw [5] (fun i wr => ∃ (k : Nat), k ≤ 32 ∧ i = .int .i64 k ∧ Hid (cmpD (a.drop k) (b.drop k) = cmpD a b) ∧ Bx wr w.heap.size ca 39 ∧ Bx wr (w.heap.size + 1) cb 39 ∧ Below w.heap.size w wr) (fun i _ => 32 - (intOf i).toNat)
  case atStart => exact ⟨0, by omega, rfl, Lib.hid rfl, xa, xb, hB⟩
  case round =>
    clear xa xb hB
    obtain ⟨k, hk, rfl, hc, xa, xb, hB⟩ := hrel
    by_cases hlt : k < 32
    · have hka : k < a.length := by have := ha'.out; omega
      have hkb : k < b.length := by have := hb'.out; omega
      have ca0 : wr.cell? ⟨w.heap.size, k, none⟩ = some (.int .u8 (a[k].toNat : Int)) := by rw [xa.cell, ← hca'.out, bytesV_get hka]
      have cb0 : wr.cell? ⟨w.heap.size + 1, k, none⟩ = some (.int .u8 (b[k].toNat : Int)) := by rw [xb.cell, ← hcb'.out, bytesV_get hkb]
      cases g1 : decide (a[k].toNat < b[k].toNat)
      · have g1' : ¬ a[k] < b[k] := by rw [UInt8.lt_iff_toNat_lt]; exact of_decide_eq_false g1
        cases g2 : decide (b[k].toNat < a[k].toNat)
        · have g2' : ¬ b[k] < a[k] := by rw [UInt8.lt_iff_toNat_lt]; exact of_decide_eq_false g2
          have hn := Lib.hid ((cmpD_eq hka hkb g1' g2').symm.trans hc.out)
          clear g1' g2'
          go_wp2
          go_quiet (fail)
          go_wp2
          go_quiet (fail)
          go_wp2
          go_roundw
          case rel => exact ⟨k + 1, by omega, by go_num, hn, xa, xb, by first | exact Below.drewN hB _ | exact Below.drewN (Below.drewN hB _) _⟩
          case measure => simp [intOf]; omega
        · have g2' : b[k] < a[k] := by rw [UInt8.lt_iff_toNat_lt]; exact of_decide_eq_true g2
          have hn := Lib.hid ((cmpD_gt hka hkb g1' g2').symm.trans hc.out)
          clear g1' g2'
          go_wp2
          go_quiet (fail)
          go_wp2
          go_quiet (fail)
          go_wp2
          go_ret
          exact ⟨by rw [← hn.out]; rfl, by first | exact Below.drewN hB _ | exact Below.drewN (Below.drewN hB _) _⟩
      · have g1' : a[k] < b[k] := by rw [UInt8.lt_iff_toNat_lt]; exact of_decide_eq_true g1
        have hn := Lib.hid ((cmpD_lt hka hkb g1').symm.trans hc.out)
        clear g1'
        go_wp2
        go_quiet (fail)
        go_wp2
        go_ret
        exact ⟨by rw [← hn.out]; rfl, Below.drewN hB _⟩
    · obtain rfl : k = 32 := by omega
      have hn : (0 : Int) = cmpD a b := by
        rw [← hc.out, List.drop_of_length_le (by have := ha'.out; omega), List.drop_of_length_le (by have := hb'.out; omega)]; rfl
      have hn' := Lib.hid hn
      clear hn
      go_wp2
      go_ret
      exact ⟨by rw [← hn'.out]; rfl, hB⟩

theorem loadBytes_run {P : Program} (w : World) (b : Nat) : ∀ (l : List UInt8) (o : Nat) (acc : ByteArray), (∀ j (h : j < l.length), w.cell? ⟨b, o + j, none⟩ = some (.int .u8 (l[j].toNat : Int))) →
    (Extern.Bytes.loadBytes ⟨b, o, none⟩ l.length acc).run P w = .ok ⟨(acc.data.toList ++ l).toArray⟩ w
  | [], _, acc, _ => by simp [Extern.Bytes.loadBytes]
  | x :: l, o, acc, h => by
    have h0 := h 0 (by simp)
    rw [Nat.add_zero] at h0
    have ih := loadBytes_run (P := P) w b l (o + 1) (acc.push x) (fun j hj => by have := h (j + 1) (by simp; omega); rw [Nat.add_assoc, Nat.add_comm 1 j]; simpa using this)
    have e1 : (UInt8.ofNat x.toNat) = x := by simp
    simp [Extern.Bytes.loadBytes, h0, Addr.add_mid, ih, e1]
theorem run_compareRows {P : Program} (w : World) {S T : Nat → Prop} (la lb : List UInt8) (oa ob : Option Addr) (ca cb : Nat) (ha : RowAt S w oa (bytesV la)) (hb : RowAt T w ob (bytesV lb)) :
    (Extern.BytealgCompare.compare #[.slice oa la.length ca, .slice ob lb.length cb]).run P w = .ok (.int .i64 (Lib.compareBytes la lb)) w := by
  have one : ∀ {S : Nat → Prop} (l : List UInt8) (o : Option Addr) (c : Nat), RowAt S w o (bytesV l) → (Extern.Bytes.bytesOf (.slice o l.length c)).run P w = .ok ⟨l.toArray⟩ w := by
    intro S l o c h
    cases l with
    | nil => cases o <;> simp [Extern.Bytes.bytesOf, Extern.Bytes.loadBytes] <;> rfl
    | cons x l =>
      obtain ⟨b, off, rfl, _, _⟩ := h 0 (by simp [bytesV])
      have := loadBytes_run (P := P) w b (x :: l) off ByteArray.empty (fun j hj => by
        obtain ⟨b', off', e, hc, _⟩ := h j (by simpa [bytesV] using hj)
        obtain ⟨rfl, rfl⟩ : b = b' ∧ off = off' := by simpa using e
        rw [hc]; simp only [bytesV, List.getElem_map])
      simpa [Extern.Bytes.bytesOf] using this
  change Sem.run P (do pure (goInt (Extern.BytealgCompare.cmp (← Extern.Bytes.bytesOf (.slice oa la.length ca)) (← Extern.Bytes.bytesOf (.slice ob lb.length cb))))) w = _
  simp only [Sem.run_bind, Sem.run_pure, one la oa ca ha, one lb ob cb hb, Result.andThen]
  rw [Lib.cmp_eq]
  rfl

set_option maxRecDepth 100000 in
set_option maxHeartbeats 1000000 in
theorem bytes_compare (la lb : List UInt8) (oa ob : Option Addr) (ca cb : Nat) (w : World) {S T : Nat → Prop} (ha : RowAt S w oa (bytesV la)) (hb : RowAt T w ob (bytesV lb)) :
    Calls Tryz.prog 62 #[.slice oa la.length ca, .slice ob lb.length cb] w fun e w' => e = .returned (.int .i64 (Lib.compareBytes la lb)) ∧ w = w' := by
  go_enter Tryz.func62, Tryz.ntmps62
  go_wp2
  rw [run_callFunc_extern Tryz.func84 (by kernel_rfl) (by kernel_rfl) (by kernel_rfl) (e := Extern.BytealgCompare.compare) (by kernel_rfl), run_compareRows w la lb oa ob ca cb ha hb]
  simp only [Result.andThen]
  rw [Oper.upon_value]
  go_wp2
  go_ret
  exact ⟨rfl, rfl⟩

set_option maxHeartbeats 1000000 in
theorem sha_compare (a b : List UInt8) (ha : a.length = 32) (hb : b.length = 32) (w : World) :
    Calls Tryz.prog 32 #[dgV a, dgV b] w fun e w' => e = .returned (.int .i64 (cmpD a b)) ∧ Below w.heap.size w w' := by
  obtain ⟨ca, hca⟩ : ∃ c, (bytesV a).toArray = c := ⟨_, rfl⟩
  obtain ⟨cb, hcb⟩ : ∃ c, (bytesV b).toArray = c := ⟨_, rfl⟩
  unfold dgV
  rw [hca, hcb]
  have xa := Bx.new w ca 39 |>.alloc (.cells cb 39)
  have xb := Bx.new (w.alloc (.cells ca 39)) cb 39
  simp only [World.size_alloc] at xb
  have hB := (Below.one w (.cells ca 39)).alloc (by simp) (.cells cb 39)
  have hca' := Lib.hid hca
  have hcb' := Lib.hid hcb
  clear hca hcb
  go_enter Tryz.func32, Tryz.ntmps32
  go_wp2
  generalize (w.alloc (.cells ca 39)).alloc (.cells cb 39) = w1 at *
  have cQ := Lat.cells w1
  have lA := xa.lt
  have lB := xb.lt
  have hc : ∀ x : Lat w1, Calls Tryz.prog 62 #[.slice (some ⟨w.heap.size, 0, none⟩) 32 32, .slice (some ⟨w.heap.size + 1, 0, none⟩) 32 32] x.w fun e w' => e = .returned (.int .i64 (cmpD a b)) ∧ x.w = w' := fun x => by
    have h1 : RowAt (· = w.heap.size) x.w (some ⟨w.heap.size, 0, none⟩) (bytesV a) := by have := RowAt.bx (xa.belowAll x.h); rw [← hca'.out] at this; simpa using this
    have h2 : RowAt (· = w.heap.size + 1) x.w (some ⟨w.heap.size + 1, 0, none⟩) (bytesV b) := by have := RowAt.bx (xb.belowAll x.h); rw [← hcb'.out] at this; simpa using this
    have := bytes_compare a b _ _ 32 32 x.w h1 h2
    rw [ha, hb] at this
    exact this
  clear ha hb
  refine wp_region_lat (by kernel_rfl) (by kernel_rfl) ?_
  repeat (any_goals (first | go_big_quiet_skip | (go_big_quiet_want; go_big_quiet_op; first | go_big_quiet_on | go_big_quiet_call ((first | (go_at_call 62; exact Calls.lat_same (hc _))))) | quiet_step ((first | (go_at_call 62; exact Calls.lat_same (hc _))))))
  refine wpQuiet_nil ?_
  rintro W9 ⟨⟨_, hb9⟩, rfl⟩
  go_wp2
  go_ret
  exact ⟨rfl, hB.trans (hb9.mono hB.size)⟩
end Go.Proofs.YtebgopdmeghmhaaGreat
