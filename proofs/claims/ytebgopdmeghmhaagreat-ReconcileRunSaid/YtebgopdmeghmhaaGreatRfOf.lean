/- quiltref47.Of. -/
import Derived.Test.YtebgopdmeghmhaaGreatIbSub
import Derived.Test.YtebgopdmeghmhaaGreatRfIns
namespace Go.Proofs.YtebgopdmeghmhaaGreat
open Go.RowKit

set_option maxRecDepth 100000 in
set_option maxHeartbeats 1600000 in
theorem ref47_Of {S : Nat → Prop} (w : World) (v : Value) (n : Int) (l : List (List UInt8)) (h : DigR S w v l) (hl : l.length ≤ 1000000) :
    Calls Tryz.prog 22 #[.int .i64 n, v] w (TabE w (ofT n l)) := by
  obtain ⟨o, c, rfl⟩ : ∃ o c, v = .slice o l.length c := by obtain ⟨⟨o, c, e, _⟩, _⟩ := h; rw [digC_size] at e; exact ⟨o, c, e⟩
  go_enter Tryz.func22, Tryz.ntmps22
  go_wp2_with fail
  refine (ref47_new n _).mono ?_
  rintro e w1 ⟨vn, rfl, ht, hb1⟩
  unfold newE
  cases ha : allowedB n
  · have hres : ofT n l = ([], 2) := by simp [ofT, ha]
    have Hres := Lib.hid hres
    clear hres
    have HE := Lib.hid (TabR.empty (w := w1) (base := w.heap.size) hb1.size)
    have hB3 := hb1.alloc hb1.size (.cells #[] 67)
    go_wp2
    refine bodyPost_ret (v := .tuple #[.slice (some ⟨w1.heap.size, 0, none⟩) 0 0, .int .i64 2]) (by simp [results, Tryz.results22, go_sem]) rfl ?_
    exact ⟨.slice (some ⟨w1.heap.size, 0, none⟩) 0 0, by rw [Hres.out], by rw [Hres.out]; exact HE.out, hB3⟩
  · have hal := allowedB_iff.1 ha
    have ho := ht
    have hnl : (newT n).length = n.toNat := by simp [newT, ha]
    have h1 := h.below hb1
    have Hok := Lib.hid h.2
    have hres : ofT n l = (ofFold (newT n) l, 0) := by simp [ofT, ha]
    have Hres := Lib.hid hres
    have hn3 : 3 ≤ (newT n).length := by omega
    have hn4 : (newT n).length ≤ 1000000 := by omega
    have T0 := TabR.owns ho (newT_ok n)
    generalize newT n = t0 at *
    clear ht ho hres hal hnl h
    go_wp2
    go_loopw [6, 8] (fun u i wr => ∃ k : Nat, k ≤ l.length ∧ i = .int .i64 k ∧ TabR (fun b => w.heap.size ≤ b ∧ b < wr.heap.size) wr u (ofFold t0 (l.take k)) ∧ DigR S wr (.slice o l.length c) l ∧ Below w.heap.size w wr) (fun _ i _ => l.length - (intOf i).toNat)
    case atStart => exact ⟨0, by omega, rfl, T0, h1, hb1⟩
    case round =>
      clear T0 h1 hb1
      obtain ⟨k, hk, rfl, hT, hD, hB⟩ := hrel
      by_cases hlt : k < l.length
      · have hlt' : (k : Int) < (l.length : Int) := by omega
        obtain ⟨b, off, c', e', _, _, _, hb, hra⟩ := hD.at hlt
        obtain ⟨rfl, rfl⟩ : o = some ⟨b, off, none⟩ ∧ c = c' := by simpa using e'
        have hdl : l[k].length = 32 := Hok.out _ (List.getElem_mem hlt)
        have htl : (ofFold t0 (l.take k)).length = t0.length := ofFold_len _ _
        have hnext : ofFold t0 (l.take (k + 1)) = putT (ofFold t0 (l.take k)) l[k] 1 := by rw [List.take_succ_eq_append_getElem hlt, ofFold_snoc]
        have hpok := putT_ok hT.2 hdl 1
        have Hnext := Lib.hid hnext
        generalize ofFold t0 (l.take k) = tt at *
        generalize l[k] = d at *
        obtain ⟨cd, hcd⟩ : ∃ c, (bytesV d).toArray = c := ⟨_, rfl⟩
        have hcl : cd.size = 32 := by rw [← hcd]; simp [bytesV, hdl]
        have hbl : (bytesV d).length = 32 := by rw [bytesV_len, hdl]
        have hdg : dgV d = .agg cd := by unfold dgV; rw [hcd]
        have hput := ref47_added _ _ tt d 1 hT (by rw [htl]; exact hn3) (by rw [htl]; exact hn4) hdl
        rw [hdg] at hput
        have Hra := Lib.hid hra
        have Hcl := Lib.hid hcl
        have Hbl := Lib.hid hbl
        have Hcd := Lib.hid hcd
        have Hpok := Lib.hid hpok
        have htv : ∃ o2 c2, u6 = .slice o2 t0.length c2 := by obtain ⟨⟨o2, c2, e2, _⟩, _⟩ := hT; rw [tabC_size, htl] at e2; exact ⟨o2, c2, e2⟩
        have hpl := putT_len tt d 1
        rw [htl] at hpl
        obtain ⟨o2, c2, rfl⟩ := htv
        rw [htl] at hput
        have Hput := Lib.hid hput
        clear hput hra hcl hbl hcd hdg hnext hpok e'
        go_wp2_with (refine wpList_load_mid rfl 39 (.tmp 27) rfl b (off + k * 32) (by first | rfl | (simp)) (bytesV d) _ Hra.out Tryz.underlying39 rfl (by rw [sizeDg, Hbl.out]) ?_)
        rw [show Value.agg (bytesV d).toArray = Value.agg cd by rw [Hcd.out]]
        refine Hput.out.mono ?_
        rintro e w7 ⟨g, cap, rfl, ho7, hb7⟩
        have hbb := hb7
        have hT7 : TabR (fun b => w.heap.size ≤ b ∧ b < w7.heap.size) w7 (.slice (some ⟨g, 0, none⟩) t0.length cap) (putT tt d 1) := (TabR.owns (by rw [hpl]; exact ho7) Hpok.out).mono (fun b hb => ⟨by have := hb.1; have := hB.size; omega, hb.2⟩)
        have hD7 := hD.below hbb
        have hB7 := Below.then hB hbb hB.size
        clear hT hD hB ho7 hb7
        go_wp2
        go_roundw
        case rel => exact ⟨k + 1, by omega, by go_num, by rw [Hnext.out]; exact hT7, hD7, hB7⟩
        case measure => simp [intOf]; omega
      · obtain rfl : k = l.length := by omega
        have hlt' : ¬ (l.length : Int) < (l.length : Int) := by omega
        rw [List.take_length] at hT
        have htl : (ofFold t0 l).length = t0.length := ofFold_len _ _
        have HT := Lib.hid hT
        have htv : ∃ o2 c2, u6 = .slice o2 t0.length c2 := by obtain ⟨⟨o2, c2, e2, _⟩, _⟩ := hT; rw [tabC_size, htl] at e2; exact ⟨o2, c2, e2⟩
        obtain ⟨o2, c2, rfl⟩ := htv
        clear hT hD
        go_wp2
        refine bodyPost_ret (v := .tuple #[.slice o2 t0.length c2, .int .i64 0]) (by simp [results, Tryz.results22, go_sem]) rfl ?_
        exact ⟨.slice o2 t0.length c2, by rw [Hres.out], by rw [Hres.out]; exact HT.out, hB⟩
end Go.Proofs.YtebgopdmeghmhaaGreat
