/- quiltref47.Insert, Of. -/
import Derived.Test.YtfligkncdlocaaaIbIns
import Derived.Test.YtfligkncdlocaaaRfAdd
namespace Go.Proofs.Ytfligkncdlocaaa
open Go.RowKit

def insR (t : List Cl) (d : List UInt8) : List Cl × Int := if checkT t = 0 then (if checkT (putT t d 1) = 0 then (putT t d 1, 0) else ([], 4)) else ([], checkT t)
theorem TabR.empty {w : World} {base : Nat} (hb : base ≤ w.heap.size) : TabR (fun b => base ≤ b ∧ b < (w.alloc (.cells #[] 50)).heap.size) (w.alloc (.cells #[] 50)) (.slice (some ⟨w.heap.size, 0, none⟩) 0 0) [] :=
  TabR.owns (ownsRow_empty w base w.heap.size 50 65 rfl hb) (fun _ h => by cases h)
set_option maxRecDepth 100000 in
set_option maxHeartbeats 1600000 in
theorem ref47_Insert {S : Nat → Prop} (w : World) (v : Value) (t : List Cl) (d : List UInt8) (h : TabR S w v t) (hm : t.length ≤ 1000000) (hd : d.length = 32) :
    Calls Try.prog 17 #[v, dgV d] w (TabE w (insR t d)) := by
  obtain ⟨o, c, rfl⟩ : ∃ o c, v = .slice o t.length c := by obtain ⟨⟨o, c, e, _⟩, _⟩ := h; rw [tabC_size] at e; exact ⟨o, c, e⟩
  obtain ⟨cd, hcd⟩ : ∃ c, (bytesV d).toArray = c := ⟨_, rfl⟩
  have hcl : cd.size = 32 := by rw [← hcd]; simp [bytesV, hd]
  have hdg : dgV d = .agg cd := by unfold dgV; rw [hcd]
  rw [hdg]
  have hB0 := Below.one w (.cells cd 31)
  have xd := Bx.new w cd 31
  have h1 := h.below hB0
  have Hcl := Lib.hid hcl
  have Hdg := Lib.hid hdg
  have H1 := Lib.hid h1
  have Hchk := Lib.hid (ref47_Check _ _ t h1 hm)
  clear hcl hcd hdg h h1
  go_enter Try.func17, Try.ntmps17
  go_wp2_with fail
  refine Hchk.out.mono ?_
  rintro e w' ⟨rfl, rfl⟩
  rcases checkT_cases t with hck | hck
  · have hal := allowedB_iff.1 (checkT_len hck).1
    have hl3 : 3 ≤ t.length := by omega
    have hadd := ref47_added _ _ t d 1 H1.out hl3 hm hd
    rw [Hdg.out] at hadd
    have Hadd := Lib.hid hadd
    have hpl := putT_len t d 1
    have hpok := putT_ok H1.out.2 hd 1
    rw [hck]
    have Hck := Lib.hid hck
    clear hadd hal hck
    go_wp2_with (refine wpList_load_mid rfl 31 (.tmp 3) rfl w.heap.size 0 rfl cd.toList _ xd.range Try.underlying31 rfl (by rw [sizeDg]; simp [Hcl.out]) ?_)
    refine Hadd.out.mono ?_
    rintro e w2 ⟨g, cap, rfl, ho, hb2⟩
    have hB2 := Below.then hB0 hb2 hB0.size
    have hT : TabR (fun b => w.heap.size ≤ b ∧ b < w2.heap.size) w2 (.slice (some ⟨g, 0, none⟩) t.length cap) (putT t d 1) := (TabR.owns (by rw [hpl]; exact ho) hpok).mono (fun b hb => ⟨by have := hb.1; simp at this; omega, hb.2⟩)
    have HT := Lib.hid hT
    have Hchk2 := Lib.hid (ref47_Check _ _ (putT t d 1) hT (by rw [hpl]; exact hm))
    have hB3 := hB2.alloc hB2.size (.cells #[] 50)
    have hE := TabR.empty (w := w2) (base := w.heap.size) hB2.size
    have HE := Lib.hid hE
    clear ho hT hE
    go_wp2_with fail
    refine Hchk2.out.mono ?_
    rintro e w' ⟨rfl, rfl⟩
    rcases checkT_cases (putT t d 1) with hc2 | hc2
    · have hres : insR t d = (putT t d 1, 0) := by unfold insR; rw [Hck.out, hc2]; rfl
      rw [hc2]
      have Hres := Lib.hid hres
      clear hres hc2
      go_wp2
      refine bodyPost_ret (v := .tuple #[.slice (some ⟨g, 0, none⟩) t.length cap, .int .i64 0]) (by simp [results, Try.results17, go_sem]) rfl ?_
      exact ⟨.slice (some ⟨g, 0, none⟩) t.length cap, by rw [Hres.out], by rw [Hres.out]; exact HT.out, hB2⟩
    · have hres : insR t d = ([], 4) := by unfold insR; rw [Hck.out, hc2]; rfl
      rw [hc2]
      have Hres := Lib.hid hres
      clear hres hc2
      go_wp2
      refine bodyPost_ret (v := .tuple #[.slice (some ⟨w2.heap.size, 0, none⟩) 0 0, .int .i64 4]) (by simp [results, Try.results17, go_sem]) rfl ?_
      exact ⟨.slice (some ⟨w2.heap.size, 0, none⟩) 0 0, by rw [Hres.out], by rw [Hres.out]; exact HE.out, hB3⟩
  · have hne : insR t d = ([], 2) := by unfold insR; rw [hck]; rfl
    rw [hck]
    have Hne := Lib.hid hne
    have hB3 := hB0.alloc hB0.size (.cells #[] 50)
    have HE := Lib.hid (TabR.empty (w := w.alloc (.cells cd 31)) (base := w.heap.size) hB0.size)
    clear hck hne
    go_wp2
    refine bodyPost_ret (v := .tuple #[.slice (some ⟨w.heap.size + 1, 0, none⟩) 0 0, .int .i64 2]) (by simp [results, Try.results17, go_sem]) rfl ?_
    refine ⟨.slice (some ⟨w.heap.size + 1, 0, none⟩) 0 0, by rw [Hne.out], ?_, hB3⟩
    rw [Hne.out]
    have := HE.out
    rw [World.size_alloc w] at this
    exact this
end Go.Proofs.Ytfligkncdlocaaa
