/- quiltref48.Quick. -/
import Derived.Test.YtebgopdmeghmhaaGreatRcQuick
import Derived.Test.YtebgopdmeghmhaaGreatRfOf
import Derived.Test.YtebgopdmeghmhaaGreatRfSub
import Derived.Test.YtebgopdmeghmhaaGreatRfPeel
namespace Go.Proofs.YtebgopdmeghmhaaGreat
open Go.RowKit

set_option maxRecDepth 100000 in
set_option maxHeartbeats 2000000 in
theorem rf_Quick {S1 S2 : Nat → Prop} (w : World) (va : Value) (ids : List (List UInt8)) (h : DigR S1 w va ids) (vt : Value) (t : List Cl) (ht : TabR S2 w vt t) (hm : ids.length ≤ 1000000) (hmt : t.length ≤ 1000000) :
    Calls Tryz.prog 8 #[va, vt] w (QuickP w (quickD ids t)) := by
  obtain ⟨oi, ci, rfl⟩ : ∃ o c, va = .slice o ids.length c := by obtain ⟨⟨o, c, e, _⟩, _⟩ := h; rw [digC_size] at e; exact ⟨o, c, e⟩
  obtain ⟨ot, ct, rfl⟩ : ∃ o c, vt = .slice o t.length c := by obtain ⟨⟨o, c, e, _⟩, _⟩ := ht; rw [tabC_size] at e; exact ⟨o, c, e⟩
  have Hasc := Lib.hid (rf_ascending w _ ids h hm)
  have HI := Lib.hid h
  have HT := Lib.hid ht
  clear h ht
  go_enter Tryz.func8, Tryz.ntmps8
  cases ha : ascB ids
  · rw [ha] at Hasc
    have Hres : Hid (quickD ids t = ([], [], false)) := Lib.hid (by unfold quickD; rw [ha]; rfl)
    go_wp2_with fail
    refine Hasc.out.mono ?_
    rintro e WW ⟨rfl, hBW⟩
    have nb : ∀ W : World, Below w.heap.size w W → QuickP w ([], [], false) (.returned (.tuple #[.slice (some ⟨W.heap.size, 0, none⟩) 0 0, .slice (some ⟨W.heap.size + 1, 0, none⟩) 0 0, .bool false])) ((W.alloc (.cells #[] 39)).alloc (.cells #[] 39)) := by
      intro W hW
      have x0 := (Bx.new W #[] 39).alloc (.cells #[] 39)
      have x1 := Bx.newAt (W.alloc (.cells #[] 39)) #[] 39 (W.heap.size + 1) (by simp)
      have hs := hW.size
      refine ⟨_, _, rfl, (DigR.owns (l := []) (ownsRow_bx0 (base := w.heap.size) (size := 32) x0 hs) fun _ h => by cases h).mono fun q hq => hq, (DigR.owns (l := []) (ownsRow_bx0 (base := w.heap.size) (size := 32) x1 (by omega)) fun _ h => by cases h).mono fun q hq => hq, (hW.alloc hs _).alloc (by simp; omega) _⟩
    have Nb := Lib.hid nb
    clear nb
    go_wp2
    rw [Hres.out]
    refine bodyPost_ret (v := .tuple #[.slice (some ⟨WW.heap.size, 0, none⟩) 0 0, .slice (some ⟨WW.heap.size + 1, 0, none⟩) 0 0, .bool false]) (by simp [results, Tryz.results8, go_sem]) rfl ?_
    exact Nb.out _ hBW
  · rw [ha] at Hasc
    go_wp2_with fail
    refine Hasc.out.mono ?_
    rintro e w1 ⟨rfl, hb1⟩
    have Hof := Lib.hid (ref47_Of w1 _ t.length ids (HI.out.below hb1) hm)
    clear Hasc
    go_wp2_with fail
    refine Hof.out.mono ?_
    rintro e WW ⟨v2, rfl, h2, hb2⟩
    have hBW := Below.then hb1 hb2 hb1.size
    cases he1 : ((ofT t.length ids).2 != 0)
    · have z1 : (ofT t.length ids).2 = 0 := by simpa using he1
      have Hsm : Hid ((ofT t.length ids).1.length ≤ 1000000) := Lib.hid (by
        unfold ofT
        split
        · rename_i hq; rw [ofFold_len, newT_len hq]; omega
        · simp)
      obtain ⟨w2, rfl⟩ : ∃ x, x = WW := ⟨_, rfl⟩
      have hB2 := hBW
      have Hsub := Lib.hid (ref47_Subtract (S := fun _ => True) w2 _ _ _ t (h2.mono fun _ _ => trivial) (((HT.out.below hb1).below hb2).mono fun _ _ => trivial) Hsm.out hmt)
      clear h2 hb2 hBW
      rw [z1]
      go_wp2_with fail
      refine Hsub.out.mono ?_
      rintro e WW ⟨v3, rfl, h3, hb3⟩
      have hBW := Below.then hB2 hb3 hB2.size
      cases he2 : ((subT (ofT t.length ids).1 t).2 != 0)
      · have z2 : (subT (ofT t.length ids).1 t).2 = 0 := by simpa using he2
        have Hls : Hid ((subT (ofT t.length ids).1 t).1.length ≤ 1000000) := Lib.hid (subT_small2 Hsm.out)
        have Hpl := Lib.hid (ref47_Peel WW _ _ h3 Hls.out)
        have hq : quickD ids t = if (peelT (subT (ofT t.length ids).1 t).1).2.2 then ((peelT (subT (ofT t.length ids).1 t).1).2.1, (peelT (subT (ofT t.length ids).1 t).1).1, true) else ([], [], false) := by
          unfold quickD
          rw [if_pos ha, if_pos z1, if_pos z2]
        have Hq := Lib.hid hq
        obtain ⟨w3, rfl⟩ : ∃ x, x = WW := ⟨_, rfl⟩
        have hB3 := hBW
        clear hq h3 hb3 Hsub Hof he1 he2 z1 hBW
        rw [z2]
        clear z2
        generalize peelT (subT (ofT t.length ids).1 t).1 = x at *
        obtain ⟨p, m, b⟩ := x
        go_wp2_with fail
        refine Hpl.out.mono ?_
        rintro e WW ⟨vp, vm, he, hP, hM, hb4⟩
        have he' : e = .returned (.tuple #[vp, vm, .bool b]) := he
        clear he
        subst he'
        have hBW := Below.then hB3 hb4 hB3.size
        cases b
        · have Hres : Hid (quickD ids t = ([], [], false)) := Lib.hid (by rw [Hq.out]; rfl)
          clear Hpl Hq
          have nb : ∀ W : World, Below w.heap.size w W → QuickP w ([], [], false) (.returned (.tuple #[.slice (some ⟨W.heap.size, 0, none⟩) 0 0, .slice (some ⟨W.heap.size + 1, 0, none⟩) 0 0, .bool false])) ((W.alloc (.cells #[] 39)).alloc (.cells #[] 39)) := by
            intro W hW
            have x0 := (Bx.new W #[] 39).alloc (.cells #[] 39)
            have x1 := Bx.newAt (W.alloc (.cells #[] 39)) #[] 39 (W.heap.size + 1) (by simp)
            have hs := hW.size
            refine ⟨_, _, rfl, (DigR.owns (l := []) (ownsRow_bx0 (base := w.heap.size) (size := 32) x0 hs) fun _ h => by cases h).mono fun q hq => hq, (DigR.owns (l := []) (ownsRow_bx0 (base := w.heap.size) (size := 32) x1 (by omega)) fun _ h => by cases h).mono fun q hq => hq, (hW.alloc hs _).alloc (by simp; omega) _⟩
          have Nb := Lib.hid nb
          clear nb
          go_wp2
          rw [Hres.out]
          refine bodyPost_ret (v := .tuple #[.slice (some ⟨WW.heap.size, 0, none⟩) 0 0, .slice (some ⟨WW.heap.size + 1, 0, none⟩) 0 0, .bool false]) (by simp [results, Tryz.results8, go_sem]) rfl ?_
          exact Nb.out _ hBW
        · have Hres : Hid (quickD ids t = (m, p, true)) := Lib.hid (by rw [Hq.out]; rfl)
          clear Hpl Hq
          have hz := hB3.size
          go_wp2
          rw [Hres.out]
          exact bodyPost_ret (v := .tuple #[vm, vp, .bool true]) (by simp [results, Tryz.results8, go_sem]) rfl ⟨_, _, rfl, hM.mono fun q hq => ⟨by omega, hq.2⟩, hP.mono fun q hq => ⟨by omega, hq.2⟩, hBW⟩
      · have Hres : Hid (quickD ids t = ([], [], false)) := Lib.hid (by
          unfold quickD
          rw [if_pos ha, if_pos z1, if_neg (by simpa using he2)])
        clear Hsub Hof h3
        generalize (subT (ofT t.length ids).1 t).2 = x at *
        have nb : ∀ W : World, Below w.heap.size w W → QuickP w ([], [], false) (.returned (.tuple #[.slice (some ⟨W.heap.size, 0, none⟩) 0 0, .slice (some ⟨W.heap.size + 1, 0, none⟩) 0 0, .bool false])) ((W.alloc (.cells #[] 39)).alloc (.cells #[] 39)) := by
          intro W hW
          have x0 := (Bx.new W #[] 39).alloc (.cells #[] 39)
          have x1 := Bx.newAt (W.alloc (.cells #[] 39)) #[] 39 (W.heap.size + 1) (by simp)
          have hs := hW.size
          refine ⟨_, _, rfl, (DigR.owns (l := []) (ownsRow_bx0 (base := w.heap.size) (size := 32) x0 hs) fun _ h => by cases h).mono fun q hq => hq, (DigR.owns (l := []) (ownsRow_bx0 (base := w.heap.size) (size := 32) x1 (by omega)) fun _ h => by cases h).mono fun q hq => hq, (hW.alloc hs _).alloc (by simp; omega) _⟩
        have Nb := Lib.hid nb
        clear nb
        go_wp2
        rw [Hres.out]
        refine bodyPost_ret (v := .tuple #[.slice (some ⟨WW.heap.size, 0, none⟩) 0 0, .slice (some ⟨WW.heap.size + 1, 0, none⟩) 0 0, .bool false]) (by simp [results, Tryz.results8, go_sem]) rfl ?_
        exact Nb.out _ hBW
    · have Hres : Hid (quickD ids t = ([], [], false)) := Lib.hid (by
        unfold quickD
        rw [if_pos ha, if_neg (by simpa using he1)])
      clear Hof h2
      generalize (ofT t.length ids).2 = x at *
      have nb : ∀ W : World, Below w.heap.size w W → QuickP w ([], [], false) (.returned (.tuple #[.slice (some ⟨W.heap.size, 0, none⟩) 0 0, .slice (some ⟨W.heap.size + 1, 0, none⟩) 0 0, .bool false])) ((W.alloc (.cells #[] 39)).alloc (.cells #[] 39)) := by
        intro W hW
        have x0 := (Bx.new W #[] 39).alloc (.cells #[] 39)
        have x1 := Bx.newAt (W.alloc (.cells #[] 39)) #[] 39 (W.heap.size + 1) (by simp)
        have hs := hW.size
        refine ⟨_, _, rfl, (DigR.owns (l := []) (ownsRow_bx0 (base := w.heap.size) (size := 32) x0 hs) fun _ h => by cases h).mono fun q hq => hq, (DigR.owns (l := []) (ownsRow_bx0 (base := w.heap.size) (size := 32) x1 (by omega)) fun _ h => by cases h).mono fun q hq => hq, (hW.alloc hs _).alloc (by simp; omega) _⟩
      have Nb := Lib.hid nb
      clear nb
      go_wp2
      rw [Hres.out]
      refine bodyPost_ret (v := .tuple #[.slice (some ⟨WW.heap.size, 0, none⟩) 0 0, .slice (some ⟨WW.heap.size + 1, 0, none⟩) 0 0, .bool false]) (by simp [results, Tryz.results8, go_sem]) rfl ?_
      exact Nb.out _ hBW
end Go.Proofs.YtebgopdmeghmhaaGreat
