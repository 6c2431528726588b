/- law DiskContents: the walk. -/
import Derived.Test.YtjbcagijfodfgaaLV
namespace Go.Proofs.Ytjbcagijfodfgaa
open Go.RowKit

theorem int_tests {a b : Int} {c : Bool} (h : (a == b) = c) : (a != b) = !c := by simp [bne, h]
/-- what the reads of one round give -/
theorem contents_key (d : Dsk) (i : Int) (data : ByteArray) {A F : Dsk} {ea ef : Int} (hA : writeD d i data = (A, ea)) (hF : flushD d = (F, ef)) (k : Nat) (hk : k < d.pages.length) :
    ∃ s h a j b l, readD d k = (s, h) ∧ readD A k = (a, j) ∧ readD F k = (b, l) ∧
      ((ea == 0) = false ∨ ((ea == 0) = true ∧ h = 0 ∧ j = 0 ∧ (((k : Int) == i) = true ∧ a = data ∨ ((k : Int) == i) = false ∧ a = s))) ∧ ((ef == 0) = false ∨ ((ef == 0) = true ∧ h = 0 ∧ l = 0 ∧ b = s)) := by
  refine ⟨(readD d k).1, (readD d k).2, (readD A k).1, (readD A k).2, (readD F k).1, (readD F k).2, rfl, rfl, rfl, ?_, ?_⟩
  · have hc := write_cases d i data
    rw [hA] at hc
    rcases hc with ⟨h1, _⟩ | ⟨g0, g1, g2, g3, ⟨h1, _⟩ | ⟨h1, g4, h2⟩⟩
    · left; simpa using h1
    · left; have : ea = 18 := h1; simp [this]
    · right
      have h1 : ea = 0 := h1
      have h2 : A = _ := h2
      have hcA : chk A = 0 := by rw [h2]; exact write_chk g0 g1 g2 g3
      have hkA : k < A.pages.length := by rw [h2]; exact hk
      rw [readD_ok g0 hk, readD_ok hcA hkA, content_write hk A h2 hkA]
      refine ⟨by simp [h1], rfl, rfl, ?_⟩
      by_cases e : i = k
      · left; simp [e]
      · right
        rw [if_neg e]
        refine ⟨?_, rfl⟩
        rw [beq_eq_false_iff_ne]; exact fun h => e h.symm
  · have hc := flush_cases d
    rw [hF] at hc
    rcases hc with ⟨h1, _⟩ | ⟨h1, _⟩ | ⟨h1, g0, _, h2⟩
    · left; have : ef = 1 := h1; simp [this]
    · left; have : ef = 18 := h1; simp [this]
    · right
      have h1 : ef = 0 := h1
      have h2 : F = _ := h2
      have hcF : chk F = 0 := by rw [h2]; exact flush_chk g0 _ (opD_left (chk_zero g0).2.2.2)
      have hkF : k < F.pages.length := by rw [h2]; simpa [contentsD_len] using hk
      rw [readD_ok g0 hk, readD_ok hcF hkF, content_flush hk F h2 hkF]
      exact ⟨by simp [h1], rfl, rfl, rfl⟩

set_option maxRecDepth 100000 in
set_option maxHeartbeats 4000000 in
theorem law40_contents (w : World) (d : Dsk) (v : Value) (hD : DskV w v d) (i : Int) (data : ByteArray) (hd : data.size ≤ 140737488351232) :
    Calls Try.prog 7 #[v, .int .i64 i, .string data] w fun e w' => e = .returned (.bool true) ∧ Below w.heap.size w w' := by
  have hD0 := hD
  obtain ⟨po, pc, co, cc, rfl⟩ := hD.agg
  have okp : d.pages.length ≤ 140737488351232 := by obtain ⟨_, _, _, _, _, _, _, ok⟩ := hD; exact ok.pages
  clear hD
  cases hg : greatW d.pages d.cache
  · cases hl : decide ((600 : Int) < (data.size : Int))
    · have hn := (great_false hg).2
      obtain ⟨A, ea, hA⟩ : ∃ A ea, writeD d i data = (A, ea) := ⟨_, _, rfl⟩
      obtain ⟨F, ef, hF⟩ : ∃ F ef, flushD d = (F, ef) := ⟨_, _, rfl⟩
      have HK := Lib.hid (contents_key d i data hA hF)
      have hAh := Lib.hid hA
      have hFh := Lib.hid hF
      clear hA hF
      go_enter Try.func7, Try.ntmps7
      go_wp2_with fail
      refine (v_great d _ _ (hD0.below (Below.one _ _)) hg).mono ?_
      rintro e w1 ⟨rfl, hb1⟩
      have x1 := (Bx.new w _ _).belowAll hb1
      have hB1 : Below w.heap.size w w1 := Below.then (Below.one _ _) hb1 (by simp)
      have z1 := hB1.size
      have cX := x1.cell
      have lX := x1.lt
      go_wp2_with fail
      refine (v_write d _ i data _ (hD0.below hB1) hd (by omega) hAh.out).mono ?_
      rintro e w2 ⟨v2, rfl, hN2, hb2⟩
      have x2 := x1.belowAll hb2
      have hB2 := Below.then hB1 hb2 z1
      have z2 := hB2.size
      clear x1 cX lX
      have hM2 := hN2
      obtain ⟨po2, pc2, co2, cc2, rfl⟩ := hN2.agg
      have cX := x2.cell
      have lX := x2.lt
      go_wp2_with fail
      refine (v_flush d _ _ ((hD0.below hB2).below (Below.one _ _)) hFh.out).mono ?_
      rintro e w3 ⟨v3, rfl, hN3, hb3⟩
      have x3 := (x2.alloc _).belowAll hb3
      have a3 := (Bx.new w2 _ _).belowAll hb3
      have hB3 := Below.then (hB2.alloc z2 _) hb3 (by simp; omega)
      have z3 := hB3.size
      have hA3 := (hM2.below (Below.one _ _)).below hb3
      clear x2 cX lX hM2 hN2
      have hM3 := hN3
      obtain ⟨po3, pc3, co3, cc3, rfl⟩ := hN3.agg
      have cX := x3.cell
      have lX := x3.lt
      go_wp2
      have x4 := x3.alloc (.cells #[.int .i64 F.size, .slice po3 F.pages.length pc3, .slice co3 F.cache.length cc3, .int .i64 F.left] 25)
      have a4 := a3.alloc (.cells #[.int .i64 F.size, .slice po3 F.pages.length pc3, .slice co3 F.cache.length cc3, .int .i64 F.left] 25)
      have f4 := Bx.new w3 #[.int .i64 F.size, .slice po3 F.pages.length pc3, .slice co3 F.cache.length cc3, .int .i64 F.left] 25
      have hA4 := hA3.below (Below.one w3 (.cells #[.int .i64 F.size, .slice po3 F.pages.length pc3, .slice co3 F.cache.length cc3, .int .i64 F.left] 25))
      have hF4 := hM3.below (Below.one w3 (.cells #[.int .i64 F.size, .slice po3 F.pages.length pc3, .slice co3 F.cache.length cc3, .int .i64 F.left] 25))
      have hB4 := hB3.alloc z3 (.cells #[.int .i64 F.size, .slice po3 F.pages.length pc3, .slice co3 F.cache.length cc3, .int .i64 F.left] 25)
      clear x3 a3 cX lX hM3 hN3 hA3
      generalize (w3.alloc (.cells #[.int .i64 F.size, .slice po3 F.pages.length pc3, .slice co3 F.cache.length cc3, .int .i64 F.left] 25)) = w4 at *
      go_loopw [41] (fun t wr => ∃ k : Nat, k ≤ d.pages.length ∧ t = .int .i64 k ∧ Below w.heap.size w wr ∧
        Bx wr w.heap.size #[.int .i64 d.size, .slice po d.pages.length pc, .slice co d.cache.length cc, .int .i64 d.left] 25 ∧
        Bx wr w2.heap.size #[.int .i64 A.size, .slice po2 A.pages.length pc2, .slice co2 A.cache.length cc2, .int .i64 A.left] 25 ∧
        Bx wr w3.heap.size #[.int .i64 F.size, .slice po3 F.pages.length pc3, .slice co3 F.cache.length cc3, .int .i64 F.left] 25 ∧
        DskV wr (.agg #[.int .i64 A.size, .slice po2 A.pages.length pc2, .slice co2 A.cache.length cc2, .int .i64 A.left]) A ∧
        DskV wr (.agg #[.int .i64 F.size, .slice po3 F.pages.length pc3, .slice co3 F.cache.length cc3, .int .i64 F.left]) F) (fun t _ => d.pages.length - (intOf t).toNat)
      case atStart => exact ⟨0, Nat.zero_le _, rfl, hB4, x4, a4, f4, hA4, hF4⟩
      case round =>
        clear x4 a4 f4 hA4 hF4 hB4
        obtain ⟨k, hk, rfl, hb, xX, xA, xF, hA, hF⟩ := hrel
        have hz := hb.size
        by_cases hlt : k < d.pages.length
        · obtain ⟨s, h, a, j, b, l, e1, e2, e3, T1, T2⟩ := HK.out k hlt
          have cX := xX.cell
          have cA := xA.cell
          have cF := xF.cell
          have lX := xX.lt
          have lA := xA.lt
          have lF := xF.lt
          rcases T1 with c1 | ⟨c1, rfl, rfl, ⟨g, rfl⟩ | ⟨g, rfl⟩⟩ <;> rcases T2 with c2 | ⟨c2, hh, rfl, rfl⟩
          all_goals
            (try first | subst hh | clear hh)
            (try have g' := int_tests g)
            have E1 := Lib.hid e1
            have E2 := Lib.hid e2
            have E3 := Lib.hid e3
            clear e1 e2 e3
            go_wp2_with fail
            refine (v_read d _ k _ (hD0.below hb) E1.out).mono ?_
            rintro e r1 ⟨rfl, hr1⟩
            obtain ⟨q1, _⟩ := bcell hr1
            go_wp2_with fail
            refine (v_read A _ k _ (hA.below hr1) E2.out).mono ?_
            rintro e r2 ⟨rfl, hr2⟩
            have hr2 := Below.then hr1 hr2 hr1.size
            obtain ⟨q2, _⟩ := bcell hr2
            go_wp2_with fail
            refine (v_read F _ k _ (hF.below hr2) E3.out).mono ?_
            rintro e r3 ⟨rfl, hr3⟩
            have hr3 := Below.then hr2 hr3 hr2.size
            go_wp2
            go_roundw
            case rel => exact ⟨k + 1, by omega, by go_num, Below.then hb hr3 hz, xX.belowAll hr3, xA.belowAll hr3, xF.belowAll hr3, hA.below hr3, hF.below hr3⟩
            case measure => simp [intOf]; omega
        · go_wp2_with fail
          refine (law40_awake _).mono ?_
          rintro e w9 ⟨rfl, hb9⟩
          go_wp2
          go_ret
          exact ⟨rfl, Below.then hb hb9 hz⟩
    · go_enter Try.func7, Try.ntmps7
      go_wp2_with fail
      refine (v_great d _ _ (hD0.below (Below.one _ _)) hg).mono ?_
      rintro e w1 ⟨rfl, hb1⟩
      go_wp2_with fail
      refine (law40_awake _).mono ?_
      rintro e w2 ⟨rfl, hb2⟩
      go_wp2
      go_ret
      exact ⟨rfl, Below.then (Below.then (Below.one _ _) hb1 (by simp)) hb2 (by have := hb1.size; simp at this; omega)⟩
  · go_enter Try.func7, Try.ntmps7
    go_wp2_with fail
    refine (v_great d _ _ (hD0.below (Below.one _ _)) hg).mono ?_
    rintro e w1 ⟨rfl, hb1⟩
    go_wp2_with fail
    refine (law40_awake _).mono ?_
    rintro e w2 ⟨rfl, hb2⟩
    go_wp2
    go_ret
    exact ⟨rfl, Below.then (Below.then (Below.one _ _) hb1 (by simp)) hb2 (by have := hb1.size; simp at this; omega)⟩
end Go.Proofs.Ytjbcagijfodfgaa
