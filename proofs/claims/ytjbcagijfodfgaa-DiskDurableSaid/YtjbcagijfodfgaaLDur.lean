/- law DiskDurable: the walk. -/
import Derived.Test.YtjbcagijfodfgaaLV
namespace Go.Proofs.Ytjbcagijfodfgaa
open Go.RowKit

theorem durable_key (d : Dsk) (picks : List Int) {F C : Dsk} {ef : Int} (hF : flushD d = (F, ef)) (hC : crashD F picks = C) (he : (ef != 0) = false) :
    F.cache.length ≤ 1000000 ∧ ∀ k, k < d.pages.length → ∃ s, readD d k = (s, 0) ∧ readD C k = (s, 0) := by
  have hc := flush_cases d
  rw [hF] at hc
  rcases hc with ⟨h1, _⟩ | ⟨h1, _⟩ | ⟨h1, g0, _, h2⟩
  · have h1 : ef = 1 := h1; subst h1; cases he
  · have h1 : ef = 18 := h1; subst h1; cases he
  · have h2 : F = ⟨d.size, contentsD d, [], (opD d).left⟩ := h2
    subst h2
    have hcF := flush_chk g0 _ (opD_left (chk_zero g0).2.2.2)
    refine ⟨by simp, fun k hk => ?_⟩
    have hkF : k < (⟨d.size, contentsD d, [], (opD d).left⟩ : Dsk).pages.length := by simpa [contentsD_len] using hk
    have hkC : k < C.pages.length := by rw [← hC, crash_len hcF]; exact hkF
    refine ⟨contentD d k hk, readD_ok g0 hk, ?_⟩
    have hcC : chk C = 0 := by rw [← hC]; exact crash_chk hcF picks
    rw [readD_ok hcC hkC]
    subst hC
    rw [content_crash hcF picks hkC]
    congr 1
    have := content_flush hk _ (rfl : (⟨d.size, contentsD d, [], (opD d).left⟩ : Dsk) = _) hkF
    rw [← this]
    rfl

set_option maxRecDepth 100000 in
set_option maxHeartbeats 4000000 in
theorem law40_durable (w : World) (d : Dsk) (v : Value) (hD : DskV w v d) (picks : List Int) (qo : Option Addr) (qc : Nat) (hq : IntsAt (· < w.heap.size) w qo picks) (hql : picks.length * 8 ≤ 140737488351232) (_hw : ∀ x ∈ picks, -9223372036854775808 ≤ x ∧ x ≤ 9223372036854775807) :
    Calls Try.prog 8 #[v, .slice qo picks.length qc] w fun e w' => e = .returned (.bool true) ∧ Below w.heap.size w w' := by
  have hD0 := hD
  obtain ⟨po, pc, co, cc, rfl⟩ := hD.agg
  have okp : d.pages.length ≤ 140737488351232 := by obtain ⟨_, _, _, _, _, _, _, ok⟩ := hD; exact ok.pages
  clear hD
  cases hg : greatW d.pages d.cache
  · cases hl : decide ((30 : Int) < (picks.length : Int))
    · have hl' := of_decide_eq_false hl
      obtain ⟨F, ef, hF⟩ : ∃ F ef, flushD d = (F, ef) := ⟨_, _, rfl⟩
      obtain ⟨C, hC⟩ : ∃ C, crashD F picks = C := ⟨_, rfl⟩
      have HK := Lib.hid (durable_key d picks hF hC)
      have hFh := Lib.hid hF
      have hCh := Lib.hid hC
      clear hF hC
      cases he : (ef != 0)
      · have HK' := Lib.hid (HK.out he)
        have hn := HK'.out.1
        clear HK
        go_enter Try.func8, Try.ntmps8
        go_wp2_with fail
        refine (v_great d _ _ (hD0.below (Below.one _ _)) hg).mono ?_
        rintro e w1 ⟨rfl, hb1⟩
        have x1 := (Bx.new w _ _).belowAll hb1
        have hB1 : Below w.heap.size w w1 := Below.then (Below.one _ _) hb1 (by simp)
        have z1 := hB1.size
        have cX := x1.cell
        have lX := x1.lt
        go_wp2_with fail
        refine (v_flush d _ _ (hD0.below hB1) hFh.out).mono ?_
        rintro e w2 ⟨v2, rfl, hN2, hb2⟩
        have x2 := x1.belowAll hb2
        have hB2 := Below.then hB1 hb2 z1
        have z2 := hB2.size
        clear x1 cX lX
        have hM2 := hN2
        obtain ⟨po2, pc2, co2, cc2, rfl⟩ := hN2.agg
        have cX := x2.cell
        have lX := x2.lt
        go_wp2_with fail
        refine (v_crash F _ picks qo qc _ (hM2.below (Below.one _ _)) ((hq.below hB2).below (Below.one _ _)) (by omega) hn hCh.out).mono ?_
        rintro e w3 ⟨v3, rfl, hN3, hb3⟩
        have x3 := (x2.alloc _).belowAll hb3
        have hB3 := Below.then (hB2.alloc z2 _) hb3 (by simp; omega)
        have z3 := hB3.size
        clear x2 cX lX hM2 hN2
        have hM3 := hN3
        obtain ⟨po3, pc3, co3, cc3, rfl⟩ := hN3.agg
        have cX := x3.cell
        have lX := x3.lt
        go_wp2
        have x4 := x3.alloc (.cells #[.int .i64 C.size, .slice po3 C.pages.length pc3, .slice co3 C.cache.length cc3, .int .i64 C.left] 25)
        have f4 := Bx.new w3 #[.int .i64 C.size, .slice po3 C.pages.length pc3, .slice co3 C.cache.length cc3, .int .i64 C.left] 25
        have hF4 := hM3.below (Below.one w3 (.cells #[.int .i64 C.size, .slice po3 C.pages.length pc3, .slice co3 C.cache.length cc3, .int .i64 C.left] 25))
        have hB4 := hB3.alloc z3 (.cells #[.int .i64 C.size, .slice po3 C.pages.length pc3, .slice co3 C.cache.length cc3, .int .i64 C.left] 25)
        clear x3 cX lX hM3 hN3
        generalize (w3.alloc (.cells #[.int .i64 C.size, .slice po3 C.pages.length pc3, .slice co3 C.cache.length cc3, .int .i64 C.left] 25)) = w4 at *
        go_loopw [35] (fun t wr => ∃ k : Nat, k ≤ d.pages.length ∧ t = .int .i64 k ∧ Below w.heap.size w wr ∧
          Bx wr w.heap.size #[.int .i64 d.size, .slice po d.pages.length pc, .slice co d.cache.length cc, .int .i64 d.left] 25 ∧
          Bx wr w3.heap.size #[.int .i64 C.size, .slice po3 C.pages.length pc3, .slice co3 C.cache.length cc3, .int .i64 C.left] 25 ∧
          DskV wr (.agg #[.int .i64 C.size, .slice po3 C.pages.length pc3, .slice co3 C.cache.length cc3, .int .i64 C.left]) C) (fun t _ => d.pages.length - (intOf t).toNat)
        case atStart => exact ⟨0, Nat.zero_le _, rfl, hB4, x4, f4, hF4⟩
        case round =>
          clear x4 f4 hF4 hB4
          obtain ⟨k, hk, rfl, hb, xX, xF, hF⟩ := hrel
          have hz := hb.size
          by_cases hlt : k < d.pages.length
          · obtain ⟨s, e1, e2⟩ := HK'.out.2 k hlt
            have cX := xX.cell
            have cF := xF.cell
            have lX := xX.lt
            have lF := xF.lt
            have E1 := Lib.hid e1
            have E2 := Lib.hid e2
            clear e1 e2
            go_wp2_with fail
            refine (v_read d _ k _ (hD0.below hb) E1.out).mono ?_
            rintro e r1 ⟨rfl, hr1⟩
            obtain ⟨q1, _⟩ := bcell hr1
            go_wp2_with fail
            refine (v_read C _ k _ (hF.below hr1) E2.out).mono ?_
            rintro e r2 ⟨rfl, hr2⟩
            have hr2 := Below.then hr1 hr2 hr1.size
            go_wp2
            go_roundw
            case rel => exact ⟨k + 1, by omega, by go_num, Below.then hb hr2 hz, xX.belowAll hr2, xF.belowAll hr2, hF.below hr2⟩
            case measure => simp [intOf]; omega
          · go_wp2_with fail
            refine (law40_awake _).mono ?_
            rintro e w9 ⟨rfl, hb9⟩
            go_wp2
            go_ret
            exact ⟨rfl, Below.then hb hb9 hz⟩
      · clear HK hCh
        go_enter Try.func8, Try.ntmps8
        go_wp2_with fail
        refine (v_great d _ _ (hD0.below (Below.one _ _)) hg).mono ?_
        rintro e w1 ⟨rfl, hb1⟩
        have x1 := (Bx.new w _ _).belowAll hb1
        have hB1 : Below w.heap.size w w1 := Below.then (Below.one _ _) hb1 (by simp)
        have z1 := hB1.size
        have cX := x1.cell
        have lX := x1.lt
        go_wp2_with fail
        refine (v_flush d _ _ (hD0.below hB1) hFh.out).mono ?_
        rintro e w2 ⟨v2, rfl, hN2, hb2⟩
        have hB2 := Below.then hB1 hb2 z1
        have z2 := hB2.size
        obtain ⟨po2, pc2, co2, cc2, rfl⟩ := hN2.agg
        go_wp2_with fail
        refine (law40_awake _).mono ?_
        rintro e w3 ⟨rfl, hb3⟩
        go_wp2
        go_ret
        exact ⟨rfl, Below.then (hB2.alloc z2 _) hb3 (by simp; omega)⟩
    · go_enter Try.func8, Try.ntmps8
      go_wp2_with fail
      refine (v_great d _ _ (hD0.below (Below.one _ _)) hg).mono ?_
      rintro e w1 ⟨rfl, hb1⟩
      go_wp2_with fail
      refine (law40_awake _).mono ?_
      rintro e w2 ⟨rfl, hb2⟩
      go_wp2
      go_ret
      exact ⟨rfl, Below.then (Below.then (Below.one _ _) hb1 (by simp)) hb2 (by have := hb1.size; simp at this; omega)⟩
  · go_enter Try.func8, Try.ntmps8
    go_wp2_with fail
    refine (v_great d _ _ (hD0.below (Below.one _ _)) hg).mono ?_
    rintro e w1 ⟨rfl, hb1⟩
    go_wp2_with fail
    refine (law40_awake _).mono ?_
    rintro e w2 ⟨rfl, hb2⟩
    go_wp2
    go_ret
    exact ⟨rfl, Below.then (Below.then (Below.one _ _) hb1 (by simp)) hb2 (by have := hb1.size; simp at this; omega)⟩
end Go.Proofs.Ytjbcagijfodfgaa
