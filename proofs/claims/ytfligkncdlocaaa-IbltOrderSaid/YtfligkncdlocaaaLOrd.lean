/- law IbltOrder: the walk; its argument of three lists, opened. -/
import Derived.Test.YtfligkncdlocaaaSlCat
import Derived.Test.YtfligkncdlocaaaIbOpen
namespace Go.Proofs.Ytfligkncdlocaaa
open Go.RowKit Go.ChangeShapes Go.WideShapes

section
variable {H : Type} {enc : TypeId × Value → H} {W : World} {base : Nat} {sp : Nat → Bool} {held : Bool}
set_option maxRecDepth 100000 in
/-- three lists of digests -/
theorem open_digs3 {r : Reach} {b0 : Nat} {v : Value} {d : DataW H} {p : List MemPlace} (hv : Value.okWide Try.prog W r b0 46 v) (h : DataW.Trod enc Try.prog W base sp held 46 v d p) (hw : ∀ k ∈ d.weights Try.prog 46, k ≤ reachBytes) :
    ∃ (va vb vc : Value) (a b c : List (List UInt8)), v = .agg #[va, vb, vc] ∧ DigR (· < W.heap.size) W va a ∧ DigR (· < W.heap.size) W vb b ∧ DigR (· < W.heap.size) W vc c := by
  obtain ⟨cs, rfl, _⟩ := okWide_array Try.underlying46 hv
  obtain ⟨fuel, hf⟩ := h
  obtain ⟨xs, m, _, hx, hl, hx3, hall⟩ := DataW.trod_array Try.underlying46 hf
  rw [cellsOf_ds] at hall
  have hl3 : cs.toList.length = 3 := by
    have e : Try.prog.cellsOf 46 = 3 := by kernel_rfl
    rw [e] at hl
    simpa [Value.cells] using hl
  obtain ⟨va, vb, vc, e3⟩ : ∃ va vb vc, cs.toList = [va, vb, vc] := by
    match cs.toList, hl3 with
    | [x, y, z], _ => exact ⟨x, y, z, rfl⟩
  have ecs : cs = #[va, vb, vc] := by rw [← Array.toArray_toList (xs := cs), e3]
  subst ecs
  match xs, hx3 with
  | [x0, x1, x2], _ =>
    obtain ⟨rfl, _⟩ := Prod.mk.inj hx
    have hw3 : ∀ x ∈ [x0, x1, x2], ∀ k ∈ x.1.weights Try.prog 25, k ≤ reachBytes := by
      intro x hx k hk
      refine hw k ?_
      unfold DataW.weights
      rw [Try.underlying46]
      simp only [List.map_cons, List.map_nil, DataW.weightsAll, List.append_nil, List.mem_append]
      simp only [List.mem_cons, List.not_mem_nil, or_false] at hx
      rcases hx with rfl | rfl | rfl
      · exact .inl hk
      · exact .inr (.inl hk)
      · exact .inr (.inr hk)
    have one : ∀ (q : Value) (x : DataW H × List MemPlace), DataW.trod enc Try.prog W base sp held m 25 [q] = some x → (∀ k ∈ x.1.weights Try.prog 25, k ≤ reachBytes) → ∃ l, DigR (· < W.heap.size) W q l := by
      intro q x hq hwq
      obtain ⟨o, l, c, e, hs, hr, hok, _⟩ := open_rows (X := List UInt8) (ok := fun d => d.length = 32) (en := bytesV) Try.underlying25 cellsOf_dg (by decide) bytes_dg (fun x hx => by rw [bytesV_len]; exact hx) (fun n cs y h => trod_dg h) hq hwq
      obtain rfl : q = .slice o l.length c := by simpa using e
      exact ⟨l, ⟨⟨o, c, by rw [digC_size], by rw [digC_size]; exact hs, hr⟩, hok⟩⟩
    obtain ⟨a, ha⟩ := one va x0 (hall 0 (by decide)) (hw3 x0 (by simp))
    obtain ⟨b, hb⟩ := one vb x1 (hall 1 (by decide)) (hw3 x1 (by simp))
    obtain ⟨c, hc⟩ := one vc x2 (hall 2 (by decide)) (hw3 x2 (by simp))
    exact ⟨va, vb, vc, a, b, c, rfl, ha, hb, hc⟩
end
theorem of_ok {S : Nat → Prop} (w : World) (v : Value) (n : Int) (l : List (List UInt8)) (hn : allowedB n = true) (h : DigR S w v l) (hl : l.length ≤ 1000000) :
    Calls Try.prog 21 #[.int .i64 n, v] w fun e w' => ∃ x, e = .returned (.tuple #[x, .int .i64 0]) ∧ TabR (fun _ => True) w' x (ofFold (newT n) l) ∧ Below w.heap.size w w' := by
  have hp := iblt_Of w v n l h hl
  unfold ofT at hp
  rw [if_pos hn] at hp
  refine hp.mono ?_
  rintro e w2 ⟨x, he, hV, hb⟩
  exact ⟨x, he, hV.mono fun _ _ => trivial, hb⟩
set_option maxRecDepth 100000 in
set_option maxHeartbeats 4000000 in
theorem law47_order {S1 S2 S3 : Nat → Prop} (w : World) (n : Int) (hn : 0 ≤ n ∧ n ≤ 255) (va vb vc : Value) (a b c : List (List UInt8)) (hA : DigR S1 w va a) (hB0 : DigR S2 w vb b) (hC : DigR S3 w vc c) :
    Calls Try.prog 9 #[.int .u8 n, .agg #[va, vb, vc]] w fun e w' => e = .returned (.bool true) ∧ Below w.heap.size w w' := by
  obtain ⟨oa, ca, rfl⟩ : ∃ o c, va = .slice o a.length c := by obtain ⟨⟨o, c, e, _⟩, _⟩ := hA; rw [digC_size] at e; exact ⟨o, c, e⟩
  obtain ⟨ob, cb, rfl⟩ : ∃ o c, vb = .slice o b.length c := by obtain ⟨⟨o, c, e, _⟩, _⟩ := hB0; rw [digC_size] at e; exact ⟨o, c, e⟩
  obtain ⟨oc, cc, rfl⟩ : ∃ o k, vc = .slice o c.length k := by obtain ⟨⟨o, c, e, _⟩, _⟩ := hC; rw [digC_size] at e; exact ⟨o, c, e⟩
  have hok := sizeN_ok hn
  have hsz := fun W => law47_size n hn W
  have hda := hA.2
  have hdb := hB0.2
  have hdc := hC.2
  have hdac : Dok (a ++ c) := fun x hx => (List.mem_append.1 hx).elim (hda x) (hdc x)
  have hdcb : Dok (c ++ b) := fun x hx => (List.mem_append.1 hx).elim (hdc x) (hdb x)
  have ho1 := order1 hok.1 hda hdc
  have ho2 := order2 hok.1 hda hdb hdc
  have hl1 := subP_len hok.1 a b
  have hl2 := fold_len hok.1 (a ++ c)
  generalize sizeN n = N at hok hsz ho1 ho2 hl1 hl2
  obtain ⟨k, rfl⟩ : ∃ k : Nat, N = k := ⟨N.toNat, by omega⟩
  rw [Int.toNat_natCast] at hl1 hl2
  have Hal := Lib.hid hok.1
  have HN := Lib.hid hok.2
  have Hsz := Lib.hid hsz
  have Ho1 := Lib.hid ho1
  have Ho2 := Lib.hid ho2
  have Hl1 := Lib.hid hl1
  have Hl2 := Lib.hid hl2
  have hb1 : Below w.heap.size w (w.alloc (.cells #[.slice oa a.length ca, .slice ob b.length cb, .slice oc c.length cc] 46)) := Below.one w _
  have HA := Lib.hid ((hA.below hb1).mono (T := fun _ => True) fun _ _ => trivial)
  have HB := Lib.hid ((hB0.below hb1).mono (T := fun _ => True) fun _ _ => trivial)
  have HC := Lib.hid ((hC.below hb1).mono (T := fun _ => True) fun _ _ => trivial)
  have X := Lib.hid (Bx.new w #[.slice oa a.length ca, .slice ob b.length cb, .slice oc c.length cc] 46)
  have hlo : ∀ x y : List (List UInt8), Hid ((x ++ y).length = x.length + y.length) := fun x y => Lib.hid List.length_append
  clear hok hsz ho1 ho2 hl1 hl2 hA hB0 hC hda hdb hdc hdac hdcb
  go_enter Try.func9, Try.ntmps9
  go_wp2
  generalize w.alloc (.cells #[.slice oa a.length ca, .slice ob b.length cb, .slice oc c.length cc] 46) = w1 at *
  have cQ := Lat.cells w1
  have lD := X.out.lt
  have c0 : w1.cell? ⟨w.heap.size, 0, none⟩ = some (.slice oa a.length ca) := by rw [X.out.cell]; rfl
  have c1 : w1.cell? ⟨w.heap.size, 1, none⟩ = some (.slice ob b.length cb) := by rw [X.out.cell]; rfl
  have c2 : w1.cell? ⟨w.heap.size, 2, none⟩ = some (.slice oc c.length cc) := by rw [X.out.cell]; rfl
  refine wp_region_lat (by kernel_rfl) (by kernel_rfl) ?_
  repeat (first | go_big_quiet_skip | (go_big_quiet_want; first | ((fail); simp only [Act.put, List.setIfInBounds_toArray, List.set_cons_zero, List.set_cons_succ]; go_big_quiet_on) | (go_big_quiet_op; first | go_big_quiet_on | go_big_quiet_call ((fail)))))
  refine wpQuiet_nil ?_
  rintro W2 ⟨⟨_, hb2⟩, rfl⟩
  have hB2 := Below.then hb1 hb2 hb1.size
  have HA2 := Lib.hid (HA.out.below hb2)
  have HB2 := Lib.hid (HB.out.below hb2)
  have HC2 := Lib.hid (HC.out.below hb2)
  clear cQ lD c0 c1 c2 hb1 hb2 HA HB HC X
  by_cases hg : 20 < (a.length : Int) ∨ 20 < (b.length : Int) ∨ 20 < (c.length : Int)
  · clear HA2 HB2 HC2
    by_cases h1 : 20 < (a.length : Int)
    · clear hg
      go_wp2_with fail
      refine (law47_awake _).mono ?_
      rintro e w3 ⟨rfl, hb3⟩
      have hB3 := Below.then hB2 hb3 hB2.size
      go_wp2
      go_ret
      exact ⟨rfl, hB3⟩
    · by_cases h2 : 20 < (b.length : Int)
      · clear hg
        go_wp2_with fail
        refine (law47_awake _).mono ?_
        rintro e w3 ⟨rfl, hb3⟩
        have hB3 := Below.then hB2 hb3 hB2.size
        go_wp2
        go_ret
        exact ⟨rfl, hB3⟩
      · have h3 : 20 < (c.length : Int) := by omega
        clear hg
        go_wp2_with fail
        refine (law47_awake _).mono ?_
        rintro e w3 ⟨rfl, hb3⟩
        have hB3 := Below.then hB2 hb3 hB2.size
        go_wp2
        go_ret
        exact ⟨rfl, hB3⟩
  · have h1 : ¬ 20 < (a.length : Int) := by omega
    have h2 : ¬ 20 < (b.length : Int) := by omega
    have h3 : ¬ 20 < (c.length : Int) := by omega
    clear hg
    go_wp2_with fail
    refine (Hsz.out _).mono ?_
    rintro e w3 ⟨rfl, rfl⟩
    go_wp2_with fail
    have hx := Below.one W2 (.cells #[.slice oa a.length ca, .slice oc c.length cc] 25)
    have hc1 := sl_Concat _ W2.heap.size _ _ (Bx.new W2 #[.slice oa a.length ca, .slice oc c.length cc] 25) a c (HA2.out.below hx) (HC2.out.below hx) (by omega) (by omega)
    have hBx := Below.then hB2 hx hB2.size
    have HA3 := Lib.hid (HA2.out.below hx)
    have HB3 := Lib.hid (HB2.out.below hx)
    have HC3 := Lib.hid (HC2.out.below hx)
    clear HA2 HB2 HC2 hx
    refine hc1.mono ?_
    rintro e w3 ⟨v1, rfl, hD1, hb3⟩
    have hB3 := Below.then hBx hb3 hBx.size
    have HA4 := Lib.hid (HA3.out.below hb3)
    have HB4 := Lib.hid (HB3.out.below hb3)
    have HC4 := Lib.hid (HC3.out.below hb3)
    have Hof := Lib.hid (of_ok w3 v1 k (a ++ c) Hal.out hD1 (by have := (hlo a c).out; omega))
    clear hc1 hBx HA3 HB3 HC3 hb3 hD1
    go_wp2_with fail
    refine Hof.out.mono ?_
    rintro e w4 ⟨v2, rfl, hT2, hb4⟩
    have hB4 := Below.then hB3 hb4 hB3.size
    have HA5 := Lib.hid (HA4.out.below hb4)
    have HB5 := Lib.hid (HB4.out.below hb4)
    have HC5 := Lib.hid (HC4.out.below hb4)
    have HT2 := Lib.hid hT2
    clear hT2 hb4 HA4 HB4 HC4 Hof
    go_wp2_with fail
    refine (Hsz.out _).mono ?_
    rintro e w5 ⟨rfl, rfl⟩
    go_wp2_with fail
    have hx := Below.one w4 (.cells #[.slice oc c.length cc, .slice oa a.length ca] 25)
    have hc1 := sl_Concat _ w4.heap.size _ _ (Bx.new w4 #[.slice oc c.length cc, .slice oa a.length ca] 25) c a (HC5.out.below hx) (HA5.out.below hx) (by omega) (by omega)
    have hBx := Below.then hB4 hx hB4.size
    have HA6 := Lib.hid (HA5.out.below hx)
    have HB6 := Lib.hid (HB5.out.below hx)
    have HC6 := Lib.hid (HC5.out.below hx)
    have HT3 := Lib.hid (HT2.out.below hx)
    clear HA5 HB5 HC5 HT2 hx
    refine hc1.mono ?_
    rintro e w6 ⟨v3, rfl, hD3, hb6⟩
    have hB6 := Below.then hBx hb6 hBx.size
    have HA7 := Lib.hid (HA6.out.below hb6)
    have HB7 := Lib.hid (HB6.out.below hb6)
    have HC7 := Lib.hid (HC6.out.below hb6)
    have HT4 := Lib.hid (HT3.out.below hb6)
    have Hof := Lib.hid (of_ok w6 v3 k (c ++ a) Hal.out hD3 (by have := (hlo c a).out; omega))
    rw [← Ho1.out] at Hof
    clear hc1 hBx HA6 HB6 HC6 HT3 hb6 hD3
    go_wp2_with fail
    refine Hof.out.mono ?_
    rintro e w7 ⟨v4, rfl, hT5, hb7⟩
    have hB7 := Below.then hB6 hb7 hB6.size
    have HA8 := Lib.hid (HA7.out.below hb7)
    have HB8 := Lib.hid (HB7.out.below hb7)
    have HC8 := Lib.hid (HC7.out.below hb7)
    have Hsm := Lib.hid (ref47_Same w7 _ _ _ _ (HT4.out.below hb7) hT5 (by have := HN.out; rw [Hl2.out]; omega) (by have := HN.out; rw [Hl2.out]; omega))
    rw [decide_eq_true rfl] at Hsm
    clear hT5 hb7 HA7 HB7 HC7 HT4 Hof
    go_wp2_with fail
    refine Hsm.out.mono ?_
    rintro e w8 ⟨rfl, hb8⟩
    have hB8 := Below.then hB7 hb8 hB7.size
    have HA9 := Lib.hid (HA8.out.below hb8)
    have HB9 := Lib.hid (HB8.out.below hb8)
    have HC9 := Lib.hid (HC8.out.below hb8)
    clear hb8 HA8 HB8 HC8 Hsm
    go_wp2_with fail
    refine (Hsz.out _).mono ?_
    rintro e w9 ⟨rfl, rfl⟩
    have Hsb := Lib.hid (law47_subtract w8 k Hal.out _ a HA9.out (by omega) _ b HB9.out (by omega))
    go_wp2_with fail
    refine Hsb.out.mono ?_
    rintro e w9 ⟨v5, rfl, hT6, hb9⟩
    have hB9 := Below.then hB8 hb9 hB8.size
    obtain ⟨o5, c5, rfl⟩ : ∃ o c, v5 = .slice o k c := by obtain ⟨⟨o, c, e, _⟩, _⟩ := hT6; rw [tabC_size, Hl1.out] at e; exact ⟨o, c, e⟩
    have HA10 := Lib.hid (HA9.out.below hb9)
    have HB10 := Lib.hid (HB9.out.below hb9)
    have HC10 := Lib.hid (HC9.out.below hb9)
    have HT6 := Lib.hid hT6
    clear hT6 hb9 HA9 HB9 HC9 Hsb
    go_wp2_with fail
    refine (Hsz.out _).mono ?_
    rintro e w10 ⟨rfl, rfl⟩
    go_wp2_with fail
    have hx := Below.one w9 (.cells #[.slice oa a.length ca, .slice oc c.length cc] 25)
    have hc1 := sl_Concat _ w9.heap.size _ _ (Bx.new w9 #[.slice oa a.length ca, .slice oc c.length cc] 25) a c (HA10.out.below hx) (HC10.out.below hx) (by omega) (by omega)
    have hBx := Below.then hB9 hx hB9.size
    have HB11 := Lib.hid (HB10.out.below hx)
    have HC11 := Lib.hid (HC10.out.below hx)
    have HT7 := Lib.hid (HT6.out.below hx)
    clear HA10 HB10 HC10 HT6 hx
    refine hc1.mono ?_
    rintro e w11 ⟨v6, rfl, hD6, hb11⟩
    have hB11 := Below.then hBx hb11 hBx.size
    have HB12 := Lib.hid (HB11.out.below hb11)
    have HC12 := Lib.hid (HC11.out.below hb11)
    have HT8 := Lib.hid (HT7.out.below hb11)
    have HD6 := Lib.hid hD6
    clear hc1 hBx HB11 HC11 HT7 hb11 hD6
    go_wp2_with fail
    have hx := Below.one w11 (.cells #[.slice oc c.length cc, .slice ob b.length cb] 25)
    have hc1 := sl_Concat _ w11.heap.size _ _ (Bx.new w11 #[.slice oc c.length cc, .slice ob b.length cb] 25) c b (HC12.out.below hx) (HB12.out.below hx) (by omega) (by omega)
    have hBx := Below.then hB11 hx hB11.size
    have HD7 := Lib.hid (HD6.out.below hx)
    have HT9 := Lib.hid (HT8.out.below hx)
    clear HB12 HC12 HT8 HD6 hx
    refine hc1.mono ?_
    rintro e w12 ⟨v7, rfl, hD8, hb12⟩
    have hB12 := Below.then hBx hb12 hBx.size
    have HT10 := Lib.hid (HT9.out.below hb12)
    have Hsb := Lib.hid (law47_subtract w12 k Hal.out _ (a ++ c) (HD7.out.below hb12) (by have := (hlo a c).out; omega) _ (c ++ b) hD8 (by have := (hlo c b).out; omega))
    rw [← Ho2.out] at Hsb
    clear hc1 hBx HD7 HT9 hb12 hD8
    go_wp2_with fail
    refine Hsb.out.mono ?_
    rintro e w13 ⟨v8, rfl, hT11, hb13⟩
    have hB13 := Below.then hB12 hb13 hB12.size
    have Hsm := Lib.hid (ref47_Same w13 _ _ _ _ (HT10.out.below hb13) hT11 (by have := HN.out; rw [Hl1.out]; omega) (by have := HN.out; rw [Hl1.out]; omega))
    rw [decide_eq_true rfl] at Hsm
    clear HT10 hT11 hb13 Hsb
    go_wp2_with fail
    refine (Hsz.out _).mono ?_
    rintro e w14 ⟨rfl, rfl⟩
    go_wp2_with fail
    refine Hsm.out.mono ?_
    rintro e w14 ⟨rfl, hb14⟩
    have hB14 := Below.then hB13 hb14 hB13.size
    go_wp2_with fail
    refine (law47_awake _).mono ?_
    rintro e w15 ⟨rfl, hb15⟩
    have hB15 := Below.then hB14 hb15 hB14.size
    go_wp2
    go_ret
    exact ⟨rfl, hB15⟩
end Go.Proofs.Ytfligkncdlocaaa
