/- law ReconcileQuick: the walk. -/
import Derived.Test.YtebgopdmeghmhaaRcAwake
import Derived.Test.YtebgopdmeghmhaaRcQuick
namespace Go.Proofs.Ytebgopdmeghmhaa
open Go.RowKit

set_option maxRecDepth 100000 in
set_option maxHeartbeats 4000000 in
theorem law48_quick {S1 S2 : Nat → Prop} (w : World) (vi : Value) (ids : List (List UInt8)) (hI : DigR S1 w vi ids) (_hii : ids.length ≤ 4611686018427387904) (vo : Value) (other : List (List UInt8)) (hO : DigR S2 w vo other) (_hoo : other.length ≤ 4611686018427387904) (n : Int) :
    Calls Try.prog 9 #[vi, vo, .int .i64 n] w fun e w' => e = .returned (.bool true) ∧ Below w.heap.size w w' := by
  obtain ⟨oi, ci, rfl⟩ : ∃ o c, vi = .slice o ids.length c := by obtain ⟨⟨o, c, e, _⟩, _⟩ := hI; rw [digC_size] at e; exact ⟨o, c, e⟩
  obtain ⟨oo, co, rfl⟩ : ∃ o c, vo = .slice o other.length c := by obtain ⟨⟨o, c, e, _⟩, _⟩ := hO; rw [digC_size] at e; exact ⟨o, c, e⟩
  obtain ⟨idg, hidg, hzd, hsd, hbyd⟩ := info_parts infoDg
  have Hi := Lib.hid (And.intro hidg (And.intro hzd (And.intro hsd hbyd)))
  have HI := Lib.hid hI
  have HO := Lib.hid hO
  clear hI hO _hii _hoo hidg hzd hsd hbyd
  go_enter Try.func9, Try.ntmps9
  by_cases h1 : 60 < (ids.length : Int)
  · clear HI HO
    go_wp2_with fail
    refine (law48_awake _).mono ?_
    rintro e w9 ⟨rfl, hb9⟩
    go_wp2
    go_ret
    first | exact ⟨rfl, hb9⟩ | exact ⟨rfl, Below.then hb2 hb9 hb2.size⟩
  · by_cases h2 : 60 < (other.length : Int)
    · clear HI HO
      go_wp2_with fail
      refine (law48_awake _).mono ?_
      rintro e w9 ⟨rfl, hb9⟩
      go_wp2
      go_ret
      first | exact ⟨rfl, hb9⟩ | exact ⟨rfl, Below.then hb2 hb9 hb2.size⟩
    · by_cases h3 : 60 < n
      · clear HI HO
        go_wp2_with fail
        refine (law48_awake _).mono ?_
        rintro e w9 ⟨rfl, hb9⟩
        go_wp2
        go_ret
        first | exact ⟨rfl, hb9⟩ | exact ⟨rfl, Below.then hb2 hb9 hb2.size⟩
      · have Li : Hid (ids.length ≤ 60) := Lib.hid (by omega)
        have Lo : Hid (other.length ≤ 60) := Lib.hid (by omega)
        have Of1 := Lib.hid (iblt_Of w _ n other HO.out (by omega))
        cases hal : allowedB n
        · have e1 : ofT n other = ([], 2) := by unfold ofT; rw [hal]; rfl
          rw [e1] at Of1
          clear e1
          go_wp2_with fail
          refine Of1.out.mono ?_
          rintro e w2 ⟨v2, he, _, hb2⟩
          have he' : e = .returned (.tuple #[v2, .int .i64 2]) := he
          clear he
          subst he'
          clear HI HO
          go_wp2_with fail
          refine (law48_awake _).mono ?_
          rintro e w9 ⟨rfl, hb9⟩
          go_wp2
          go_ret
          first | exact ⟨rfl, hb9⟩ | exact ⟨rfl, Below.then hb2 hb9 hb2.size⟩
        · have e1 : ofT n other = (ofFold (newT n) other, 0) := by unfold ofT; rw [hal]; rfl
          rw [e1] at Of1
          have hn := allowedB_iff.1 hal
          have hln : (ofFold (newT n) other).length ≤ 3000 := by rw [fold_len hal]; omega
          have Hln := Lib.hid hln
          have Ql := Lib.hid (quick_law hal HI.out.2 HO.out.2 Li.out Lo.out)
          have Qf := Lib.hid (quick_fail (ids := ids) (t := ofFold (newT n) other))
          have Qk := Lib.hid fun W v2 S (hW : Below w.heap.size w W) (hT : TabR S W v2 (ofFold (newT n) other)) => rc_Quick W _ ids (HI.out.below hW) v2 _ hT (by have := Li.out; omega) (by omega)
          have Hal := Lib.hid hal
          clear e1 hln hal
          generalize quickD ids (ofFold (newT n) other) = x at *
          obtain ⟨want, give, b⟩ := x
          go_wp2_with fail
          refine Of1.out.mono ?_
          rintro e w2 ⟨v2, he, hT, hb2⟩
          have he' : e = .returned (.tuple #[v2, .int .i64 0]) := he
          clear he
          subst he'
          dsimp only at hT
          have HT := Lib.hid hT
          go_wp2_with fail
          refine (Qk.out w2 _ _ hb2 hT).mono ?_
          rintro e w3 ⟨u, v, he, hu, hv, hb3⟩
          have he' : e = .returned (.tuple #[u, v, .bool b]) := he
          clear he
          subst he'
          have hB3 := Below.then hb2 hb3 hb2.size
          have HT3 := Lib.hid (HT.out.below hb3)
          have HU := Lib.hid hu
          have HV := Lib.hid hv
          clear hT HT Qk Of1 hu hv hb2 hb3 h1 h2 h3
          cases b
          · obtain ⟨hw0, hg0⟩ := Qf.out rfl
            have hw0' : want = [] := hw0
            have hg0' : give = [] := hg0
            subst hw0' hg0'
            obtain ⟨ou, cu, rfl⟩ : ∃ o c, u = .slice o 0 c := by obtain ⟨⟨o, c, e, _⟩, _⟩ := HU.out; exact ⟨o, c, e⟩
            obtain ⟨ov, cv, rfl⟩ : ∃ o c, v = .slice o 0 c := by obtain ⟨⟨o, c, e, _⟩, _⟩ := HV.out; exact ⟨o, c, e⟩
            clear hw0 hg0 Qf Ql HU HV HT3
            go_wp2_with fail
            refine (law48_awake _).mono ?_
            rintro e w9 ⟨rfl, hb9⟩
            go_wp2
            go_ret
            exact ⟨rfl, Below.then hB3 hb9 hB3.size⟩
          · obtain ⟨hd1, hd2, hsub, hl1, hl2⟩ := Ql.out rfl
            have Dw : Hid (Dok want) := Lib.hid hd1
            have Dg : Hid (Dok give) := Lib.hid hd2
            have Sub : Hid (subP n (ids ++ want) give = ofFold (newT n) other) := Lib.hid hsub
            have Lw : Hid (want.length ≤ 50000) := Lib.hid hl1
            have Lg : Hid (give.length ≤ 50000) := Lib.hid hl2
            clear hd1 hd2 hsub hl1 hl2 Ql Qf
            obtain ⟨ou, cu, rfl⟩ : ∃ o c, u = .slice o want.length c := by obtain ⟨⟨o, c, e, _⟩, _⟩ := HU.out; rw [digC_size] at e; exact ⟨o, c, e⟩
            have Ho0 := Lib.hid (ownsRow_bx0 (base := w3.heap.size) (size := 32) (Bx.new w3 #[] 29) (Nat.le_refl _))
            have hb4 : Below w3.heap.size w3 (w3.alloc (.cells #[] 29)) := Below.one w3 _
            have HI3 := Lib.hid (HI.out.below hB3)
            have Hri := Lib.hid (HI3.out.below hb4).row
            have Hfi := Lib.hid (digC_flat HI3.out.2)
            have Hfw := Lib.hid (digC_flat Dw.out)
            go_wp2_with (first
              | (refine wpList_appK rfl (.tmp 59) (.tmp 60) 23 rfl w3.heap.size 29 idg _ 32 32 Try.underlying23 Hi.out.1 Hi.out.2.1 Hi.out.2.2.1 Hi.out.2.2.2 (by simp [Value.cells]) (by decide) (.slice (some ⟨w3.heap.size, 0, none⟩) 0 0) 0 [] rfl Ho0.out oi ids.length ci (digC ids).flatten rfl Hri.out.2 Hfi.out Hri.out.1 (digC_one _) (by have := Li.out; unfold maxLen; omega) (by have := Li.out; omega) (by simp) ?_; intro v7 w7 ho7 hg7 hk7; have hB7 := hb4.grown hg7 hb4.size (fun k e => (Ho0.out.lt k e).1); obtain ⟨o7, n7, c7, rfl⟩ := ownsRow_slice ho7; have Ho7 : Hid (w7.ownsRow w3.heap.size 29 32 (.slice o7 n7 c7) ids.length (digC ids).flatten) := Lib.hid (by simpa using ho7); have Hrw := Lib.hid (HU.out.below hB7).row; have hz7 := hB7.size; clear ho7 hg7 hk7)
              | (refine wpList_appK rfl (.tmp 61) (.tmp 62) 23 rfl w3.heap.size 29 idg _ 32 32 Try.underlying23 Hi.out.1 Hi.out.2.1 Hi.out.2.2.1 Hi.out.2.2.2 (by simp [Value.cells]) (by decide) (.slice o7 n7 c7) ids.length (digC ids).flatten rfl Ho7.out ou want.length cu (digC want).flatten rfl Hrw.out.2 Hfw.out Hrw.out.1 (digC_one _) (by have := Li.out; have := Lw.out; unfold maxLen; omega) (by have := Li.out; have := Lw.out; omega) hz7 ?_; intro v8 w8 ho8 hg8 hk8; have hB8 := hB7.grown hg8 hB7.size (fun k e => (Ho7.out.lt k e).1); have H8 : Hid (DgO w8 w3.heap.size v8 (ids ++ want)) := Lib.hid ⟨by rw [List.length_append, digC_app]; exact ho8, fun d hx => (List.mem_append.1 hx).elim (HI3.out.2 d) (Dw.out d)⟩; clear ho8 hg8 hk8))
            have Of2 := iblt_Of w8 _ n (ids ++ want) H8.out.dig (by rw [List.length_append]; have := Li.out; have := Lw.out; omega)
            rw [show ofT n (ids ++ want) = (ofFold (newT n) (ids ++ want), 0) from by unfold ofT; rw [Hal.out]; rfl] at Of2
            clear hb4 hB7 hz7 Ho0 Ho7 Hri Hrw
            (try go_wp2_with fail)
            refine Of2.mono ?_
            rintro e w10 ⟨v10, he, hT10, hb10⟩
            have he' : e = .returned (.tuple #[v10, .int .i64 0]) := he
            clear he
            subst he'
            have hB10 := Below.then hB8 hb10 hB8.size
            dsimp only at hT10
            have HT10 := Lib.hid hT10
            have Of3 := iblt_Of w10 _ n give (HV.out.below hB10) (by have := Lg.out; omega)
            rw [show ofT n give = (ofFold (newT n) give, 0) from by unfold ofT; rw [Hal.out]; rfl] at Of3
            clear hT10 Of2 hB8 hb10
            go_wp2_with fail
            refine Of3.mono ?_
            rintro e w11 ⟨v11, he, hT11, hb11⟩
            have he' : e = .returned (.tuple #[v11, .int .i64 0]) := he
            clear he
            subst he'
            dsimp only at hT11
            have hB11 := Below.then hB10 hb11 hB10.size
            have dall : Dok (ids ++ want) := fun d hx => (List.mem_append.1 hx).elim (HI3.out.2 d) (Dw.out d)
            have Sb := iblt_Subtract (S := fun _ => True) w11 _ _ _ _ ((HT10.out.below hb11).mono fun _ _ => trivial) (hT11.mono fun _ _ => trivial) (by rw [fold_len Hal.out]; omega) (by rw [fold_len Hal.out]; omega)
            rw [sub_plain Hal.out dall Dg.out (by rw [List.length_append]; have := Li.out; have := Lw.out; omega) (by have := Lg.out; omega), Sub.out] at Sb
            clear hB10 hb11 Of3 HT10 hT11
            go_wp2_with fail
            refine Sb.mono ?_
            rintro e w12 ⟨v12, he, hT12, hb12⟩
            have he' : e = .returned (.tuple #[v12, .int .i64 0]) := he
            clear he
            subst he'
            dsimp only at hT12
            have hB12 := Below.then hB11 hb12 hB11.size
            have Sm := ref47_Same (S := fun _ => True) w12 _ _ _ _ (hT12.mono fun _ _ => trivial) ((HT3.out.below hB12).mono fun _ _ => trivial) (by have := Hln.out; omega) (by have := Hln.out; omega)
            rw [decide_eq_true rfl] at Sm
            clear hB11 hb12 Sb
            go_wp2_with fail
            refine Sm.mono ?_
            rintro e w13 ⟨rfl, hb13⟩
            have hB13 := Below.then hB3 (Below.then hB12 hb13 hB12.size) hB3.size
            clear hB12 hb13 Sm hT12
            go_wp2_with fail
            refine (law48_awake _).mono ?_
            rintro e w9 ⟨rfl, hb9⟩
            go_wp2
            go_ret
            exact ⟨rfl, Below.then hB13 hb9 hB13.size⟩
end Go.Proofs.Ytebgopdmeghmhaa
