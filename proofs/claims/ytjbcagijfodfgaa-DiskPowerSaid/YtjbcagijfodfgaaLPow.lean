/- law DiskPower: the walk. -/
import Derived.Test.YtjbcagijfodfgaaLV
import Derived.Test.YtjbcagijfodfgaaLazy
namespace Go.Proofs.Ytjbcagijfodfgaa
open Go.RowKit

/-- one operation under a budget -/
def PowStep (D R : Dsk) (er : Int) : Prop := (D.left = 0 ∧ R = D ∧ er = 18) ∨ (0 < D.left ∧ er = 0 ∧ chk R = 0 ∧ R.left = D.left - 1 ∧ R.pages.length = D.pages.length ∧ R.cache.length ≤ D.cache.length + 1)
theorem pow_flush {D : Dsk} (h : chk D = 0) (hl : 0 ≤ D.left) : PowStep D (flushD D).1 (flushD D).2 := by
  rcases flush_cases D with ⟨_, h1, _⟩ | ⟨h1, _, h2, h3⟩ | ⟨h1, _, h2, h3⟩
  · exact absurd h h1
  · exact .inl ⟨h2, h3, h1⟩
  · refine .inr ⟨by omega, h1, ?_⟩
    rw [h3]
    have e : (opD D).left = D.left - 1 := by unfold opD; simp only; rw [if_pos (by omega)]
    exact ⟨flush_chk h _ (by omega), e, contentsD_len D, by simp⟩
theorem pow_write {D : Dsk} (h : chk D = 0) (hl : 0 ≤ D.left) {i : Int} (h0 : 0 ≤ i) (h1 : i < D.pages.length) (hp : 0 < D.pages.length) : PowStep D (writeD D i D.pages[0]).1 (writeD D i D.pages[0]).2 := by
  have hz := (chk_zero h).2.1 _ (List.getElem_mem hp)
  rcases write_cases D i D.pages[0] with ⟨h2, h3, _⟩ | ⟨_, _, _, _, ⟨h2, h3, h4⟩ | ⟨h2, h3, h4⟩⟩
  · exfalso
    unfold writeD at h2 h3
    rw [if_neg (by simp [h]), if_neg (by omega), if_neg (by simp [hz])] at h2 h3
    by_cases hq : D.left = 0 <;> simp [hq] at h2 h3
  · exact .inl ⟨h3, h4, h2⟩
  · refine .inr ⟨by omega, h2, ?_⟩
    rw [h4]
    have e : (opD D).left = D.left - 1 := by unfold opD; simp only; rw [if_pos (by omega)]
    exact ⟨write_chk h h0 h1 hz, e, rfl, by simp⟩

theorem DskR.to {S : Nat → Prop} {w : World} {v : Value} {d d' : Dsk} (h : DskR S w v d) (e : d = d') : DskR S w v d' := e ▸ h
theorem nb_inS {X : Nat → Prop} {w w' : World} (hb : w.heap.size ≤ w'.heap.size) : InS (NB X w) w' := (NB.inS X w).size hb

set_option maxRecDepth 100000 in
set_option maxHeartbeats 8000000 in
theorem law40_power_walk (w : World) (d : Dsk) (v : Value) (hD : DskV w v d) (picks : List Int) (qo : Option Addr) (qc : Nat) (hq : IntsAt (· < w.heap.size) w qo picks) (hpw : ∀ x ∈ picks, -9223372036854775808 ≤ x ∧ x ≤ 9223372036854775807)
    (hg : greatW d.pages d.cache = false) (hl : decide ((20 : Int) < (picks.length : Int)) = false) (hc : (chk d != 0) = false) (hn : decide (d.left < 0) = false) :
    Calls Try.prog 9 #[v, .slice qo picks.length qc] w fun e w' => e = .returned (.bool true) ∧ Below w.heap.size w w' := by
  have hD0 := hD
  obtain ⟨po, pc, co, cc, rfl⟩ := hD.agg
  clear hD
  have hl' := of_decide_eq_false hl
  have hg' := great_false hg
  have hn' := of_decide_eq_false hn
  have hc0 : chk d = 0 := by simpa using hc
  have hr := rangedB_true (chk_zero hc0).1
  have hch := Lib.hid hc0
  clear hc0
  go_enter Try.func9, Try.ntmps9
  go_wp2_with fail
  refine (v_great d _ _ (hD0.below (Below.one _ _)) hg).mono ?_
  rintro e w1 ⟨rfl, hb1⟩
  have x1 := (Bx.new w _ _).belowAll hb1
  have hB1 : Below w.heap.size w w1 := Below.then (Below.one _ _) hb1 (by simp)
  have z1 := hB1.size
  have cX := x1.cell
  have lX := x1.lt
  go_wp2_with fail
  refine (v_rcheck d _ _ (hD0.below hB1) hch.out).mono ?_
  rintro e w2 ⟨rfl, hb2⟩
  have x2 := x1.belowAll hb2
  have hB2 := Below.then hB1 hb2 z1
  have z2 := hB2.size
  clear x1 cX lX
  have cX := x2.cell
  have lX := x2.lt
  go_wp2
  clear cX lX
  have hE2 : DskR (NB (· = w.heap.size) w2) w2 (.agg #[.int .i64 d.size, .slice po d.pages.length pc, .slice co d.cache.length cc, .int .i64 d.left]) d :=
    DskR.mono (DskR.below hD0 hB2) (fun b hb => ⟨by intro e; subst e; exact absurd hb (Nat.lt_irrefl _), Nat.lt_of_lt_of_le hb z2⟩)
  go_loopw [32, 5] (fun t l wr => ∃ (k : Nat) (D : Dsk) (po co : Option Addr) (pc cc : Nat), k ≤ picks.length ∧ t = .int .i64 k ∧ l = .int .i64 D.left ∧ Hid (chk D = 0) ∧ 0 ≤ D.left ∧ Hid (D.pages.length = d.pages.length) ∧ D.cache.length ≤ 20 + k ∧ Below w.heap.size w wr ∧ w.heap.size < wr.heap.size ∧
    Bx wr w.heap.size #[.int .i64 D.size, .slice po D.pages.length pc, .slice co D.cache.length cc, .int .i64 D.left] 25 ∧
    DskR (NB (· = w.heap.size) wr) wr (.agg #[.int .i64 D.size, .slice po D.pages.length pc, .slice co D.cache.length cc, .int .i64 D.left]) D) (fun t _ _ => picks.length - (intOf t).toNat)
  case atStart => exact ⟨0, d, po, co, pc, cc, Nat.zero_le _, rfl, rfl, hch, by omega, Lib.hid rfl, by omega, hB2, x2.lt, x2, hE2⟩
  case round =>
    clear x2 hE2 hB2 z2 hb2 hb1 hB1 z1
    obtain ⟨k, D, po', co', pc', cc', hk, rfl, rfl, hcD, hlD, hpD, hkD, hb, hzw, xX, hD⟩ := hrel
    by_cases hlt : k < picks.length
    · obtain ⟨qb, qoff, rfl, hqc0, _⟩ := hq k hlt
      have hqc : wr.cell? ⟨qb, qoff + k, none⟩ = some (.int .i64 picks[k]) := by rw [hb.cell (World.block_lt_of_cell? w _ hqc0)]; exact hqc0
      have hnb := hpw _ (List.getElem_mem hlt)
      have hpos : 0 < D.pages.length := by have := hpD.out; omega
      have ok3 : D.pages[0].size ≤ 512 := by have h1 := (chk_zero hcD.out).2.1 _ (List.getElem_mem hpos); have h2 := rangedB_true (chk_zero hcD.out).1; omega
      have hmx : D.pages.length ≤ 2000 := by have := hpD.out; omega
      have hF := pow_flush hcD.out hlD
      have hW : ∀ i : Int, 0 ≤ i → i < (D.pages.length : Int) → PowStep D (writeD D i D.pages[0]).1 (writeD D i D.pages[0]).2 := fun i h0 h1 => pow_write hcD.out hlD h0 h1 hpos
      obtain ⟨F, ef, hFe⟩ : ∃ F ef, flushD D = (F, ef) := ⟨_, _, rfl⟩
      rw [hFe] at hF
      have hFh := Lib.hid hFe
      have hFs := Lib.hid hF
      have hWh := Lib.hid hW
      clear hFe hF hW hqc0
      have hp0 : D.pages.length ≠ 0 := by omega
      have hp1 : ¬ ((D.pages.length : Int) = 0) := by omega
      have hp2 : ((D.pages.length : Int) == 0) = false := by rw [beq_eq_false_iff_ne]; omega
      have hst : StrsAt (NB (· = w.heap.size) wr) wr po' D.pages := by obtain ⟨_, _, _, _, e, h, _⟩ := hD; simp only [Value.agg.injEq, Array.mk.injEq, List.cons.injEq, Value.slice.injEq, and_true, true_and] at e; rw [e.1.1]; exact h
      obtain ⟨pb, poff, rfl, hpc0, _⟩ := hst 0 hpos
      rw [Nat.add_zero] at hpc0
      have cX := xX.cell
      have lX := xX.lt
      cases hge : decide (0 ≤ picks[k])
      · have hge' := of_decide_eq_false hge
        go_wp2_with fail
        refine (disk_flush D _ _ (NB.inS _ _) hD).mono ?_
        rintro e r1 ⟨v1, rfl, hN1, hr1⟩
        rw [hFh.out] at hN1 ⊢
        have x1 := xX.belowAll hr1
        have hE1 := hD.below hr1
        have hM1 := hN1
        obtain ⟨po1, pc1, co1, cc1, rfl, _, _, _⟩ := hN1
        clear cX lX
        have cX := x1.cell
        have lX := x1.lt
        go_upto_region 10 with fail
        have x3 := x1.alloc (.cells #[.int .i64 F.size, .slice po1 F.pages.length pc1, .slice co1 F.cache.length cc1, .int .i64 F.left] 25)
        have f3 := Bx.new r1 #[.int .i64 F.size, .slice po1 F.pages.length pc1, .slice co1 F.cache.length cc1, .int .i64 F.left] 25
        have hBB := Below.one r1 (.cells #[.int .i64 F.size, .slice po1 F.pages.length pc1, .slice co1 F.cache.length cc1, .int .i64 F.left] 25)
        have hz1 := hr1.size
        have hR3 := DskR.mono (T := NB (fun b => b = w.heap.size ∨ b = r1.heap.size) (r1.alloc (.cells #[.int .i64 F.size, .slice po1 F.pages.length pc1, .slice co1 F.cache.length cc1, .int .i64 F.left] 25))) (hM1.below hBB) (by
          rintro b (⟨h1, h2⟩ | ⟨h1, h2⟩)
          · exact ⟨by rintro (h | h); exact h1 h; omega, by simp; omega⟩
          · exact ⟨by rintro (h | h) <;> omega, by simp; omega⟩)
        have hE3 := hE1.below hBB
        have hB3 := Below.then (Below.then hb hr1 hb.size) hBB (by omega)
        have hPS := hFs
        clear cX lX hFs hWh hE1 hM1
        generalize r1.alloc (.cells #[.int .i64 F.size, .slice po1 F.pages.length pc1, .slice co1 F.cache.length cc1, .int .i64 F.left] 25) = W2 at *
        have x3h := x3
        have f3h := f3
        clear x3 f3
        have p1 : ((F.pages.length : Int) != (D.pages.length : Int)) = false := by rcases hPS.out with ⟨_, q2, _⟩ | ⟨_, _, _, _, q5, _⟩; (rw [q2]; simp); (rw [q5]; simp)
        rcases hPS.out with ⟨q1, q2, q3⟩ | ⟨q1, q2, q3, q4, q5, q6⟩
        · have e1 : (ef == 0) = false := by rw [q3]; rfl
          have e2 : (ef != 0) = true := by rw [q3]; rfl
          have e3 : (ef != 18) = false := by rw [q3]; rfl
          have l1 : decide (0 < D.left) = false := by rw [q1]; rfl
          have hs := same_refl D _ _ W2 (hR3.to q2) hE3
          have Q := Lib.hid (And.intro q1 q2)
          clear q1 q2 q3
          have cX := x3h.cell
          have lX := x3h.lt
          have cF := f3h.cell
          have lF := f3h.lt
          go_wp2_with fail
          refine hs.mono ?_
          rintro e W3 ⟨rfl, hb3⟩
          have x4 := x3h.belowAll hb3
          have f4 := f3h.belowAll hb3
          have hR4 := hR3.below hb3
          have hB4 := Below.then hB3 hb3 hB3.size
          clear cX lX cF lF x3h f3h hs
          have cX := x4.cell
          have fX := x4.free
          have lX := x4.lt
          have cF := f4.cell
          have lF := f4.lt
          go_wp2
          go_roundw
          case rel =>
            refine ⟨k + 1, F, po1, co1, pc1, cc1, by omega, by go_num, by rw [Q.out.2], by rw [Q.out.2]; exact hcD, by rw [Q.out.2]; exact hlD, by rw [Q.out.2]; exact hpD, by rw [Q.out.2]; omega, below_set4 hB4 (Nat.le_refl _), by simpa using lX, x4.set4, ?_⟩
            refine DskR.same (w := W3) (hR4.mono fun b hb => ⟨fun e => hb.1 (.inl e), ?_⟩) ((Same.refl _ _).set4 (fun h => h.1 rfl))
            have := hb.2; have := hb3.size; simp; omega
          case measure => simp [intOf]; omega
        · have e1 : (ef == 0) = true := by rw [q2]; rfl
          have e2 : (ef != 0) = false := by rw [q2]; rfl
          have l1 : decide (0 < D.left) = true := decide_eq_true q1
          have l2 : (F.left != D.left - 1) = false := by rw [q4]; simp
          have Q := Lib.hid (And.intro q3 (And.intro q4 (And.intro q5 q6)))
          have okl : -9223372036854775808 ≤ D.left ∧ D.left ≤ 9223372036854775807 := by obtain ⟨_, _, _, _, _, _, _, ok⟩ := hD; exact ok.left
          clear q2 q3 q4 q5 q6
          have cX := x3h.cell
          have fX := x3h.free
          have lX := x3h.lt
          have cF := f3h.cell
          have lF := f3h.lt
          go_wp2
          go_roundw
          case rel =>
            refine ⟨k + 1, F, po1, co1, pc1, cc1, by omega, by go_num, by rw [Q.out.2.1], Lib.hid Q.out.1, by rw [Q.out.2.1]; omega, Lib.hid (Q.out.2.2.1.trans hpD.out), by have := Q.out.2.2.2; omega, below_set4 hB3 (Nat.le_refl _), by simpa using lX, x3h.set4, ?_⟩
            exact DskR.same (w := W2) (hR3.mono fun b hb => ⟨fun e => hb.1 (.inl e), by have := hb.2; simpa using this⟩) ((Same.refl _ _).set4 (fun h => h.1 rfl))
          case measure => simp [intOf]; omega
      · have hge' := of_decide_eq_true hge
        go_wp2_with fail
        refine (disk_flush D _ _ (NB.inS _ _) hD).mono ?_
        rintro e r1 ⟨v1, rfl, hN1, hr1⟩
        rw [hFh.out] at hN1 ⊢
        have x1 := xX.belowAll hr1
        have hE1 := hD.below hr1
        obtain ⟨po1, pc1, co1, cc1, rfl, _, _, _⟩ := hN1
        clear cX lX
        have cX := x1.cell
        have lX := x1.lt
        have hpc1 : r1.cell? ⟨pb, poff, none⟩ = some (.string D.pages[0]) := by rw [hr1.cell (World.block_lt_of_cell? wr _ hpc0)]; exact hpc0
        have lP : pb < r1.heap.size := World.block_lt_of_cell? r1 _ hpc1
        obtain ⟨R, ew, hWe⟩ : ∃ R ew, writeD D (picks[k] % (D.pages.length : Int)) D.pages[0] = (R, ew) := ⟨_, _, rfl⟩
        have hWs := hWh.out (picks[k] % (D.pages.length : Int)) (Int.emod_nonneg _ (by omega)) (Int.emod_lt_of_pos _ (by omega))
        rw [hWe] at hWs
        have hWsh := Lib.hid hWs
        have hcw : ∀ W, Below r1.heap.size r1 W → Calls Try.prog 22 #[.agg #[.int .i64 D.size, .slice (some ⟨pb, poff, none⟩) D.pages.length pc', .slice co' D.cache.length cc', .int .i64 D.left], .int .i64 (picks[k] % (D.pages.length : Int)), .string D.pages[0]] W (fun e w' => ∃ v', e = .returned (.tuple #[v', .int .i64 ew]) ∧ DskR (Gr (NB (· = w.heap.size) wr) W w') w' v' R ∧ Below W.heap.size W w') := fun W h => by
          refine (disk_write D _ (picks[k] % (D.pages.length : Int)) D.pages[0] W (((NB.inS _ _).below hr1).below h) (hE1.below h) (by have := ok3; omega) (by omega)).mono ?_
          rintro e w' ⟨v', rfl, hN, hb⟩
          rw [hWe] at hN ⊢
          exact ⟨v', rfl, hN, hb⟩
        clear hWe hWs hWh hFs
        go_wp2_with fail
        obtain ⟨WB, hWB⟩ : ∃ WB, r1.alloc (.cells #[.int .i64 F.size, .slice po1 F.pages.length pc1, .slice co1 F.cache.length cc1, .int .i64 F.left] 25) = WB := ⟨_, rfl⟩
        have xB := x1.alloc (.cells #[.int .i64 F.size, .slice po1 F.pages.length pc1, .slice co1 F.cache.length cc1, .int .i64 F.left] 25)
        have fB := Bx.new r1 #[.int .i64 F.size, .slice po1 F.pages.length pc1, .slice co1 F.cache.length cc1, .int .i64 F.left] 25
        have hBB := Below.one r1 (.cells #[.int .i64 F.size, .slice po1 F.pages.length pc1, .slice co1 F.cache.length cc1, .int .i64 F.left] 25)
        have hpB : WB.cell? ⟨pb, poff, none⟩ = some (.string D.pages[0]) := by rw [← hWB, hBB.cell lP]; exact hpc1
        have hzb : r1.heap.size + 1 ≤ WB.heap.size := by rw [← hWB]; simp
        rw [hWB] at xB fB hBB ⊢
        clear hWB cX lX hpc1 lP
        have cX := xB.cell
        have lX := xB.lt
        have lP : pb < WB.heap.size := World.block_lt_of_cell? WB _ hpB
        have cQ := Lat.cells WB
        refine wp_region_lz 11 5 #[true, true, true, true, true, true, true, true, true, true, true, false, false, false, false, false] (fun i => if i = 10 then some ⟨fun r => .tuple #[r.x 0, .int .i64 ew], fun r W => DskR (fun b => NB (· = w.heap.size) wr b ∨ (r.lo ≤ b ∧ b < r.hi)) W (r.x 0) R⟩ else none) (by kernel_rfl) (by rfl) (by rfl) (by kernel_rfl) ?_
        simp only [List.take_succ_cons, List.take_zero]
        refine LW.block 10 10 (by rfl) (by kernel_rfl) (by kernel_rfl) ?_
        simp only [List.take_succ_cons, List.take_zero, List.drop_succ_cons, List.drop_zero]
        repeat (first | go_big_quiet_skip | (go_big_quiet_want; go_big_quiet_op; go_big_quiet_on))
        refine wpQuiet_nil ?_
        refine LW.lzy _ (by rfl) (by rfl) ?_ ?_
        · intro y _
          unfold lzAt
          go_simp
          refine (hcw _ (hBB.trans (y.h.mono hBB.size))).mono ?_
          rintro e w' ⟨v', rfl, hN, hb⟩
          exact ⟨_, rfl, hb, fun _ => v', rfl, fun w'' hb' => DskR.below hN hb'⟩
        · intro r
          refine LW.done ?_
          simp only [Act.put, List.setIfInBounds_toArray, List.set_cons_zero, List.set_cons_succ]
          intro W' hG
          have hR : DskR (fun b => NB (· = w.heap.size) wr b ∨ (r.lo ≤ b ∧ b < r.hi)) W' (r.x 0) R := hG.get 10 rfl rfl
          have hrg := hG.range 10 r rfl
          have hRd := hR
          obtain ⟨po2, pc2, co2, cc2, hx, _, _, _⟩ := hR
          rw [hx] at hRd
          rw [hx]
          have x2 := xB.belowAll hG.below
          have f2 := fB.belowAll hG.below
          clear cX lX lP cQ xB fB
          have cX := x2.cell
          have lX := x2.lt
          have cF := f2.cell
          have fF := f2.free
          have lF := f2.lt
          refine wpAny_take (i := 11) (v := ?_) rfl (by kernel_rfl) (by kernel_rfl) (by kernel_rfl) (fun _ _ _ h => h) (Or.inl ⟨by rfl, ?_⟩) ?_
          rotate_left
          · intro w; go_simp; try with_reducible rfl
          simp only [Act.put, List.setIfInBounds_toArray, List.set_cons_zero, List.set_cons_succ]
          refine wpAny_take (i := 12) (v := ?_) rfl (by kernel_rfl) (by kernel_rfl) (by kernel_rfl) (fun _ _ _ h => h) (Or.inl ⟨by rfl, ?_⟩) ?_
          rotate_left
          · intro w; go_simp; try with_reducible rfl
          simp only [Act.put, List.setIfInBounds_toArray, List.set_cons_zero, List.set_cons_succ]
          refine wpAny_take (i := 13) (v := ?_) rfl (by kernel_rfl) (by kernel_rfl) (by kernel_rfl) (fun _ _ _ h => h) (Or.inl ⟨by rfl, ?_⟩) ?_
          rotate_left
          · intro w; go_simp; try with_reducible rfl
          simp only [Act.put, List.setIfInBounds_toArray, List.set_cons_zero, List.set_cons_succ]
          refine wpAny_ready (rs := [14]) (by kernel_rfl) (by simp) ?_
          refine AllReady.cons rfl (fun K hK => ?_) AllReady.nil
          go_simp
          refine hK _ _ ?_
          clear hK K
          refine wpAny_take (i := 15) (v := ?_) rfl (by kernel_rfl) (by kernel_rfl) (by kernel_rfl) (fun _ _ _ h => h) (Or.inl ⟨by rfl, ?_⟩) ?_
          rotate_left
          · intro w; go_simp; try with_reducible rfl
          simp only [Act.put, List.setIfInBounds_toArray, List.set_cons_zero, List.set_cons_succ]
          refine wpAny_done (by kernel_rfl) ?_ _
          have x3 := x2.setO4 (b' := r1.heap.size) (v0 := .int .i64 R.size) (v1 := .slice po2 R.pages.length pc2) (v2 := .slice co2 R.cache.length cc2) (v3 := .int .i64 R.left) (by have := x1.lt; omega)
          have f3 := f2.set4 (v0 := .int .i64 R.size) (v1 := .slice po2 R.pages.length pc2) (v2 := .slice co2 R.cache.length cc2) (v3 := .int .i64 R.left)
          have hz1 := hr1.size
          have hzB := hBB.size
          have hzG := hG.below.size
          have hR3 := hRd.same ((Same.refl _ W').set4 (b := r1.heap.size) (v0 := .int .i64 R.size) (v1 := .slice po2 R.pages.length pc2) (v2 := .slice co2 R.cache.length cc2) (v3 := .int .i64 R.left) (by rintro (h | h); exact absurd h.2 (by omega); have := hzb; omega))
          have hR3 := DskR.mono (T := NB (fun b => b = w.heap.size ∨ b = r1.heap.size) W') hR3 (by
            rintro b (⟨h1, h2⟩ | ⟨h1, h2⟩)
            · exact ⟨by rintro (h | h); exact h1 h; omega, by omega⟩
            · exact ⟨by rintro (h | h) <;> omega, by have := hrg.2.2; omega⟩)
          have hE3 := ((hE1.below hBB).below hG.below).same ((Same.refl _ W').set4 (b := r1.heap.size) (v0 := .int .i64 R.size) (v1 := .slice po2 R.pages.length pc2) (v2 := .slice co2 R.cache.length cc2) (v3 := .int .i64 R.left) (fun h => by have := h.2; omega))
          have hB3 := below_set4 (b := r1.heap.size) (v0 := .int .i64 R.size) (v1 := .slice po2 R.pages.length pc2) (v2 := .slice co2 R.cache.length cc2) (v3 := .int .i64 R.left) (Below.then (Below.then (Below.then hb hr1 hb.size) hBB (by omega)) hG.below (by omega)) (by omega)
          have hPS := hWsh
          clear cX lX cF fF lF hRd hrg hWsh x2 f2 hcw hx hE1
          have hzz : ∀ b, NB (fun b => b = w.heap.size ∨ b = r1.heap.size) W' b → NB (fun b => b = w.heap.size ∨ b = r1.heap.size) (((((W'.setCell ⟨r1.heap.size, 0, none⟩ (.int .i64 R.size)).setCell ⟨r1.heap.size, 1, none⟩ (.slice po2 R.pages.length pc2)).setCell ⟨r1.heap.size, 2, none⟩ (.slice co2 R.cache.length cc2)).setCell ⟨r1.heap.size, 3, none⟩ (.int .i64 R.left))) b := fun b h => ⟨h.1, by simpa using h.2⟩
          have hR3 := hR3.mono hzz
          clear hzz
          generalize (((W'.setCell ⟨r1.heap.size, 0, none⟩ (.int .i64 R.size)).setCell ⟨r1.heap.size, 1, none⟩ (.slice po2 R.pages.length pc2)).setCell ⟨r1.heap.size, 2, none⟩ (.slice co2 R.cache.length cc2)).setCell ⟨r1.heap.size, 3, none⟩ (.int .i64 R.left) = W2 at *
          have x3h := x3
          have f3h := f3
          clear x3 f3
          have p1 : ((R.pages.length : Int) != (D.pages.length : Int)) = false := by rcases hPS.out with ⟨_, q2, _⟩ | ⟨_, _, _, _, q5, _⟩; (rw [q2]; simp); (rw [q5]; simp)
          rcases hPS.out with ⟨q1, q2, q3⟩ | ⟨q1, q2, q3, q4, q5, q6⟩
          · have e1 : (ew == 0) = false := by rw [q3]; rfl
            have e2 : (ew != 0) = true := by rw [q3]; rfl
            have e3 : (ew != 18) = false := by rw [q3]; rfl
            have l1 : decide (0 < D.left) = false := by rw [q1]; rfl
            have hs := same_refl D _ _ W2 (hR3.to q2) hE3
            have Q := Lib.hid (And.intro q1 q2)
            clear q1 q2 q3
            have cX := x3h.cell
            have lX := x3h.lt
            have cF := f3h.cell
            have lF := f3h.lt
            go_wp2_with fail
            refine hs.mono ?_
            rintro e W3 ⟨rfl, hb3⟩
            have x4 := x3h.belowAll hb3
            have f4 := f3h.belowAll hb3
            have hR4 := hR3.below hb3
            have hB4 := Below.then hB3 hb3 hB3.size
            clear cX lX cF lF x3h f3h hs
            have cX := x4.cell
            have fX := x4.free
            have lX := x4.lt
            have cF := f4.cell
            have lF := f4.lt
            go_wp2
            go_roundw
            case rel =>
              refine ⟨k + 1, R, po2, co2, pc2, cc2, by omega, by go_num, by rw [Q.out.2], by rw [Q.out.2]; exact hcD, by rw [Q.out.2]; exact hlD, by rw [Q.out.2]; exact hpD, by rw [Q.out.2]; omega, below_set4 hB4 (Nat.le_refl _), by simpa using lX, x4.set4, ?_⟩
              refine DskR.same (w := W3) (hR4.mono fun b hb => ⟨fun e => hb.1 (.inl e), ?_⟩) ((Same.refl _ _).set4 (fun h => h.1 rfl))
              have := hb.2; have := hb3.size; simp; omega
            case measure => simp [intOf]; omega
          · have e1 : (ew == 0) = true := by rw [q2]; rfl
            have e2 : (ew != 0) = false := by rw [q2]; rfl
            have l1 : decide (0 < D.left) = true := decide_eq_true q1
            have l2 : (R.left != D.left - 1) = false := by rw [q4]; simp
            have Q := Lib.hid (And.intro q3 (And.intro q4 (And.intro q5 q6)))
            have okl : -9223372036854775808 ≤ D.left ∧ D.left ≤ 9223372036854775807 := by obtain ⟨_, _, _, _, _, _, _, ok⟩ := hD; exact ok.left
            clear q2 q3 q4 q5 q6
            have cX := x3h.cell
            have fX := x3h.free
            have lX := x3h.lt
            have cF := f3h.cell
            have lF := f3h.lt
            go_wp2
            go_roundw
            case rel =>
              refine ⟨k + 1, R, po2, co2, pc2, cc2, by omega, by go_num, by rw [Q.out.2.1], Lib.hid Q.out.1, by rw [Q.out.2.1]; omega, Lib.hid (Q.out.2.2.1.trans hpD.out), by have := Q.out.2.2.2; omega, below_set4 hB3 (Nat.le_refl _), by simpa using lX, x3h.set4, ?_⟩
              exact DskR.same (w := W2) (hR3.mono fun b hb => ⟨fun e => hb.1 (.inl e), by have := hb.2; simpa using this⟩) ((Same.refl _ _).set4 (fun h => h.1 rfl))
            case measure => simp [intOf]; omega
    · go_wp2_with fail
      refine (law40_awake _).mono ?_
      rintro e w9 ⟨rfl, hb9⟩
      go_wp2
      go_ret
      exact ⟨rfl, Below.then hb hb9 hb.size⟩
set_option maxRecDepth 100000 in
set_option maxHeartbeats 4000000 in
theorem law40_power (w : World) (d : Dsk) (v : Value) (hD : DskV w v d) (picks : List Int) (qo : Option Addr) (qc : Nat) (hq : IntsAt (· < w.heap.size) w qo picks) (_hql : picks.length * 8 ≤ 140737488351232) (hpw : ∀ x ∈ picks, -9223372036854775808 ≤ x ∧ x ≤ 9223372036854775807) :
    Calls Try.prog 9 #[v, .slice qo picks.length qc] w fun e w' => e = .returned (.bool true) ∧ Below w.heap.size w w' := by
  have hD0 := hD
  obtain ⟨po, pc, co, cc, rfl⟩ := hD.agg
  cases hg : greatW d.pages d.cache
  · cases hl : decide ((20 : Int) < (picks.length : Int))
    · obtain ⟨c, hc0⟩ : ∃ c, chk d = c := ⟨_, rfl⟩
      cases hc : (c != 0)
      · cases hn : decide (d.left < 0)
        · exact law40_power_walk w d _ hD picks qo qc hq hpw hg hl (hc0 ▸ hc) hn
        · have hch := Lib.hid hc0
          clear hc0 hD
          go_enter Try.func9, Try.ntmps9
          go_wp2_with fail
          refine (v_great d _ _ (hD0.below (Below.one _ _)) hg).mono ?_
          rintro e w1 ⟨rfl, hb1⟩
          have x1 := (Bx.new w _ _).belowAll hb1
          have hB1 : Below w.heap.size w w1 := Below.then (Below.one _ _) hb1 (by simp)
          have cX := x1.cell
          have lX := x1.lt
          go_wp2_with fail
          refine (v_rcheck d _ _ (hD0.below hB1) hch.out).mono ?_
          rintro e w2 ⟨rfl, hb2⟩
          have x2 := x1.belowAll hb2
          clear cX lX
          have cX := x2.cell
          have lX := x2.lt
          have hB1 := Below.then hB1 hb2 hB1.size
          go_wp2_with fail
          refine (law40_awake _).mono ?_
          rintro e w9 ⟨rfl, hb9⟩
          go_wp2
          go_ret
          exact ⟨rfl, Below.then hB1 hb9 hB1.size⟩
      · have hch := Lib.hid hc0
        clear hc0 hD
        go_enter Try.func9, Try.ntmps9
        go_wp2_with fail
        refine (v_great d _ _ (hD0.below (Below.one _ _)) hg).mono ?_
        rintro e w1 ⟨rfl, hb1⟩
        have x1 := (Bx.new w _ _).belowAll hb1
        have hB1 : Below w.heap.size w w1 := Below.then (Below.one _ _) hb1 (by simp)
        have cX := x1.cell
        have lX := x1.lt
        go_wp2_with fail
        refine (v_rcheck d _ _ (hD0.below hB1) hch.out).mono ?_
        rintro e w2 ⟨rfl, hb2⟩
        have x2 := x1.belowAll hb2
        clear cX lX
        have cX := x2.cell
        have lX := x2.lt
        have hB1 := Below.then hB1 hb2 hB1.size
        go_wp2_with fail
        refine (law40_awake _).mono ?_
        rintro e w9 ⟨rfl, hb9⟩
        go_wp2
        go_ret
        exact ⟨rfl, Below.then hB1 hb9 hB1.size⟩
    · go_enter Try.func9, Try.ntmps9
      go_wp2_with fail
      refine (v_great d _ _ (hD0.below (Below.one _ _)) hg).mono ?_
      rintro e w1 ⟨rfl, hb1⟩
      have x1 := (Bx.new w _ _).belowAll hb1
      have hB1 : Below w.heap.size w w1 := Below.then (Below.one _ _) hb1 (by simp)
      have cX := x1.cell
      have lX := x1.lt
      go_wp2_with fail
      refine (law40_awake _).mono ?_
      rintro e w9 ⟨rfl, hb9⟩
      go_wp2
      go_ret
      exact ⟨rfl, Below.then hB1 hb9 hB1.size⟩
  · go_enter Try.func9, Try.ntmps9
    go_wp2_with fail
    refine (v_great d _ _ (hD0.below (Below.one _ _)) hg).mono ?_
    rintro e w1 ⟨rfl, hb1⟩
    have x1 := (Bx.new w _ _).belowAll hb1
    have hB1 : Below w.heap.size w w1 := Below.then (Below.one _ _) hb1 (by simp)
    have cX := x1.cell
    have lX := x1.lt
    go_wp2_with fail
    refine (law40_awake _).mono ?_
    rintro e w9 ⟨rfl, hb9⟩
    go_wp2
    go_ret
    exact ⟨rfl, Below.then hB1 hb9 hB1.size⟩
end Go.Proofs.Ytjbcagijfodfgaa
