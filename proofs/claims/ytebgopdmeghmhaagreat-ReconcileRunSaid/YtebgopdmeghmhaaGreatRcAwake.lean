/- first of the laws of layer 48. The example of layer 48, plain. awake of the laws of layer 48. -/
import Derived.Test.YtebgopdmeghmhaaGreatRcAcc
import Derived.Test.YtebgopdmeghmhaaGreatRcCheck
import Derived.Test.YtebgopdmeghmhaaGreatRcIn
import Derived.Test.YtebgopdmeghmhaaGreatRcSpec
import Derived.Test.YtebgopdmeghmhaaGreatRcRunW
import Derived.Test.YtebgopdmeghmhaaGreatLAw
namespace Go.Proofs.YtebgopdmeghmhaaGreat
open Go.RowKit

def dN (i : Nat) : List UInt8 := UInt8.ofNat i :: List.replicate 31 0
def firstD (f n : Nat) : List (List UInt8) := (List.range n).map fun i => dN (f + i)
theorem dN_len (i : Nat) : (dN i).length = 32 := rfl
theorem firstD_len (f n : Nat) : (firstD f n).length = n := by simp [firstD]
theorem firstD_succ (f n : Nat) : firstD f (n + 1) = firstD f n ++ [dN (f + n)] := by simp [firstD, List.range_succ]
theorem firstD_ok (f n : Nat) : Dok (firstD f n) := fun d hd => by
  obtain ⟨i, _, rfl⟩ := List.mem_map.1 hd
  exact dN_len _
theorem built_dg1 (i : Nat) (hi : i < 256) (w : World) : (Instr.build 39 #[(0, .int .u8 (i : Int))]).run Tryz.prog w = .ok (dgV (dN i)) w := by
  unfold dgV
  refine run_build w _ _ _ ?_
  have hz := infoDg
  unfold Program.built
  cases hd : Tryz.prog.info? 39 with
  | none => rw [hd] at hz; cases hz
  | some it =>
    rw [hd] at hz
    have hz' : it.zero = some (.agg (Array.replicate 32 (.int .u8 0))) := (Prod.mk.inj (Option.some.inj hz)).1
    obtain ⟨ib, hib, hb1⟩ : ∃ ib, Tryz.prog.info? 5 = some ib ∧ ib.size = 1 := Option.map_eq_some_iff.1 (show (Tryz.prog.info? 5).map (·.size) = some 1 by kernel_rfl)
    have hu : Tryz.prog.underlying 39 = some (.array 32 5) := Tryz.underlying39
    simp only [hu, hz', hib, hb1]
    have e0 : (Value.agg (Array.replicate 32 (.int .u8 0))).cells = ([] ++ [Value.int .u8 0] ++ List.replicate 31 (Value.int .u8 0)).toArray := rfl
    rw [e0, fill_step (place := fun i => some (i * 1, 1)) [] [Value.int .u8 0] [Value.int .u8 (i : Int)] _ rfl rfl rfl]
    rw [Instr.fill]
    have e1 : (UInt8.ofNat i).toNat = i := by simp; omega
    simp [bytesV, dN, e1]
theorem run_build_dg {a : Act} {o : Oper} {w : World} (x : Operand) (i : Nat) (hi : i < 256) (ho : o.op = .build 39 #[(0, x)]) (hx : a.eval x = .int .u8 (i : Int)) : (execOp a.eval o).run Tryz.prog w = .ok (.value (dgV (dN i))) w := by
  unfold execOp
  rw [ho]
  simp only [List.map_toArray, List.map_cons, List.map_nil, hx, Sem.run_bind, built_dg1 i hi, Result.andThen_ok, Sem.run_pure]
set_option maxRecDepth 100000 in
set_option maxHeartbeats 2000000 in
theorem law48_first (w : World) (f n : Nat) (p q : Int) (hp : p = (f : Int)) (hq : q + 1 = (f : Int) + n) (hs : f + n ≤ 200) :
    Calls Tryz.prog 11 #[.int .i64 p, .int .i64 q] w fun e w' => ∃ u, e = .returned u ∧ DgO w' w.heap.size u (firstD f n) ∧ Below w.heap.size w w' := by
  obtain ⟨idg, hidg, hzd, hsd, hbyd⟩ := info_parts infoDg
  have Hidg : Hid (Tryz.prog.info? 39 = some idg ∧ idg.zero = some (.agg (List.replicate 32 (Value.int .u8 0)).toArray) ∧ idg.size = 32) := Lib.hid ⟨hidg, by rw [hzd]; rfl, hsd⟩
  have Ho0 := Lib.hid (ownsRow_bx0 (base := w.heap.size) (size := 32) (Bx.new w #[] 39) (Nat.le_refl _))
  have hB1 : Below w.heap.size w (w.alloc (.cells #[] 39)) := Below.one w _
  subst hp
  clear hidg hzd hsd hbyd
  go_enter Tryz.func11, Tryz.ntmps11
  go_wp2
  go_loopw [5, 6] (fun u i wr => ∃ k : Nat, k ≤ n ∧ i = .int .i64 ((f : Int) + k) ∧ wr.ownsRow w.heap.size 39 32 u (firstD f k).length (digC (firstD f k)).flatten ∧ Below w.heap.size w wr) (fun _ i _ => f + n - (intOf i).toNat)
  case atStart => exact ⟨0, by omega, by simp, Ho0.out, hB1⟩
  case round =>
    clear Ho0 hB1
    obtain ⟨k, hk, rfl, ho, hB⟩ := hrel
    have Ho := Lib.hid ho
    clear ho
    by_cases hlt : k < n
    · have hlt' : (f : Int) + (k : Int) ≤ q := by omega
      have hwr : IntKind.u8.wrap ((f : Int) + (k : Int)) = ((f + k : Nat) : Int) := by rw [← Int.natCast_add]; exact wrap_u8 _ (by omega)
      have hz := hB.size
      have hsmall : (firstD f k).length ≤ 1000000 := by rw [firstD_len]; omega
      have Hd : Hid ((bytesV (dN (f + k))).length = 32) := Lib.hid (by rw [bytesV_len]; rfl)
      go_wp2_with (first
          | (refine wpList_value rfl _ (run_build_dg _ (f + k) (by omega) rfl (by simp [Act.eval] <;> first | done | rw [hwr] | omega)) ?_; unfold dgV)
          | (refine wpList_build1 rfl 22 (.tmp 17) rfl 39 idg (List.replicate 32 (Value.int .u8 0)) 32 Tryz.underlying22 Hidg.out.1 Hidg.out.2.1 Hidg.out.2.2 (by simp) (by decide) (bytesV (dN (f + k))) Hd.out rfl ?_)
          | (refine wpList_appD rfl (.tmp 14) (.tmp 18) rfl w.heap.size _ (firstD f k) rfl (Ho.out.alloc _) wr.heap.size (dN (f + k)) (dN_len _) rfl (Bx.new _ _ _) hsmall (by simp; omega) ?_; intro v3 w3 ho3 hg3 hk3))
      have hB3 : Below w.heap.size w w3 := (hB.alloc hB.size (.cells (bytesV (dN (f + k))).toArray 39)).grown hg3 (hB.alloc hB.size (.cells (bytesV (dN (f + k))).toArray 39)).size (fun k e => (Ho.out.lt k e).1)
      clear hg3 hk3
      have Ho3 := Lib.hid ho3
      clear ho3
      go_wp2
      go_roundw
      case rel => exact ⟨k + 1, by omega, by go_num, by rw [firstD_succ]; exact Ho3.out, hB3⟩
      case measure => simp [intOf]; omega
    · obtain rfl : k = n := by omega
      have hlt' : ¬ (f : Int) + (k : Int) ≤ q := by omega
      go_wp2
      exact bodyPost_ret (by simp [results, Tryz.results11, go_sem]) rfl ⟨_, rfl, ⟨Ho.out, firstD_ok _ _⟩, hB⟩
end Go.Proofs.YtebgopdmeghmhaaGreat
namespace Go.Proofs.YtebgopdmeghmhaaGreat
open Go.RowKit

theorem asc19 : ascB (firstD 1 9) = true := by decide +kernel
theorem asc28 : ascB (firstD 2 8) = true := by decide +kernel
theorem aw_s : startR (firstD 1 9) = [summR zeroD zeroD (firstD 1 9)] := by
  unfold startR
  rw [if_pos asc19]
  unfold descR
  rw [if_pos (by decide)]
theorem aw_c1 : checkR [summR zeroD zeroD (firstD 1 9)] = 0 := by
  unfold summR
  generalize printD (firstD 1 9) = p
  rw [firstD_len]
  have h1 : oneE ⟨zeroD, zeroD, false, ((9 : Nat) : Int), p, []⟩ = 0 := by
    unfold oneE
    rw [show openB (⟨zeroD, zeroD, false, ((9 : Nat) : Int), p, []⟩ : Rg).high = true from (by decide +kernel : openB zeroD = true)]
    simp [idsE]
  have h2 : oneE ⟨zeroD, zeroD, false, 9, p, []⟩ = 0 := h1
  unfold checkR rgsE
  simp [h2, rgsE]
theorem aw_c2 : checkR [listR zeroD zeroD (firstD 2 8)] = 0 := by decide +kernel
theorem aw_o1 : own (firstD 2 8) zeroD zeroD = firstD 2 8 := by decide +kernel
theorem aw_o2 : own (firstD 1 9) zeroD zeroD = firstD 1 9 := by decide +kernel
theorem aw_1 : ansD (firstD 2 8) [summR zeroD zeroD (firstD 1 9)] = ⟨[listR zeroD zeroD (firstD 2 8)], [], [], 0⟩ := by
  unfold ansD
  rw [if_pos asc28, if_pos aw_c1]
  simp only [List.flatMap_cons, List.flatMap_nil, List.append_nil]
  unfold ownR
  rw [show (summR zeroD zeroD (firstD 1 9)).low = zeroD from rfl, show (summR zeroD zeroD (firstD 1 9)).high = zeroD from rfl, aw_o1]
  have hs : sameP (summR zeroD zeroD (firstD 1 9)) (firstD 2 8) = false := by
    unfold sameP
    rw [show decide ((summR zeroD zeroD (firstD 1 9)).count = ((firstD 2 8).length : Int)) = false from by decide +kernel, Bool.false_and]
  have h1 : partR (summR zeroD zeroD (firstD 1 9)) (firstD 2 8) = [listR zeroD zeroD (firstD 2 8)] := by
    unfold partR
    rw [if_neg (by show ¬ (false = true); decide), hs, if_neg (by decide), if_pos (by decide)]
    unfold descR
    rw [if_neg (by decide)]
    rfl
  rw [h1]
  rfl
theorem aw_2 : ansD (firstD 1 9) [listR zeroD zeroD (firstD 2 8)] = ⟨[], [], firstD 1 1, 0⟩ := by
  unfold ansD
  rw [if_pos asc19, if_pos aw_c2]
  simp only [List.flatMap_cons, List.flatMap_nil, List.append_nil]
  unfold ownR
  rw [show (listR zeroD zeroD (firstD 2 8)).low = zeroD from rfl, show (listR zeroD zeroD (firstD 2 8)).high = zeroD from rfl, aw_o2]
  rw [show partR (listR zeroD zeroD (firstD 2 8)) (firstD 1 9) = [] from rfl, show partW (listR zeroD zeroD (firstD 2 8)) (firstD 1 9) = [] from by decide +kernel, show partG (listR zeroD zeroD (firstD 2 8)) (firstD 1 9) = firstD 1 1 from by decide +kernel]
theorem aw_r : runR (firstD 1 9) (firstD 2 8) = ([], firstD 1 1, 2) := by
  have h0 : itR (firstD 1 9) (firstD 2 8) 0 = ⟨[summR zeroD zeroD (firstD 1 9)], [], [], 0⟩ := by show (⟨startR (firstD 1 9), [], [], 0⟩ : Rs) = _; rw [aw_s]
  have h1 : itR (firstD 1 9) (firstD 2 8) 1 = ⟨[listR zeroD zeroD (firstD 2 8)], [], [], 1⟩ := by
    show stepR _ _ (itR _ _ 0) = _
    rw [h0]
    unfold stepR
    simp only [aw_1]
    rfl
  have h2 : itR (firstD 1 9) (firstD 2 8) 2 = ⟨[], [], firstD 1 1, 2⟩ := by
    show stepR _ _ (itR _ _ 1) = _
    rw [h1]
    unfold stepR
    simp only [aw_2]
    rfl
  have h3 := itR_stop' (a := firstD 1 9) (b := firstD 2 8) (j := 2) (by rw [h2]; rfl) (n := 40) (by omega)
  rw [run_asc (of_decide_eq_true asc19) (of_decide_eq_true asc28), h3, h2]
  have hn : (firstD 1 1).Nodup := by decide +kernel
  rw [sortC_nodup hn, sortC_nodup (l := []) List.nodup_nil]
  show (sortD [], sortD (firstD 1 1), 2) = _
  have e1 : sortD ([] : List (List UInt8)) = [] := List.eq_nil_of_length_eq_zero (sortD_perm []).length_eq
  have e2 : sortD (firstD 1 1) = firstD 1 1 := by
    have h := (sortD_perm (firstD 1 1))
    have e : firstD 1 1 = [dN 1] := rfl
    rw [e] at h ⊢
    exact List.perm_singleton.1 h
  rw [e1, e2]
end Go.Proofs.YtebgopdmeghmhaaGreat
namespace Go.Proofs.YtebgopdmeghmhaaGreat
open Go.RowKit

theorem RgsR.single {S : Nat → Prop} {w : World} {v : Value} {r : Rg} (h : RgsR S w v [r]) :
    ∃ b off c vi, v = .slice (some ⟨b, off, none⟩) 1 c ∧ 1 ≤ c ∧ c ≤ maxLen ∧ b < w.heap.size ∧ w.rangeAt b off (r.cells vi) ∧ DigR S w vi r.ids ∧ r.ok := by
  obtain ⟨q, off, c, vi, rfl, hc1, hc2, _, hq, hr, hvi, hok⟩ := h.at (i := 0) (by simp)
  exact ⟨q, off, c, vi, rfl, hc1, hc2, hq, by simpa using hr, hvi, hok⟩
set_option maxRecDepth 100000 in
set_option maxHeartbeats 4000000 in
theorem law48_awake (w : World) : Calls Tryz.prog 4 #[] w fun e w' => e = .returned (.bool true) ∧ Below w.heap.size w w' := by
  have F19 := Lib.hid fun W => law48_first W 1 9 1 9 rfl rfl (by decide)
  have F28 := Lib.hid fun W => law48_first W 2 8 2 9 rfl rfl (by decide)
  have F11 := Lib.hid fun W => law48_first W 1 1 1 1 rfl rfl (by decide)
  have St := Lib.hid fun S W v (h : DigR S W v (firstD 1 9)) => rc_Start W v _ h (by decide)
  have A1 := Lib.hid fun S1 S2 W v v2 (h : DigR S1 W v (firstD 2 8)) (h2 : RgsR S2 W v2 [summR zeroD zeroD (firstD 1 9)]) => rc_Answer W v v2 _ _ h h2 (by decide) (by decide) (fun r hr => by rw [List.mem_singleton.1 hr]; decide)
  have A2 := Lib.hid fun S1 S2 W v v2 (h : DigR S1 W v (firstD 1 9)) (h2 : RgsR S2 W v2 [listR zeroD zeroD (firstD 2 8)]) => rc_Answer W v v2 _ _ h h2 (by decide) (by decide) (fun r hr => by rw [List.mem_singleton.1 hr]; decide)
  have Rn := Lib.hid fun S1 S2 W v v2 (h : DigR S1 W v (firstD 1 9)) (h2 : DigR S2 W v2 (firstD 2 8)) => rc_Run W v v2 _ _ h h2 (by decide) (by decide)
  have Sm := Lib.hid fun S1 S2 W v v2 (h : DigR S1 W v (firstD 1 1)) (h2 : DigR S2 W v2 (firstD 1 1)) => ref02_Same (S := fun _ => True) W v v2 _ _ (h.mono fun _ _ => trivial) (h2.mono fun _ _ => trivial) (by decide) (by decide)
  go_enter Tryz.func4, Tryz.ntmps4
  go_wp2_with fail
  refine (F19.out _).mono ?_
  rintro e w1 ⟨u1, rfl, h1, b1⟩
  go_wp2_with fail
  refine (St.out _ _ _ h1.dig).mono ?_
  rintro e w2 ⟨u2, rfl, h2, hb2⟩
  rw [aw_s] at h2
  obtain ⟨q, off, c, vi, rfl, hc1, hc2, hq, hr, _, hok⟩ := h2.single
  have H2 := Lib.hid h2
  have R2 := Lib.hid hr
  have b2 := Below.then b1 hb2 b1.size
  have Q2 := Lib.hid hq
  have K2 := Lib.hid hok
  clear h1 b1 h2 hb2 hr hq hok
  go_wp2_with fail
  refine (F28.out _).mono ?_
  rintro e w3 ⟨u3, rfl, h3, hb3⟩
  have b3 := Below.then b2 hb3 b2.size
  have H3 := Lib.hid (H2.out.below hb3)
  have R3 := Lib.hid (rangeAt_below R2.out hb3 Q2.out)
  have Q3 := Lib.hid (Nat.lt_of_lt_of_le Q2.out hb3.size)
  clear b2 hb3 H2 R2 Q2
  go_wp2_with fail
  refine (A1.out _ _ _ _ _ h3.dig H3.out).mono ?_
  rw [aw_1]
  rintro e w4 ⟨u4, x4, y4, rfl, h4, _, _, hb4⟩
  obtain ⟨p, of2, c2, v2, rfl, hd1, hd2, hp, hr, hvi, hok⟩ := h4.single
  have b4 := Below.then b3 hb4 b3.size
  have R4 := Lib.hid (rangeAt_below R3.out hb4 Q3.out)
  have Q4 := Lib.hid (Nat.lt_of_lt_of_le Q3.out hb4.size)
  have H4 := Lib.hid h4
  have P4 := Lib.hid hr
  have Z4 := Lib.hid hp
  have K4 := Lib.hid hok
  obtain ⟨oi, ci, rfl⟩ : ∃ o c, v2 = .slice o 8 c := by obtain ⟨⟨o, c, e, _⟩, _⟩ := hvi; rw [digC_size] at e; exact ⟨o, c, e⟩
  clear b3 hb4 H3 R3 Q3 h4 hr hp hok hvi h3
  go_wp2_with fail
  refine (F19.out _).mono ?_
  rintro e w5 ⟨u5, rfl, h5, hb5⟩
  have b5 := Below.then b4 hb5 b4.size
  have R5 := Lib.hid (rangeAt_below R4.out hb5 Q4.out)
  have Q5 := Lib.hid (Nat.lt_of_lt_of_le Q4.out hb5.size)
  have H5 := Lib.hid (H4.out.below hb5)
  have P5 := Lib.hid (rangeAt_below P4.out hb5 Z4.out)
  have Z5 := Lib.hid (Nat.lt_of_lt_of_le Z4.out hb5.size)
  clear b4 hb5 R4 Q4 H4 P4 Z4
  go_wp2_with fail
  refine (A2.out _ _ _ _ _ h5.dig H5.out).mono ?_
  rw [aw_2]
  rintro e w6 ⟨u6, x6, y6, rfl, h6, g6, k6, hb6⟩
  obtain ⟨o6, c6, rfl⟩ := h6.slice
  obtain ⟨o7, c7, rfl⟩ : ∃ o c, x6 = .slice o 0 c := by obtain ⟨⟨o, c, e, _⟩, _⟩ := g6; exact ⟨o, c, e⟩
  have b6 := Below.then b5 hb6 b5.size
  have R6 := Lib.hid (rangeAt_below R5.out hb6 Q5.out)
  have Q6 := Lib.hid (Nat.lt_of_lt_of_le Q5.out hb6.size)
  have P6 := Lib.hid (rangeAt_below P5.out hb6 Z5.out)
  have Z6 := Lib.hid (Nat.lt_of_lt_of_le Z5.out hb6.size)
  have G6 := Lib.hid k6
  clear b5 hb6 R5 Q5 H5 P5 Z5 h5 h6 g6 k6
  go_wp2_with fail
  refine (F19.out _).mono ?_
  rintro e w7 ⟨u7, rfl, h7, hb7⟩
  have b7 := Below.then b6 hb7 b6.size
  have R7 := Lib.hid (rangeAt_below R6.out hb7 Q6.out)
  have Q7 := Lib.hid (Nat.lt_of_lt_of_le Q6.out hb7.size)
  have P7 := Lib.hid (rangeAt_below P6.out hb7 Z6.out)
  have Z7 := Lib.hid (Nat.lt_of_lt_of_le Z6.out hb7.size)
  have G7 := Lib.hid (G6.out.below hb7)
  have H7 := Lib.hid h7
  clear b6 hb7 R6 Q6 P6 Z6 G6 h7
  go_wp2_with fail
  refine (F28.out _).mono ?_
  rintro e w8 ⟨u8, rfl, h8, hb8⟩
  have b8 := Below.then b7 hb8 b7.size
  have R8 := Lib.hid (rangeAt_below R7.out hb8 Q7.out)
  have Q8 := Lib.hid (Nat.lt_of_lt_of_le Q7.out hb8.size)
  have P8 := Lib.hid (rangeAt_below P7.out hb8 Z7.out)
  have Z8 := Lib.hid (Nat.lt_of_lt_of_le Z7.out hb8.size)
  have G8 := Lib.hid (G7.out.below hb8)
  have H8 := Lib.hid (H7.out.dig.below hb8)
  clear b7 hb8 R7 Q7 P7 Z7 G7 H7
  go_wp2_with fail
  refine (Rn.out _ _ _ _ _ H8.out h8.dig).mono ?_
  rw [aw_r]
  rintro e w9 ⟨u9, x9, rfl, _, k9, hb9⟩
  have b9 := Below.then b8 hb9 b8.size
  have hr9 := rangeAt_below R8.out hb9 Q8.out
  have hp9 := rangeAt_below P8.out hb9 Z8.out
  have d2 : w9.cell? ⟨q, off + 64, none⟩ = some (.bool false) := by exact Rg.listed_at K2.out hr9
  have d3 : w9.cell? ⟨q, off + 65, none⟩ = some (.int .i64 9) := by exact Rg.count_at K2.out hr9
  have e2 : w9.cell? ⟨p, of2 + 64, none⟩ = some (.bool true) := by exact Rg.listed_at K4.out hp9
  have e5 : w9.cell? ⟨p, of2 + 98, none⟩ = some (.slice oi 8 ci) := by exact Rg.ids_at K4.out hp9
  have G9 := Lib.hid (G8.out.below hb9)
  have K9 := Lib.hid k9
  clear b8 hb9 R8 Q8 P8 Z8 G8 H8 h8 hr9 hp9 k9
  go_wp2_with fail
  refine (F11.out _).mono ?_
  rintro e w10 ⟨u10, rfl, h10, hb10⟩
  have b10 := Below.then b9 hb10 b9.size
  have G10 := Lib.hid (G9.out.below hb10)
  have K10 := Lib.hid (K9.out.below hb10)
  clear b9 hb10 G9 K9 d2 d3 e2 e5
  go_wp2_with fail
  refine (Sm.out _ _ _ _ _ G10.out h10.dig).mono ?_
  rintro e w11 ⟨rfl, hb11⟩
  have b11 := Below.then b10 hb11 b10.size
  have K11 := Lib.hid (K10.out.below hb11)
  clear b10 hb11 K10 h10
  go_wp2_with fail
  refine (F11.out _).mono ?_
  rintro e w12 ⟨u12, rfl, h12, hb12⟩
  have b12 := Below.then b11 hb12 b11.size
  have K12 := Lib.hid (K11.out.below hb12)
  clear b11 hb12 K11
  go_wp2_with fail
  refine (Sm.out _ _ _ _ _ K12.out h12.dig).mono ?_
  rintro e w13 ⟨rfl, hb13⟩
  have b13 := Below.then b12 hb13 b12.size
  clear b12 hb13 h12
  go_wp2
  go_ret
  exact ⟨rfl, b13⟩
end Go.Proofs.YtebgopdmeghmhaaGreat
