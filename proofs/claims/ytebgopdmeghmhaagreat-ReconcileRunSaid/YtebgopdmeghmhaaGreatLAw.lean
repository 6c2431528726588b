/- Same, of tables and of lists of digests. awake of the laws of layer 47. -/
import Derived.Test.YtebgopdmeghmhaaGreatIbPut
import Derived.Test.YtebgopdmeghmhaaGreatIbSing
import Derived.Test.YtebgopdmeghmhaaGreatArr
namespace Go.Proofs.YtebgopdmeghmhaaGreat
open Go.RowKit

instance : DecidableEq Cl := fun a b => decidable_of_iff (a.eqB b = true) (Cl.eqB_iff a b)







































































































set_option maxRecDepth 100000 in
set_option maxHeartbeats 1600000 in
theorem ref02_Same {S : Nat → Prop} (w : World) (va vb : Value) (a b : List (List UInt8)) (ha : DigR S w va a) (hb : DigR S w vb b) (hma : a.length ≤ 1000000) (_hmb : b.length ≤ 1000000) :
    Calls Tryz.prog 9 #[va, vb] w fun e w' => e = .returned (.bool (decide (a = b))) ∧ Below w.heap.size w w' := by
  obtain ⟨oa, ca, rfl⟩ : ∃ o c, va = .slice o a.length c := by obtain ⟨⟨o, c, e, _⟩, _⟩ := ha; rw [digC_size] at e; exact ⟨o, c, e⟩
  obtain ⟨ob, cb, rfl⟩ : ∃ o c, vb = .slice o b.length c := by obtain ⟨⟨o, c, e, _⟩, _⟩ := hb; rw [digC_size] at e; exact ⟨o, c, e⟩
  go_enter Tryz.func9, Tryz.ntmps9
  by_cases hlen : a.length = b.length
  · have hlen' : ((a.length : Int) != (b.length : Int)) = false := by rw [bne_eq_false_iff_eq]; omega
    have Hlen := Lib.hid hlen
    have Ha := Lib.hid ha
    have Hb := Lib.hid hb
    clear ha hb hlen
    go_wp2
    go_loopw [5] (fun i wr => ∃ k : Nat, k ≤ a.length ∧ i = .int .i64 k ∧ (∀ j, j < k → a[j]? = b[j]?) ∧ Below w.heap.size w wr) (fun i _ => a.length - (intOf i).toNat)
    case atStart => exact ⟨0, by omega, rfl, (fun j h => by omega), Below.refl _ _⟩
    case round =>
      obtain ⟨k, hk, rfl, heq, hB⟩ := hrel
      have ha := Ha.out
      have hb := Hb.out
      by_cases hlt : k < a.length
      · have hlt' : (k : Int) < (a.length : Int) := by omega
        have hka : k < a.length := hlt
        have hkb : k < b.length := by rw [← Hlen.out]; exact hlt
        have hlb' : (k : Int) < (b.length : Int) := by omega
        obtain ⟨ba, fa, ca', ea, _, _, _, hba, hra⟩ := ha.at hka
        obtain ⟨bb, fb, cb', eb, _, _, _, hbb, hrb⟩ := hb.at hkb
        obtain ⟨rfl, rfl⟩ : oa = some ⟨ba, fa, none⟩ ∧ ca = ca' := by simpa using ea
        obtain ⟨rfl, rfl⟩ : ob = some ⟨bb, fb, none⟩ ∧ cb = cb' := by simpa using eb
        have hxo : a[k].length = 32 := ha.2 _ (List.getElem_mem hka)
        have hyo : b[k].length = 32 := hb.2 _ (List.getElem_mem hkb)
        have hax : a[k]? = some a[k] := List.getElem?_eq_getElem hka
        have hby : b[k]? = some b[k] := List.getElem?_eq_getElem hkb
        generalize a[k] = x at *
        generalize b[k] = y at *
        have Hra := Lib.hid (rangeAt_below hra hB hba)
        have Hrb := Lib.hid (rangeAt_below hrb hB hbb)
        have lba : ba < wr.heap.size := Nat.lt_of_lt_of_le hba hB.size
        have lbb : bb < wr.heap.size := Nat.lt_of_lt_of_le hbb hB.size
        have Hx := Lib.hid hxo
        have Hy := Lib.hid hyo
        have Hxl : Hid ((bytesV x).length = 32) := Lib.hid (by rw [bytesV_len, hxo])
        have Hyl : Hid ((bytesV y).length = 32) := Lib.hid (by rw [bytesV_len, hyo])
        have Hax := Lib.hid hax
        have Hby := Lib.hid hby
        have Heq := Lib.hid heq
        clear hra hrb hxo hyo ea eb ha hb hax hby heq hba hbb
        cases hq : (!decide (x = y))
        · have Hq := Lib.hid hq
          go_wp2_with fail
          refine wp_region_lat (by kernel_rfl) (by kernel_rfl) ?_
          repeat (first | go_big_quiet_skip | (go_big_quiet_want; first | ((first | (refine quiet_load_row 39 (.tmp 19) rfl ba (fa + k * 32) (by first | rfl | (simp)) (bytesV x) _ (lat_range Hra.out lba) Tryz.underlying39 rfl (by rw [sizeDg, Hxl.out]) ?_) | (refine quiet_load_row 39 (.tmp 23) rfl bb (fb + k * 32) (by first | rfl | (simp)) (bytesV y) _ (lat_range Hrb.out lbb) Tryz.underlying39 rfl (by rw [sizeDg, Hyl.out]) ?_) | (refine quiet_run (.bool false) (fun w => by rw [run_neq_dg _ (.tmp 20) (.tmp 24) rfl x y Hx.out Hy.out rfl rfl, Hq.out]) ?_)); simp only [Act.put, List.setIfInBounds_toArray, List.set_cons_zero, List.set_cons_succ]; go_big_quiet_on) | (go_big_quiet_op; first | go_big_quiet_on | go_big_quiet_call ((fail)))))
          refine wpQuiet_nil ?_
          rintro W4 ⟨⟨_, hb4⟩, rfl⟩
          have hB4 := Below.then hB hb4 hB.size
          go_wp2
          go_roundw
          case rel =>
            refine ⟨k + 1, by omega, by go_num, fun j hj => ?_, hB4⟩
            rcases Nat.lt_succ_iff_lt_or_eq.1 hj with h | rfl
            · exact Heq.out j h
            · rw [Hax.out, Hby.out]
              congr 1
              exact by simpa using hq
          case measure => simp [intOf]; omega
        · have Hq := Lib.hid hq
          have hne : decide (a = b) = false := by
            rw [decide_eq_false_iff_not]
            intro e
            have h1 := Hax.out
            rw [e, Hby.out] at h1
            have h2 : y = x := Option.some.inj h1
            exact absurd h2.symm (fun e => by rw [e] at hq; simp at hq)
          have Hne := Lib.hid hne
          clear hne
          go_wp2_with fail
          refine wp_region_lat (by kernel_rfl) (by kernel_rfl) ?_
          repeat (first | go_big_quiet_skip | (go_big_quiet_want; first | ((first | (refine quiet_load_row 39 (.tmp 19) rfl ba (fa + k * 32) (by first | rfl | (simp)) (bytesV x) _ (lat_range Hra.out lba) Tryz.underlying39 rfl (by rw [sizeDg, Hxl.out]) ?_) | (refine quiet_load_row 39 (.tmp 23) rfl bb (fb + k * 32) (by first | rfl | (simp)) (bytesV y) _ (lat_range Hrb.out lbb) Tryz.underlying39 rfl (by rw [sizeDg, Hyl.out]) ?_) | (refine quiet_run (.bool true) (fun w => by rw [run_neq_dg _ (.tmp 20) (.tmp 24) rfl x y Hx.out Hy.out rfl rfl, Hq.out]) ?_)); simp only [Act.put, List.setIfInBounds_toArray, List.set_cons_zero, List.set_cons_succ]; go_big_quiet_on) | (go_big_quiet_op; first | go_big_quiet_on | go_big_quiet_call ((fail)))))
          refine wpQuiet_nil ?_
          rintro W4 ⟨⟨_, hb4⟩, rfl⟩
          have hB4 := Below.then hB hb4 hB.size
          go_wp2
          go_ret
          exact ⟨by rw [Hne.out]; rfl, hB4⟩
      · obtain rfl : k = a.length := by omega
        have hlt' : ¬ (a.length : Int) < (a.length : Int) := by omega
        have he : decide (a = b) = true := by
          rw [decide_eq_true_iff]
          apply List.ext_getElem?
          intro j
          by_cases hj : j < a.length
          · exact heq j hj
          · rw [List.getElem?_eq_none (by omega), List.getElem?_eq_none (by have := Hlen.out; omega)]
        have He := Lib.hid he
        clear he ha hb heq
        go_wp2
        go_ret
        exact ⟨by rw [He.out]; rfl, hB⟩
  · have hlen' : ((a.length : Int) != (b.length : Int)) = true := by rw [bne_iff_ne]; omega
    have hne : decide (a = b) = false := by rw [decide_eq_false_iff_not]; intro e; exact hlen (by rw [e])
    go_wp2
    go_ret
    exact ⟨by rw [hne]; rfl, Below.refl _ _⟩
end Go.Proofs.YtebgopdmeghmhaaGreat
namespace Go.Proofs.YtebgopdmeghmhaaGreat
open Go.RowKit

def dA : List UInt8 := (zeroD.set 7 1).set 23 3
theorem dA_len : dA.length = 32 := rfl
def tA : List Cl := ofFold (newT 6) [dA]
theorem dA_dok : Dok [dA] := by intro x hx; rw [List.mem_singleton.1 hx]; exact dA_len
theorem tA_len : tA.length = 6 := by unfold tA; rw [ofFold_len]; rfl
theorem tA_get (i : Nat) : tA.getD i Cl.zero = ctr dA 1 6 i := by
  unfold tA
  rw [ofFold_new (by decide) dA_dok, csum_one dA_len]; rfl
theorem tA_nok : Tnok tA := ofFold_nok dA_dok (newT_nok 6) (by rw [newT_len (by decide)]; decide)
theorem of_A : ofT 6 [dA] = (tA, 0) := rfl
theorem inc_A : incB dA 6 0 = false ∧ incB dA 6 1 = true ∧ incB dA 6 2 = true ∧ incB dA 6 5 = true := by decide +kernel
theorem tA_0 : tA.getD 0 Cl.zero = Cl.zero := by rw [tA_get]; unfold ctr; rw [inc_A.1]; rfl
theorem tA_1 : (tA.getD 1 Cl.zero).n = 1 := by rw [tA_get]; unfold ctr; rw [inc_A.2.1]; rfl
theorem tA_2 : (tA.getD 2 Cl.zero).n = 1 := by rw [tA_get]; unfold ctr; rw [inc_A.2.2.1]; rfl
theorem tA_5 : (tA.getD 5 Cl.zero).k = dA := by rw [tA_get]; unfold ctr; rw [inc_A.2.2.2]; rfl
theorem peel_A : peelT tA = ([dA], [], true) := by
  have := peel_one dA_len (q := 1) (.inl rfl) (t := tA) (by rw [tA_len]; rfl) tA_nok (fun i _ => by rw [tA_get, tA_len])
  simpa using this
section
variable {a : Act} {o : Oper} {w : World}
theorem run_eql_dg (r : TypeId) (x y : Operand) (ho : o.op = .binOp .eql 39 x y r) (p q : List UInt8) (hp : p.length = 32) (hq : q.length = 32) (hx : a.eval x = dgV p) (hy : a.eval y = dgV q) : (execOp a.eval o).run Tryz.prog w = .ok (.value (.bool (decide (p = q)))) w := by
  have e := run_eqDg 9998 w p q hp hq
  unfold execOp
  rw [ho]
  unfold dgV at hx hy e
  simp only [hx, hy, Sem.run_bind, run_eqGuard_agg w .eql 39 x y _ _ guardDg, Result.andThen_ok, run_eql_struct, e, Sem.run_pure]
theorem run_eql_cl (r : TypeId) (x y : Operand) (ho : o.op = .binOp .eql 67 x y r) (p q : Cl) (hp : p.ok) (hq : q.ok) (hx : a.eval x = p.V) (hy : a.eval y = q.V) : (execOp a.eval o).run Tryz.prog w = .ok (.value (.bool (p.eqB q))) w := by
  have e := run_eqCl 9997 w p q hp hq
  unfold execOp
  rw [ho]
  unfold Cl.V at hx hy e
  simp only [hx, hy, Sem.run_bind, run_eqGuard_agg w .eql 67 x y _ _ guardCl, Result.andThen_ok, run_eql_struct, e, Sem.run_pure]
end
/-- a list of one digest, made within a region -/
def annD (d : List UInt8) : Ann := ⟨fun r => .slice (some ⟨r.lo, 0, none⟩) 1 1, fun r W => Bx W r.lo (bytesV d).toArray 39⟩
theorem Bx.digs {w : World} {b : Nat} {d : List UInt8} (hd : d.length = 32) (h : Bx w b (bytesV d).toArray 39) : DigR (· = b) w (.slice (some ⟨b, 0, none⟩) 1 1) [d] := by
  refine ⟨⟨some ⟨b, 0, none⟩, 1, rfl, .inr ⟨_, rfl, Nat.le_refl _, by unfold maxLen; decide⟩, ?_⟩, fun x hx => by rw [List.mem_singleton.1 hx]; exact hd⟩
  have := RowAt.bx h
  simpa [digC] using this
theorem lz_build1 {P : Program} {o : Oper} {a : Act} {W : World} (t : TypeId) (x : Operand) (hop : o.op = .buildSlice t 1 #[(0, x)]) (e : TypeId) (i : TypeInfo) (z : List Value) (m : Nat) (ht : P.underlying t = some (.slice e)) (hi : P.info? e = some i) (hz : i.zero = some (.agg z.toArray)) (hs : i.size = m) (hzl : z.length = m) (hm : 0 < m ∧ m ≤ 16777216) (cs : List Value) (hc : cs.length = m) (hx : a.eval x = .agg cs.toArray) :
    lzAt P o a W (lzPost ⟨fun r => .slice (some ⟨r.lo, 0, none⟩) 1 1, fun r w => Bx w r.lo cs.toArray e⟩ W) := by
  have hr := run_buildSlice1 (P := P) (w := W) t e i z m ht hi hz hs hzl hm cs hc
  unfold lzAt execOp
  simp [hop, hx, hr, Result.andThen]
  exact ⟨Below.one W (.cells cs.toArray e), fun _ => undef, rfl, fun w'' hb => (Bx.new W cs.toArray e).belowAll hb⟩












































































































































end Go.Proofs.YtebgopdmeghmhaaGreat
