/- iblt.Peel. -/
import Derived.Test.YtebgopdmeghmhaaGreatTab
import Derived.Test.YtebgopdmeghmhaaGreatIbSort
import Derived.Test.YtebgopdmeghmhaaGreatIbPure
import Derived.Test.YtebgopdmeghmhaaGreatIbIns
namespace Go.Proofs.YtebgopdmeghmhaaGreat
open Go.RowKit

/-- the first cell that can be peeled -/
def firstP (t : List Cl) : Option Nat := (List.range t.length).find? (pureB t)
theorem firstP_some {t : List Cl} {i : Nat} (hi : i < t.length) (hp : pureB t i = true) (hn : ∀ j, j < i → pureB t j = false) : firstP t = some i := by
  unfold firstP
  rw [List.find?_range_eq_some]
  exact ⟨hp, by simpa using hi, fun j hj => by simp [hn j hj]⟩
theorem firstP_none {t : List Cl} (hn : ∀ j, j < t.length → pureB t j = false) : firstP t = none := by
  unfold firstP
  rw [List.find?_range_eq_none]
  intro j hj
  simp [hn j hj]
/-- how far peeling is -/
theorem RowAt.inb {S : Nat → Prop} {w : World} {o : Option Addr} {l : List Value} (h : RowAt S w o l) : RowAt (fun b => S b ∧ b < w.heap.size) w o l := by
  intro j hj
  obtain ⟨b, off, e, hc, hs⟩ := h j hj
  obtain ⟨o', ho, _⟩ := cells_of_cell hc
  exact ⟨b, off, e, hc, hs, (Array.getElem?_eq_some_iff.1 ho).1⟩
theorem TabR.inb {S : Nat → Prop} {w : World} {v : Value} {t : List Cl} (h : TabR S w v t) : TabR (fun b => S b ∧ b < w.heap.size) w v t := by
  obtain ⟨⟨o, c, e, hs, hr⟩, hok⟩ := h
  exact ⟨⟨o, c, e, hs, hr.inb⟩, hok⟩
structure Ps where
  t : List Cl
  p : List (List UInt8)
  m : List (List UInt8)
def peelAt (s : Ps) (i : Nat) : Ps :=
  let c := s.t.getD i Cl.zero
  ⟨putT s.t c.k (wrap64 (-c.n)), if c.n = 1 then s.p ++ [c.k] else s.p, if c.n = 1 then s.m else s.m ++ [c.k]⟩
def peel1 (s : Ps) : Ps := match firstP s.t with
  | none => s
  | some i => peelAt s i
def peelN : Nat → Ps → Ps
  | 0, s => s
  | n + 1, s => peel1 (peelN n s)
theorem peelN_stop {s : Ps} {j : Nat} (h : firstP (peelN j s).t = none) : ∀ n, peelN (j + n) s = peelN j s
  | 0 => rfl
  | n + 1 => by
    have ih := peelN_stop h n
    show peel1 (peelN (j + n) s) = _
    rw [ih]; unfold peel1; rw [h]
theorem peelN_stop' {s : Ps} {j : Nat} (h : firstP (peelN j s).t = none) {n : Nat} (hn : j ≤ n) : peelN n s = peelN j s := by
  have := peelN_stop h (n - j)
  rwa [show j + (n - j) = n by omega] at this
theorem peelAt_len (s : Ps) (i : Nat) : (peelAt s i).t.length = s.t.length := putT_len _ _ _
theorem peelN_len (s : Ps) : ∀ n, (peelN n s).t.length = s.t.length
  | 0 => rfl
  | n + 1 => by
    show (peel1 (peelN n s)).t.length = _
    unfold peel1
    split
    · exact peelN_len s n
    · rw [peelAt_len]; exact peelN_len s n
def Ps.ok (s : Ps) : Prop := Tok s.t ∧ Dok s.p ∧ Dok s.m
theorem Dok.snoc {l : List (List UInt8)} (h : Dok l) {d : List UInt8} (hd : d.length = 32) : Dok (l ++ [d]) := by
  intro x hx
  rcases List.mem_append.1 hx with h1 | h1
  · exact h x h1
  · rw [List.mem_singleton.1 h1]; exact hd
theorem peelAt_ok {s : Ps} (h : s.ok) (i : Nat) : (peelAt s i).ok := by
  have hc := h.1.get i
  refine ⟨putT_ok h.1 hc.1 _, ?_, ?_⟩
  · show Dok (if _ then _ else _)
    split
    · exact h.2.1.snoc hc.1
    · exact h.2.1
  · show Dok (if _ then _ else _)
    split
    · exact h.2.2
    · exact h.2.2.snoc hc.1
/-- everything but the sides -/
def peelT (t : List Cl) : List (List UInt8) × List (List UInt8) × Bool :=
  if checkT t = 0 then
    (if (peelN t.length ⟨t, [], []⟩).t.any (fun c => !c.eqB Cl.zero) then ([], [], false) else (sortD (peelN t.length ⟨t, [], []⟩).p, sortD (peelN t.length ⟨t, [], []⟩).m, true))
  else ([], [], false)
def PeelE (w : World) (x : List (List UInt8) × List (List UInt8) × Bool) (e : Ending) (w' : World) : Prop :=
  ∃ vp vm, e = .returned (.tuple #[vp, vm, .bool x.2.2]) ∧ DigR (fun b => w.heap.size ≤ b ∧ b < w'.heap.size) w' vp x.1 ∧ DigR (fun b => w.heap.size ≤ b ∧ b < w'.heap.size) w' vm x.2.1 ∧ Below w.heap.size w w'

set_option maxHeartbeats 1000000 in
theorem iblt_peel1 (c : Cl) (hc : c.ok) (w : World) : Calls Tryz.prog 50 #[c.V] w fun e w' => e = .returned (.bool (!c.eqB Cl.zero)) ∧ Below w.heap.size w w' := by
  have xb := Bx.new w c.cells.toArray 67
  have hB := Below.one w (.cells c.cells.toArray 67)
  have hV : c.V = .agg c.cells.toArray := rfl
  have hcl := Lib.hid (Cl.len hc)
  have hr := Lib.hid xb.range
  rw [hV]
  have hc' := Lib.hid hc
  have hcs : ∃ cs, c.cells.toArray = cs := ⟨_, rfl⟩
  obtain ⟨cs, hcs⟩ := hcs
  rw [hcs] at hr hB ⊢
  have Hcs := Lib.hid hcs
  clear hV xb hcs hc
  go_enter Tryz.func50, Tryz.ntmps50
  go_wp2_with (first
    | (refine wpList_load_mid rfl 67 (.tmp 1) rfl w.heap.size 0 rfl cs.toList _ hr.out Tryz.underlying67 rfl (by rw [sizeCl, ← Hcs.out]; simp [hcl.out]) ?_)
    | (refine wpList_value rfl (.bool (!c.eqB Cl.zero)) (run_neq_cl _ (.tmp 3) (.tmp 4) rfl c Cl.zero hc'.out Cl.zero_ok (by unfold Cl.V; rw [Hcs.out]; rfl) rfl) ?_))
  go_ret
  exact ⟨rfl, hB⟩

set_option maxRecDepth 100000 in
set_option maxHeartbeats 4000000 in
theorem iblt_Peel {S : Nat → Prop} (w : World) (v : Value) (t : List Cl) (h : TabR S w v t) (hm : t.length ≤ 1000000) :
    Calls Tryz.prog 21 #[v] w (PeelE w (peelT t)) := by
  obtain ⟨o, c, rfl⟩ : ∃ o c, v = .slice o t.length c := by obtain ⟨⟨o, c, e, _⟩, _⟩ := h; rw [tabC_size] at e; exact ⟨o, c, e⟩
  obtain ⟨ic, hic, hz, hs, hby⟩ := info_parts infoCl
  obtain ⟨idg, hidg, hzd, hsd, hbyd⟩ := info_parts infoDg
  obtain ⟨z0, hz0⟩ : ∃ z, (.agg (#[.int .i64 0] ++ Array.replicate 64 (.int .u8 0)) : Value) = .agg z := ⟨_, rfl⟩
  have hzl : z0.size = 65 := by injection hz0 with e; rw [← e]; simp
  rw [hz0] at hz
  have Hzi : Hid ((Tryz.prog.info? 67).map (·.zero) = some (some (.agg z0))) := Lib.hid (by rw [hic]; simp [hz])
  have Hzl := Lib.hid hzl
  have Hidg : Hid (Tryz.prog.info? 39 = some idg ∧ idg.zero = some (.agg (List.replicate 32 (Value.int .u8 0)).toArray) ∧ idg.size = 32) := Lib.hid ⟨hidg, by rw [hzd]; rfl, hsd⟩
  have HT := Lib.hid h
  clear hz hz0 hzl hs hby hic hidg hzd hsd hbyd h
  go_enter Tryz.func21, Tryz.ntmps21
  go_wp2_with fail
  refine (iblt_Check _ _ t HT.out hm).mono ?_
  rintro e w1 ⟨rfl, hb1⟩
  rcases checkT_cases t with hck | hck
  · rw [hck]
    have hal := allowedB_iff.1 (checkT_len hck).1
    have Hpt : Hid (peelT t = if (peelN t.length ⟨t, [], []⟩).t.any (fun c => !c.eqB Cl.zero) then ([], [], false) else (sortD (peelN t.length ⟨t, [], []⟩).p, sortD (peelN t.length ⟨t, [], []⟩).m, true)) := Lib.hid (by unfold peelT; rw [if_pos hck])
    have hT0 := HT.out.below hb1
    have hlen := peelN_len ⟨t, [], []⟩
    have hok0 : Ps.ok ⟨t, [], []⟩ := ⟨HT.out.2, fun _ h => (by cases h), fun _ h => (by cases h)⟩
    have hn3 : 3 ≤ t.length := by omega
    have hn4 : t.length ≤ 3000 := by omega
    clear hck hal HT hm
    have Hlen := Lib.hid hlen
    clear hlen
    obtain ⟨n, hn⟩ : ∃ n, t.length = n := ⟨_, rfl⟩
    have Hn := Lib.hid hn
    rw [hn] at hT0 hn3 hn4 Hpt ⊢
    clear hn
    go_wp2
    go_loopw [0, 5, 6, 14] (fun u0 up um i wr => ∃ (k : Nat) (st : Ps) (o2 : Option Addr) (c2 : Nat), k ≤ n ∧ i = .int .i64 k ∧ u0 = .slice o2 n c2 ∧ Hid (peelN k ⟨t, [], []⟩ = st) ∧ st.ok ∧ TabR (fun b => up.ownBlock ≠ some b ∧ um.ownBlock ≠ some b) wr u0 st.t ∧
      st.p.length ≤ k ∧ st.m.length ≤ k ∧ wr.ownsRow w.heap.size 39 32 up st.p.length (digC st.p).flatten ∧ wr.ownsRow w.heap.size 39 32 um st.m.length (digC st.m).flatten ∧ (∀ b, up.ownBlock = some b → um.ownBlock ≠ some b) ∧ Below w.heap.size w wr) (fun _ _ _ i _ => n - (intOf i).toNat)
    case atStart =>
      refine ⟨0, ⟨t, [], []⟩, o, c, by omega, rfl, rfl, Lib.hid rfl, hok0, ?_, Nat.le_refl _, Nat.le_refl _, World.ownsRow_nil _ _ _ _, World.ownsRow_nil _ _ _ _, (fun b hb => by cases hb), hb1⟩
      have := hT0.mono (T := fun b => (Value.slice none 0 0).ownBlock ≠ some b ∧ (Value.slice none 0 0).ownBlock ≠ some b) (fun b _ => ⟨fun e => (by cases e), fun e => (by cases e)⟩)
      exact this
    case round =>
      clear hT0 hb1 hok0
      obtain ⟨k, st, o2, c2, hk, rfl, rfl, Hst, hok, hT, hpl, hml, hP, hM, hne, hB⟩ := hrel
      have hstl : st.t.length = n := by rw [← Hst.out, Hlen.out, ← Hn.out]
      have hn0 : 0 < n := by omega
      by_cases hlt : k < n
      · have hlt' : (k : Int) < (n : Int) := by omega
        have hw : w.heap.size ≤ wr.heap.size := hB.size
        generalize hwe : wr = w2 at *
        clear hwe
        go_wp2
        go_loopw [7] (fun i wr => ∃ p : Nat, p ≤ n ∧ i = .int .i64 p ∧ (∀ j, j < p → pureB st.t j = false) ∧ Below w2.heap.size w2 wr) (fun i _ => n - (intOf i).toNat)
        case atStart => exact ⟨0, by omega, rfl, (fun j h => by omega), Below.refl _ _⟩
        case round =>
          obtain ⟨p, hp, rfl, hnp, hb2⟩ := hrel
          by_cases hpl' : p < n
          · have hpn : (p : Int) < (n : Int) := by omega
            have hpure := iblt_pure wr _ st.t p (hT.below hb2) (by omega) (by omega) (by omega)
            cases hpp : pureB st.t p
            · rw [hpp] at hpure
              have Hpure := Lib.hid hpure
              have Hnp : Hid (∀ j, j < p + 1 → pureB st.t j = false) := Lib.hid (fun j hj => by
                rcases Nat.lt_succ_iff_lt_or_eq.1 hj with h | rfl
                · exact hnp j h
                · exact hpp)
              have HT2 := Lib.hid hT
              clear hT hpure hnp hpp
              go_wp2_with fail
              refine Hpure.out.mono ?_
              rintro e w3 ⟨rfl, hb3⟩
              have hB3 := Below.then hb2 hb3 hb2.size
              go_wp2
              go_roundw
              case rel => exact ⟨p + 1, by omega, by go_num, Hnp.out, hB3⟩
              case measure => simp [intOf]; omega
            · rw [hpp] at hpure
              have Hpure := Lib.hid hpure
              have HT2 := Lib.hid hT
              have Hfp : Hid (firstP st.t = some p) := Lib.hid (firstP_some (by omega) hpp hnp)
              have hpe : ((p : Int) == (n : Int)) = false := by simp; omega
              clear hT hpure hnp hpp
              go_wp2_with fail
              refine Hpure.out.mono ?_
              rintro e w3 ⟨rfl, hb3⟩
              have hB3 := Below.then hb2 hb3 hb2.size
              clear hb2 hb3 Hpure
              have hT3 := HT2.out.below hB3
              have hP3 := ownsRow_belowAll hP hB3
              have hM3 := ownsRow_belowAll hM hB3
              have hBw := Below.then hB hB3 hB.size
              clear hP hM hB HT2 hB3
              obtain ⟨b, off, c', e', _, _, hSb, hbl, hra⟩ := hT3.at (i := p) (by omega)
              rw [hstl] at e'
              obtain ⟨rfl, rfl⟩ : o2 = some ⟨b, off, none⟩ ∧ c2 = c' := by simpa using e'
              have hckk : st.t[p].ok := hok.1 _ (List.getElem_mem _)
              have hgd : st.t.getD p Cl.zero = st.t[p] := by simp [List.getD_eq_getElem?_getD, List.getElem?_eq_getElem (show p < st.t.length by omega)]
              have hpa : peelAt st p = ⟨putT st.t st.t[p].k (wrap64 (-st.t[p].n)), if st.t[p].n = 1 then st.p ++ [st.t[p].k] else st.p, if st.t[p].n = 1 then st.m else st.m ++ [st.t[p].k]⟩ := by unfold peelAt; rw [hgd]
              have hokn := peelAt_ok hok p
              have hnx : peelN (k + 1) ⟨t, [], []⟩ = peelAt st p := by
                show peel1 (peelN k ⟨t, [], []⟩) = _
                rw [Hst.out]; unfold peel1; rw [Hfp.out]
              generalize st.t[p] = ck at *
              have hg3 := hT3.inb
              have hkl : (bytesV ck.k).length = 32 := by rw [bytesV_len, hckk.1]
              have Hkl := Lib.hid hkl
              have Hck := Lib.hid hckk
              have Hra := Lib.hid hra
              have Hcl := Lib.hid (Cl.len hckk)
              have Hck1 := Lib.hid (Cl.one ck)
              have hb6 : Below w3.heap.size w3 ((w3.alloc (.cells z0 67)).setCells w3.heap.size 0 ck.cells.toArray.toList) := below_setCells (Nat.le_refl _) _ _ _ (Below.one w3 (.cells z0 67))
              have xc := (Bx.new w3 z0 67).setAll (cx := ck.cells.toArray) (by rw [Hzl.out, List.size_toArray, Hcl.out])
              have hP6 := ownsRow_belowAll hP3 hb6
              have hM6 := ownsRow_belowAll hM3 hb6
              have hB6 := Below.then hBw hb6 hBw.size
              have hT6 := hg3.below hb6
              have hP3l := hP3.lt
              have hM3l := hM3.lt
              have Hnx := Lib.hid hnx
              have Hpa := Lib.hid hpa
              have Hokn := Lib.hid hokn
              have HT6 := Lib.hid hT6
              have HP6 := Lib.hid hP6
              have HM6 := Lib.hid hM6
              clear hkl hra e' hgd hpa hnx hokn hckk hT3 hP3 hM3 hBw hg3 hSb hok hT6 hP6 hM6 Hlen Hst Hfp
              have cN := Cl.count_at xc.range
              have HkR := Lib.hid (Cl.keys_at Hck.out xc.range)
              have lnc : w3.heap.size < ((w3.alloc (.cells z0 67)).setCells w3.heap.size 0 ck.cells.toArray.toList).heap.size := xc.lt
              cases hq : (ck.n == 1)
              · have hpp : (if ck.n = 1 then st.p ++ [ck.k] else st.p) = st.p ∧ (if ck.n = 1 then st.m else st.m ++ [ck.k]) = st.m ++ [ck.k] := by
                  rw [beq_eq_false_iff_ne] at hq; rw [if_neg hq, if_neg hq]; exact ⟨rfl, rfl⟩
                have Hpa2 : Hid (peelAt st p = ⟨putT st.t ck.k (wrap64 (-ck.n)), st.p, st.m ++ [ck.k]⟩) := Lib.hid (by rw [Hpa.out, hpp.1, hpp.2])
                clear hpp
                go_wp2_with (first
                  | (refine wpList_load_mid rfl 67 (.tmp 34) rfl b (off + p * 65) (by first | rfl | (simp)) ck.cells _ Hra.out Tryz.underlying67 rfl (by rw [sizeCl, Hcl.out]) ?_)
                  | (refine wpList_alloc_row rfl 67 rfl z0 Hzi.out ?_)
                  | (refine wpList_store_mid rfl 67 (.tmp 8) (.tmp 35) rfl w3.heap.size 0 ck.cells.toArray rfl rfl (there_bx (Bx.new w3 z0 67) (by rw [Hzl.out, List.size_toArray, Hcl.out]; exact Nat.le_refl _)) (by rw [sizeCl, List.size_toArray, Hcl.out]) Hck1.out ?_; generalize (w3.alloc (.cells z0 67)).setCells w3.heap.size 0 ck.cells.toArray.toList = w6 at *)
                  | (refine wpList_load_mid rfl 39 (.tmp 45) rfl w3.heap.size 1 (by first | rfl | (simp)) (bytesV ck.k) _ HkR.out Tryz.underlying39 rfl (by rw [sizeDg, Hkl.out]) ?_)
                  | (refine wpList_build1 rfl 22 (.tmp 46) rfl 39 idg (List.replicate 32 (Value.int .u8 0)) 32 Tryz.underlying22 Hidg.out.1 Hidg.out.2.1 Hidg.out.2.2 (by simp) (by decide) (bytesV ck.k) Hkl.out rfl ?_)
                  | (refine wpList_appD rfl (.tmp 44) (.tmp 47) rfl w.heap.size u6 st.m rfl (HM6.out.alloc _) w6.heap.size ck.k Hck.out.1 rfl (Bx.new _ _ _) (by omega) (by have := hB6.size; simp; omega) ?_; intro x6 w7 hM7 hg7 hk7; have xc7 := (xc.alloc (.cells (bytesV ck.k).toArray 39)).grown hg7 (fun e => by have := (hM3l _ e.symm).2; omega); have cN7 := Cl.count_at xc7.range; have HkR7 := Lib.hid (Cl.keys_at Hck.out xc7.range))
                  | (refine wpList_load_mid rfl 39 (.tmp 50) rfl w3.heap.size 1 (by first | rfl | (simp)) (bytesV ck.k) _ HkR7.out Tryz.underlying39 rfl (by rw [sizeDg, Hkl.out]) ?_))
                have hSz := hb6.size
                have hSi : InS (fun b => (u5.ownBlock ≠ some b ∧ u6.ownBlock ≠ some b) ∧ b < w3.heap.size) (w6.alloc (.cells (bytesV ck.k).toArray 39)) := fun b hb => by have := hb.2; simp; omega
                have hT7 := (HT6.out.below (Below.one w6 (.cells (bytesV ck.k).toArray 39))).same (Same.of_grown hg7 hSi (fun b hb hS => hS.1.2 hb))
                have hP7 := (HP6.out.alloc (.cells (bytesV ck.k).toArray 39)).kept hg7 (by
                  cases hqq : u5.ownBlock with
                  | none => exact .inl rfl
                  | some k => exact .inr (fun e => hne k hqq e.symm))
                have hB7 : Below w.heap.size w w7 := (hB6.alloc hB6.size (.cells (bytesV ck.k).toArray 39)).grown hg7 (hB6.alloc hB6.size (.cells (bytesV ck.k).toArray 39)).size (fun k e => (HM6.out.lt k e).1)
                have hne7 : ∀ b, u5.ownBlock = some b → x6.ownBlock ≠ some b := fun b hb e => by
                  rcases hk7 b e with h | h
                  · exact hne b hb h
                  · have := (HP6.out.lt b hb).2
                    simp at h; omega
                have Hput := Lib.hid (iblt_put w7 _ st.t ck.k (wrap64 (-ck.n)) hT7 (by omega) (by omega) Hck.out.1)
                have hM7l := hM7.lt
                have hP7l := hP7.lt
                clear hg7 hk7 xc7 cN7 HkR7 cN HkR xc HT6 HP6 HM6 hB6 hb6 lnc hT7 Hra hSi hSz
                refine Hput.out.mono ?_
                rintro e w8 ⟨g, cap, rfl, ho8, hb8⟩
                have hM8 := Lib.hid (ownsRow_belowAll hM7 hb8)
                have hP8 := Lib.hid (ownsRow_belowAll hP7 hb8)
                have hB8 := Below.then hB7 hb8 hB7.size
                have hT8 : Hid (TabR (fun b => u5.ownBlock ≠ some b ∧ x6.ownBlock ≠ some b) w8 (.slice (some ⟨g, 0, none⟩) n cap) (peelAt st p).t) := Lib.hid (by
                  rw [Hpa2.out]
                  have hl8 := putT_len st.t ck.k (wrap64 (-ck.n))
                  rw [hstl] at ho8
                  rw [hstl] at hl8
                  refine (TabR.owns (by rw [hl8]; exact ho8) (by have := Hokn.out.1; rw [Hpa2.out] at this; exact this)).mono (fun b hb => ⟨fun e => ?_, fun e => ?_⟩)
                  · have := (hP7l b e).2; omega
                  · have := (hM7l b e).2; omega)
                rw [hstl]
                clear hM7 hP7 hM7l hP7l ho8 hb8 hB7 Hput hP3l hM3l hne
                go_wp2
                go_roundw
                case rel => exact ⟨k + 1, peelAt st p, some ⟨g, 0, none⟩, cap, by omega, by go_num, rfl, Lib.hid Hnx.out, Hokn.out, hT8.out, by rw [Hpa2.out]; show st.p.length ≤ k + 1; omega, by rw [Hpa2.out]; simp; omega, by rw [Hpa2.out]; exact hP8.out, by rw [Hpa2.out]; exact hM8.out, hne7, hB8⟩
                case measure => simp [intOf]; omega
              · have hpp : (if ck.n = 1 then st.p ++ [ck.k] else st.p) = st.p ++ [ck.k] ∧ (if ck.n = 1 then st.m else st.m ++ [ck.k]) = st.m := by
                  rw [beq_iff_eq] at hq; rw [if_pos hq, if_pos hq]; exact ⟨rfl, rfl⟩
                have Hpa2 : Hid (peelAt st p = ⟨putT st.t ck.k (wrap64 (-ck.n)), st.p ++ [ck.k], st.m⟩) := Lib.hid (by rw [Hpa.out, hpp.1, hpp.2])
                clear hpp
                go_wp2_with (first
                  | (refine wpList_load_mid rfl 67 (.tmp 34) rfl b (off + p * 65) (by first | rfl | (simp)) ck.cells _ Hra.out Tryz.underlying67 rfl (by rw [sizeCl, Hcl.out]) ?_)
                  | (refine wpList_alloc_row rfl 67 rfl z0 Hzi.out ?_)
                  | (refine wpList_store_mid rfl 67 (.tmp 8) (.tmp 35) rfl w3.heap.size 0 ck.cells.toArray rfl rfl (there_bx (Bx.new w3 z0 67) (by rw [Hzl.out, List.size_toArray, Hcl.out]; exact Nat.le_refl _)) (by rw [sizeCl, List.size_toArray, Hcl.out]) Hck1.out ?_; generalize (w3.alloc (.cells z0 67)).setCells w3.heap.size 0 ck.cells.toArray.toList = w6 at *)
                  | (refine wpList_load_mid rfl 39 (.tmp 40) rfl w3.heap.size 1 (by first | rfl | (simp)) (bytesV ck.k) _ HkR.out Tryz.underlying39 rfl (by rw [sizeDg, Hkl.out]) ?_)
                  | (refine wpList_build1 rfl 22 (.tmp 41) rfl 39 idg (List.replicate 32 (Value.int .u8 0)) 32 Tryz.underlying22 Hidg.out.1 Hidg.out.2.1 Hidg.out.2.2 (by simp) (by decide) (bytesV ck.k) Hkl.out rfl ?_)
                  | (refine wpList_appD rfl (.tmp 39) (.tmp 42) rfl w.heap.size u5 st.p rfl (HP6.out.alloc _) w6.heap.size ck.k Hck.out.1 rfl (Bx.new _ _ _) (by omega) (by have := hB6.size; simp; omega) ?_; intro x5 w7 hP7 hg7 hk7; have xc7 := (xc.alloc (.cells (bytesV ck.k).toArray 39)).grown hg7 (fun e => by have := (hP3l _ e.symm).2; omega); have cN7 := Cl.count_at xc7.range; have HkR7 := Lib.hid (Cl.keys_at Hck.out xc7.range))
                  | (refine wpList_load_mid rfl 39 (.tmp 50) rfl w3.heap.size 1 (by first | rfl | (simp)) (bytesV ck.k) _ HkR7.out Tryz.underlying39 rfl (by rw [sizeDg, Hkl.out]) ?_))
                have hSz := hb6.size
                have hSi : InS (fun b => (u5.ownBlock ≠ some b ∧ u6.ownBlock ≠ some b) ∧ b < w3.heap.size) (w6.alloc (.cells (bytesV ck.k).toArray 39)) := fun b hb => by have := hb.2; simp; omega
                have hT7 := (HT6.out.below (Below.one w6 (.cells (bytesV ck.k).toArray 39))).same (Same.of_grown hg7 hSi (fun b hb hS => hS.1.1 hb))
                have hM7 := (HM6.out.alloc (.cells (bytesV ck.k).toArray 39)).kept hg7 (by
                  cases hqq : u6.ownBlock with
                  | none => exact .inl rfl
                  | some k => exact .inr (fun e => hne k e.symm hqq))
                have hB7 : Below w.heap.size w w7 := (hB6.alloc hB6.size (.cells (bytesV ck.k).toArray 39)).grown hg7 (hB6.alloc hB6.size (.cells (bytesV ck.k).toArray 39)).size (fun k e => (HP6.out.lt k e).1)
                have hne7 : ∀ b, x5.ownBlock = some b → u6.ownBlock ≠ some b := fun b hb => by
                  rcases hk7 b hb with h | h
                  · exact hne b h
                  · intro e
                    have := (HM6.out.lt b e).2
                    simp at h; omega
                have Hput := Lib.hid (iblt_put w7 _ st.t ck.k (wrap64 (-ck.n)) hT7 (by omega) (by omega) Hck.out.1)
                have hM7l := hM7.lt
                have hP7l := hP7.lt
                clear hg7 hk7 xc7 cN7 HkR7 cN HkR xc HT6 HP6 HM6 hB6 hb6 lnc hT7 Hra hSi hSz
                refine Hput.out.mono ?_
                rintro e w8 ⟨g, cap, rfl, ho8, hb8⟩
                have hM8 := Lib.hid (ownsRow_belowAll hM7 hb8)
                have hP8 := Lib.hid (ownsRow_belowAll hP7 hb8)
                have hB8 := Below.then hB7 hb8 hB7.size
                have hT8 : Hid (TabR (fun b => x5.ownBlock ≠ some b ∧ u6.ownBlock ≠ some b) w8 (.slice (some ⟨g, 0, none⟩) n cap) (peelAt st p).t) := Lib.hid (by
                  rw [Hpa2.out]
                  have hl8 := putT_len st.t ck.k (wrap64 (-ck.n))
                  rw [hstl] at ho8
                  rw [hstl] at hl8
                  refine (TabR.owns (by rw [hl8]; exact ho8) (by have := Hokn.out.1; rw [Hpa2.out] at this; exact this)).mono (fun b hb => ⟨fun e => ?_, fun e => ?_⟩)
                  · have := (hP7l b e).2; omega
                  · have := (hM7l b e).2; omega)
                rw [hstl]
                clear hM7 hP7 hM7l hP7l ho8 hb8 hB7 Hput hP3l hM3l hne
                go_wp2
                go_roundw
                case rel => exact ⟨k + 1, peelAt st p, some ⟨g, 0, none⟩, cap, by omega, by go_num, rfl, Lib.hid Hnx.out, Hokn.out, hT8.out, by rw [Hpa2.out]; simp; omega, by rw [Hpa2.out]; show st.m.length ≤ k + 1; omega, by rw [Hpa2.out]; exact hP8.out, by rw [Hpa2.out]; exact hM8.out, hne7, hB8⟩
                case measure => simp [intOf]; omega
          · obtain rfl : n = p := by omega
            have hpn : ¬ (n : Int) < (n : Int) := by omega
            have hfin : peelN n ⟨t, [], []⟩ = st := by
              have h0 := Hst.out
              rw [← h0]
              exact peelN_stop' (by rw [h0]; exact firstP_none (by rw [hstl]; exact hnp)) hk
            have hT := hT.below hb2
            have hP := ownsRow_belowAll hP hb2
            have hM := ownsRow_belowAll hM hb2
            have hB := Below.then hB hb2 hB.size
            clear hnp hb2
            go_wp2_with fail
            have hBt := hB
            obtain ⟨S', hS', hTT⟩ : ∃ S' : Nat → Prop, True ∧ TabR S' wr (.slice o2 n c2) st.t := ⟨_, trivial, hT⟩
            have hcon := contains_tab hTT (by rw [hstl]; exact hn0) (fun c => !c.eqB Cl.zero) 50 (by intro args W; rfl) (fun W c hc hb => (iblt_peel1 c hc W).mono fun e w' h => ⟨h.1, Below.then hb h.2 hb.size⟩)
            have Hcon := Lib.hid hcon
            have Hok := Lib.hid hok
            have Hres : Hid (peelT t = if st.t.any (fun c => !c.eqB Cl.zero) then ([], [], false) else (sortD st.p, sortD st.m, true)) := Lib.hid (by rw [Hpt.out, hfin])
            clear hcon hT hTT hS' hok hfin
            refine Hcon.out.mono ?_
            rintro e w5 ⟨rfl, hb5⟩
            cases hany : st.t.any (fun c => !c.eqB Cl.zero)
            · have Hres2 : Hid (peelT t = (sortD st.p, sortD st.m, true)) := Lib.hid (by rw [Hres.out, hany]; rfl)
              have hb5' := Below.then hB hb5 hB.size
              have Hso := Lib.hid (sort_digs (ownsRow_belowAll hP hb5) Hok.out.2.1 (by omega))
              have hM5 := ownsRow_belowAll hM hb5
              clear Hres hP hM hb5
              go_wp2_with fail
              refine Hso.out.mono ?_
              rintro e w6 ⟨rfl, hP6, hg6⟩
              have hM6 := hM5.kept hg6 (by
                cases hq : u6.ownBlock with
                | none => exact .inl rfl
                | some k => exact .inr (fun e => hne k e.symm hq))
              have hB6 : Below w.heap.size w w6 := hb5'.grown hg6 hb5'.size (fun k e => (hP6.lt k e).1)
              have Hso2 := Lib.hid (sort_digs hM6 Hok.out.2.2 (by omega))
              clear hM5 hM6 hb5' hg6 Hso
              go_wp2_with fail
              refine Hso2.out.mono ?_
              rintro e w7 ⟨rfl, hM7, hg7⟩
              have hP7 := hP6.kept hg7 (by
                cases hq : u5.ownBlock with
                | none => exact .inl rfl
                | some k => exact .inr (fun e => hne k hq e.symm))
              have hB7 : Below w.heap.size w w7 := hB6.grown hg7 hB6.size (fun k e => (hM7.lt k e).1)
              have HP := Lib.hid (DigR.owns (l := sortD st.p) (by rw [sortD_len]; exact hP7) (sortD_ok Hok.out.2.1))
              have HM := Lib.hid (DigR.owns (l := sortD st.m) (by rw [sortD_len]; exact hM7) (sortD_ok Hok.out.2.2))
              clear hP6 hP7 hM7 hg7 hB6 Hso2
              go_wp2
              refine bodyPost_ret (v := .tuple #[u5, u6, .bool true]) (by simp [results, Tryz.results21, go_sem]) rfl ?_
              exact ⟨u5, u6, by rw [Hres2.out], by rw [Hres2.out]; exact HP.out, by rw [Hres2.out]; exact HM.out, hB7⟩
            · have Hres2 : Hid (peelT t = ([], [], false)) := Lib.hid (by rw [Hres.out, hany]; rfl)
              have hb5' := Below.then hB hb5 hB.size
              clear Hres hP hM hb5
              go_wp2
              refine bodyPost_ret (v := .tuple #[.slice none 0 0, .slice none 0 0, .bool false]) (by simp [results, Tryz.results21, go_sem]) rfl ?_
              exact ⟨.slice none 0 0, .slice none 0 0, by rw [Hres2.out], by rw [Hres2.out]; exact DigR.nil0 _ _, by rw [Hres2.out]; exact DigR.nil0 _ _, hb5'⟩
      · obtain rfl : n = k := by omega
        have hlt' : ¬ (n : Int) < (n : Int) := by omega
        have hfin : peelN n ⟨t, [], []⟩ = st := Hst.out
        go_wp2_with fail
        have hBt := hB
        obtain ⟨S', hS', hTT⟩ : ∃ S' : Nat → Prop, True ∧ TabR S' wr (.slice o2 n c2) st.t := ⟨_, trivial, hT⟩
        have hcon := contains_tab hTT (by rw [hstl]; exact hn0) (fun c => !c.eqB Cl.zero) 50 (by intro args W; rfl) (fun W c hc hb => (iblt_peel1 c hc W).mono fun e w' h => ⟨h.1, Below.then hb h.2 hb.size⟩)
        have Hcon := Lib.hid hcon
        have Hok := Lib.hid hok
        have Hres : Hid (peelT t = if st.t.any (fun c => !c.eqB Cl.zero) then ([], [], false) else (sortD st.p, sortD st.m, true)) := Lib.hid (by rw [Hpt.out, hfin])
        clear hcon hT hTT hS' hok hfin
        refine Hcon.out.mono ?_
        rintro e w5 ⟨rfl, hb5⟩
        cases hany : st.t.any (fun c => !c.eqB Cl.zero)
        · have Hres2 : Hid (peelT t = (sortD st.p, sortD st.m, true)) := Lib.hid (by rw [Hres.out, hany]; rfl)
          have hb5' := Below.then hB hb5 hB.size
          have Hso := Lib.hid (sort_digs (ownsRow_belowAll hP hb5) Hok.out.2.1 (by omega))
          have hM5 := ownsRow_belowAll hM hb5
          clear Hres hP hM hb5
          go_wp2_with fail
          refine Hso.out.mono ?_
          rintro e w6 ⟨rfl, hP6, hg6⟩
          have hM6 := hM5.kept hg6 (by
            cases hq : u6.ownBlock with
            | none => exact .inl rfl
            | some k => exact .inr (fun e => hne k e.symm hq))
          have hB6 : Below w.heap.size w w6 := hb5'.grown hg6 hb5'.size (fun k e => (hP6.lt k e).1)
          have Hso2 := Lib.hid (sort_digs hM6 Hok.out.2.2 (by omega))
          clear hM5 hM6 hb5' hg6 Hso
          go_wp2_with fail
          refine Hso2.out.mono ?_
          rintro e w7 ⟨rfl, hM7, hg7⟩
          have hP7 := hP6.kept hg7 (by
            cases hq : u5.ownBlock with
            | none => exact .inl rfl
            | some k => exact .inr (fun e => hne k hq e.symm))
          have hB7 : Below w.heap.size w w7 := hB6.grown hg7 hB6.size (fun k e => (hM7.lt k e).1)
          have HP := Lib.hid (DigR.owns (l := sortD st.p) (by rw [sortD_len]; exact hP7) (sortD_ok Hok.out.2.1))
          have HM := Lib.hid (DigR.owns (l := sortD st.m) (by rw [sortD_len]; exact hM7) (sortD_ok Hok.out.2.2))
          clear hP6 hP7 hM7 hg7 hB6 Hso2
          go_wp2
          refine bodyPost_ret (v := .tuple #[u5, u6, .bool true]) (by simp [results, Tryz.results21, go_sem]) rfl ?_
          exact ⟨u5, u6, by rw [Hres2.out], by rw [Hres2.out]; exact HP.out, by rw [Hres2.out]; exact HM.out, hB7⟩
        · have Hres2 : Hid (peelT t = ([], [], false)) := Lib.hid (by rw [Hres.out, hany]; rfl)
          have hb5' := Below.then hB hb5 hB.size
          clear Hres hP hM hb5
          go_wp2
          refine bodyPost_ret (v := .tuple #[.slice none 0 0, .slice none 0 0, .bool false]) (by simp [results, Tryz.results21, go_sem]) rfl ?_
          exact ⟨.slice none 0 0, .slice none 0 0, by rw [Hres2.out], by rw [Hres2.out]; exact DigR.nil0 _ _, by rw [Hres2.out]; exact DigR.nil0 _ _, hb5'⟩
  · rw [hck]
    have Hpt : Hid (peelT t = ([], [], false)) := Lib.hid (by unfold peelT; rw [hck]; rfl)
    clear hck
    go_wp2
    refine bodyPost_ret (v := .tuple #[.slice none 0 0, .slice none 0 0, .bool false]) (by simp [results, Tryz.results21, go_sem]) rfl ?_
    exact ⟨.slice none 0 0, .slice none 0 0, by rw [Hpt.out], by rw [Hpt.out]; exact DigR.nil0 _ _, by rw [Hpt.out]; exact DigR.nil0 _ _, hb1⟩
end Go.Proofs.YtebgopdmeghmhaaGreat
