/- iblt.Of and quiltref47.Of. -/
import Derived.Test.YtfligkncdlocaaaIbIns
import Derived.Test.YtfligkncdlocaaaRfAdd
namespace Go.Proofs.Ytfligkncdlocaaa
open Go.RowKit

/-- the table of some digests -/
def ofFold (t : List Cl) (l : List (List UInt8)) : List Cl := l.foldl (fun t d => putT t d 1) t
def ofT (n : Int) (l : List (List UInt8)) : List Cl × Int := if allowedB n then (ofFold (newT n) l, 0) else ([], 2)
theorem ofFold_len (l : List (List UInt8)) : ∀ t, (ofFold t l).length = t.length := by
  induction l with
  | nil => intro t; rfl
  | cons d l ih => intro t; show (ofFold (putT t d 1) l).length = _; rw [ih, putT_len]
theorem ofFold_ok {l : List (List UInt8)} (hl : Dok l) : ∀ {t}, Tok t → Tok (ofFold t l) := by
  induction l with
  | nil => intro t h; exact h
  | cons d l ih => intro t h; exact ih (fun x hx => hl x (by simp [hx])) (putT_ok h (hl d (by simp)) 1)
theorem ofFold_snoc (t : List Cl) (l : List (List UInt8)) (d : List UInt8) : ofFold t (l ++ [d]) = putT (ofFold t l) d 1 := by simp [ofFold]
theorem newT_ok (n : Int) : Tok (newT n) := by
  unfold newT
  split
  · exact Tok.rep _
  · intro c hc; cases hc
set_option maxRecDepth 100000 in
set_option maxHeartbeats 1600000 in
theorem iblt_Of {S : Nat → Prop} (w : World) (v : Value) (n : Int) (l : List (List UInt8)) (h : DigR S w v l) (hl : l.length ≤ 1000000) :
    Calls Try.prog 21 #[.int .i64 n, v] w (TabE w (ofT n l)) := by
  obtain ⟨o, c, rfl⟩ : ∃ o c, v = .slice o l.length c := by obtain ⟨⟨o, c, e, _⟩, _⟩ := h; rw [digC_size] at e; exact ⟨o, c, e⟩
  obtain ⟨z, hz⟩ : ∃ z : Array Value, Array.replicate 32 (Value.int .u8 0) = z := ⟨_, rfl⟩
  have hz0 := zeroDg
  rw [hz] at hz0
  have hzs : z.size = 32 := by rw [← hz]; simp
  have Z0 := Lib.hid hz0
  have Zs := Lib.hid hzs
  clear hz hz0 hzs
  go_enter Try.func21, Try.ntmps21
  go_wp2_with fail
  refine (iblt_new n _).mono ?_
  rintro e w1 ⟨vn, rfl, hf, ht, hb1⟩
  unfold newE
  cases ha : allowedB n
  · have hres : ofT n l = ([], 2) := by simp [ofT, ha]
    have Hres := Lib.hid hres
    clear hres
    go_wp2
    refine bodyPost_ret (v := .tuple #[.slice none 0 0, .int .i64 2]) (by simp [results, Try.results21, go_sem]) rfl ?_
    exact ⟨.slice none 0 0, by rw [Hres.out], by rw [Hres.out]; exact TabR.nil0 _ _, hb1⟩
  · have hal := allowedB_iff.1 ha
    have ho := ht ha
    have hnl : (newT n).length = n.toNat := by simp [newT, ha]
    have h1 := h.below hb1
    have Hok := Lib.hid h.2
    have hres : ofT n l = (ofFold (newT n) l, 0) := by simp [ofT, ha]
    have Hres := Lib.hid hres
    have hn3 : 3 ≤ (newT n).length := by omega
    have hn4 : (newT n).length ≤ 1000000 := by omega
    have T0 := TabR.owns ho (newT_ok n)
    generalize newT n = t0 at *
    clear hf ht ho hres hal hnl h
    go_wp2
    go_loopw [6, 20] (fun u i wr => ∃ k : Nat, k ≤ l.length ∧ i = .int .i64 k ∧ TabR (fun b => w.heap.size ≤ b ∧ b < wr.heap.size) wr u (ofFold t0 (l.take k)) ∧ DigR S wr (.slice o l.length c) l ∧ Below w.heap.size w wr) (fun _ i _ => l.length - (intOf i).toNat)
    case atStart => exact ⟨0, by omega, rfl, T0, h1, hb1⟩
    case round =>
      clear T0 h1 hb1
      obtain ⟨k, hk, rfl, hT, hD, hB⟩ := hrel
      by_cases hlt : k < l.length
      · have hlt' : (k : Int) < (l.length : Int) := by omega
        obtain ⟨b, off, c', e', _, _, _, hb, hra⟩ := hD.at hlt
        obtain ⟨rfl, rfl⟩ : o = some ⟨b, off, none⟩ ∧ c = c' := by simpa using e'
        have hdl : l[k].length = 32 := Hok.out _ (List.getElem_mem hlt)
        have htl : (ofFold t0 (l.take k)).length = t0.length := ofFold_len _ _
        have hnext : ofFold t0 (l.take (k + 1)) = putT (ofFold t0 (l.take k)) l[k] 1 := by rw [List.take_succ_eq_append_getElem hlt, ofFold_snoc]
        have hpok := putT_ok hT.2 hdl 1
        have Hnext := Lib.hid hnext
        generalize ofFold t0 (l.take k) = tt at *
        generalize l[k] = d at *
        obtain ⟨cd, hcd⟩ : ∃ c, (bytesV d).toArray = c := ⟨_, rfl⟩
        have hcl : cd.size = 32 := by rw [← hcd]; simp [bytesV, hdl]
        have hbl : (bytesV d).length = 32 := by rw [bytesV_len, hdl]
        have h1c : cd.all (·.oneCell') = true := by rw [← hcd]; exact all_oneCell_toArray (bytesV_one _)
        have hdg : dgV d = .agg cd := by unfold dgV; rw [hcd]
        have xb := (Bx.new wr z 31).setAll (cx := cd) (by rw [Zs.out, hcl])
        have hb5 : Below wr.heap.size wr ((wr.alloc (.cells z 31)).setCells wr.heap.size 0 cd.toList) := below_setCells (Nat.le_refl _) _ _ _ (Below.one wr (.cells z 31))
        have hput := iblt_put _ _ tt d 1 (hT.below hb5) (by rw [htl]; exact hn3) (by rw [htl]; exact hn4) hdl
        rw [hdg] at hput
        have Hra := Lib.hid hra
        have Hcl := Lib.hid hcl
        have Hbl := Lib.hid hbl
        have H1c := Lib.hid h1c
        have Hcd := Lib.hid hcd
        have Hpok := Lib.hid hpok
        have htv : ∃ o2 c2, u6 = .slice o2 t0.length c2 := by obtain ⟨⟨o2, c2, e2, _⟩, _⟩ := hT; rw [tabC_size, htl] at e2; exact ⟨o2, c2, e2⟩
        have hpl := putT_len tt d 1
        rw [htl] at hpl
        obtain ⟨o2, c2, rfl⟩ := htv
        rw [htl] at hput
        have Hput := Lib.hid hput
        clear hput hra hcl hbl h1c hcd hdg hnext hpok e'
        go_wp2_with (first
          | (refine wpList_load_mid rfl 31 (.tmp 22) rfl b (off + k * 32) (by first | rfl | (simp)) (bytesV d) _ Hra.out Try.underlying31 rfl (by rw [sizeDg, Hbl.out]) ?_)
          | (refine wpList_alloc_row rfl 31 rfl z Z0.out ?_)
          | (refine wpList_store_mid rfl 31 (.tmp 9) (.tmp 23) rfl wr.heap.size 0 cd rfl (by rw [← Hcd.out]; rfl) (there_bx (Bx.new wr z 31) (by rw [Zs.out, Hcl.out]; exact Nat.le_refl _)) (by rw [sizeDg, Hcl.out]) H1c.out ?_)
          | (refine wpList_load_mid rfl 31 (.tmp 9) rfl wr.heap.size 0 rfl cd.toList _ xb.range Try.underlying31 rfl (by rw [sizeDg]; simp [Hcl.out]) ?_))
        refine Hput.out.mono ?_
        rintro e w7 ⟨g, cap, rfl, ho7, hb7⟩
        have hbb := hb5.trans (hb7.mono hb5.size)
        have hT7 : TabR (fun b => w.heap.size ≤ b ∧ b < w7.heap.size) w7 (.slice (some ⟨g, 0, none⟩) t0.length cap) (putT tt d 1) := (TabR.owns (by rw [hpl]; exact ho7) Hpok.out).mono (fun b hb => ⟨by have := hb.1; have := hb5.size; have := hB.size; omega, hb.2⟩)
        have hD7 := hD.below hbb
        have hB7 := Below.then hB hbb hB.size
        clear hT hD hB ho7 hb7 hb5
        go_wp2
        go_roundw
        case rel => exact ⟨k + 1, by omega, by go_num, by rw [Hnext.out]; exact hT7, hD7, hB7⟩
        case measure => simp [intOf]; omega
      · obtain rfl : k = l.length := by omega
        have hlt' : ¬ (l.length : Int) < (l.length : Int) := by omega
        rw [List.take_length] at hT
        have htl : (ofFold t0 l).length = t0.length := ofFold_len _ _
        have HT := Lib.hid hT
        have htv : ∃ o2 c2, u6 = .slice o2 t0.length c2 := by obtain ⟨⟨o2, c2, e2, _⟩, _⟩ := hT; rw [tabC_size, htl] at e2; exact ⟨o2, c2, e2⟩
        obtain ⟨o2, c2, rfl⟩ := htv
        clear hT hD
        go_wp2
        refine bodyPost_ret (v := .tuple #[.slice o2 t0.length c2, .int .i64 0]) (by simp [results, Try.results21, go_sem]) rfl ?_
        exact ⟨.slice o2 t0.length c2, by rw [Hres.out], by rw [Hres.out]; exact HT.out, hB⟩
end Go.Proofs.Ytfligkncdlocaaa
