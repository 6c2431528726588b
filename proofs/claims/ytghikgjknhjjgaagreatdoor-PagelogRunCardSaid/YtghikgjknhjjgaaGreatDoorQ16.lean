/- slices.Grow, Concat, Clone, ContainsFunc of records. pagelog.Cut = cutL. Lazy's law where one operation of the head (a pure one, q) may also stand behind the first operation behind the head. -/
import Derived.Test.YtghikgjknhjjgaaGreatDoorQ15
import Derived.Lib.AppendZeros
import Derived.Test.YtghikgjknhjjgaaGreatDoorQ08
namespace Go.Proofs.YtghikgjknhjjgaaGreatDoor
set_option maxRecDepth 100000
open Go.RowKit Go.Shelf
/-- the value v is a slice of these strings -/
def SlR (S : Nat → Prop) (w : World) (v : Value) (l : List ByteArray) : Prop := ∃ o c, v = .slice o l.length c ∧ SlW o l.length c ∧ StrsAt S w o l
theorem SlR.below {S : Nat → Prop} {w w' : World} {v : Value} {l : List ByteArray} {B : Nat} (h : SlR S w v l) (hb : Below B w w') (hB : w.heap.size ≤ B) : SlR S w' v l := by
 obtain ⟨o, c, e, h1, h2⟩ := h
 exact ⟨o, c, e, h1, h2.below (hb.mono hB)⟩
theorem SlR.owns {w : World} {base : Nat} {v : Value} {l : List ByteArray} (h : w.ownsRow base 9 1 v l.length (l.map .string)) : SlR (· < w.heap.size) w v l := by
 obtain ⟨o, c, e, h1, h2, _⟩ := ownsRow_at h
 exact ⟨o, c, e, h1, (StrsAt.of_row h2).mono fun b hb => hb.2⟩
theorem SlR.owns2 {w : World} {base : Nat} {v : Value} {l : List ByteArray} (h : w.ownsRow base 9 1 v l.length (l.map .string)) : SlR (fun b => base ≤ b ∧ b < w.heap.size) w v l := by
 obtain ⟨o, c, e, h1, h2, _⟩ := ownsRow_at h
 exact ⟨o, c, e, h1, StrsAt.of_row h2⟩
theorem SlR.mono {S T : Nat → Prop} {w : World} {v : Value} {l : List ByteArray} (h : SlR S w v l) (hT : ∀ b, S b → T b) : SlR T w v l := by
 obtain ⟨o, c, e, h1, h2⟩ := h
 exact ⟨o, c, e, h1, h2.mono hT⟩
theorem SlR.row {S : Nat → Prop} {w : World} {o : Option Addr} {c : Nat} {l : List ByteArray} (h : SlR S w (.slice o l.length c) l) : RowAt S w o (l.map .string) ∧ (o = none → l.length = 0 ∧ c = 0) := by
 obtain ⟨o', c', e, h1, h2⟩ := h
 obtain ⟨rfl, rfl⟩ : o = o' ∧ c = c' := by simpa using e
 exact ⟨h2.row, h1.nil⟩
theorem ownsRow_lowerS {w : World} {base base' : Nat} {e : TypeId} {size : Nat} {v : Value} {n : Nat} {xs : List Value} (h : w.ownsRow base e size v n xs) (hb : base' ≤ base) : w.ownsRow base' e size v n xs := by
 refine ⟨h.1, ?_⟩
 rcases h.2 with h1 | ⟨g, cap, cur, e1, hg, r⟩
 ·
  exact .inl h1
 ·
  exact .inr ⟨g, cap, cur, e1, Nat.le_trans hb hg, r⟩
theorem infoStrg : (Tryz.prog.info? 9).map (fun i => (i.zero, i.size, i.bytes)) = some (some (.string .empty), 1, 16) := by kernel_rfl
set_option maxRecDepth 100000 in
set_option maxHeartbeats 1000000 in
theorem sl_GrowS (w : World) (m : Int) (n : Nat) (hm : m = n) (hn : n ≤ 3000000) :
  Calls Tryz.prog 68 #[.slice none 0 0, .int .i64 m] w fun e w' => ∃ v, e = .returned v ∧ w'.ownsRow w.heap.size 9 1 v 0 [] ∧ Below w.heap.size w w' := by
 subst hm
 obtain ⟨idg, hidg, hzd, hsd, hbyd⟩ := info_parts infoStrg
 rcases Nat.eq_zero_or_pos n with rfl | hp
 ·
  have h0 : ¬ (0 : Int) < ((0 : Nat) : Int) := by omega
  go_enter Tryz.func68, Tryz.ntmps68
  go_wp2
  go_ret
  exact ⟨_, rfl, World.ownsRow_nil _ _ _ _, Below.refl _ _⟩
 ·
  have hr := Lib.run_append_nil_zeros (P := Tryz.prog) w 22 3 22 9 idg _ .i64 .i64 Tryz.underlying22 Tryz.underlying3 hidg hzd n hp (by rw [hsd]; decide) (by omega) (by rw [hbyd]; omega)
  have hge := grownCap_ge w n 0 9
  have hcm := grownCap_le_maxLen w n 0 9 (by unfold maxLen; omega)
  have hsz : (Builtin.zeroCells (Value.string .empty).cells n ++ Builtin.zeroCells (Value.string .empty).cells (grownCap w n 0 9 - n)).size = grownCap w n 0 9 * 1 := by
   rw [Array.size_append, size_zeroCells, size_zeroCells, ← Nat.add_mul]
   simp [Value.cells]
   omega
  have hp' : (0 : Int) < (n : Int) := by omega
  generalize grownCap w n 0 9 = c at *
  have hc0 : 0 ≤ c := by omega
  have Hr := Lib.hid hr
  have Hsz := Lib.hid hsz
  have Hc := Lib.hid hcm
  clear hr hsz hcm hidg hzd hsd hbyd
  go_enter Tryz.func68, Tryz.ntmps68
  go_wp2_with (refine Lib.wpList_append_run _ rfl (.tmp 20) (.tmp 21) 22 3 rfl (.slice none 0 0) (.int .i64 n) rfl rfl _ _ Hr.out ?_)
  go_ret
  rw [show (Value.string .empty).cells = #[Value.string .empty] from rfl] at Hsz
  refine ⟨_, rfl, ⟨by simp, .inr ⟨w.heap.size, c, _, rfl, Nat.le_refl _, heap_alloc_new w _, Nat.zero_le _, Hc.out, Hsz.out, by simp⟩⟩, ?_⟩
  exact (Below.one w _).drew
set_option maxRecDepth 100000 in
set_option maxHeartbeats 2000000 in
theorem sl_ConcatS {S1 S2 : Nat → Prop} (w : World) (g : Nat) (va vb : Value) (x : Bx w g #[va, vb] 22) (a b : List ByteArray) (hA : SlR S1 w va a) (hB : SlR S2 w vb b) (la : a.length ≤ 2000000) (lb : b.length ≤ 1000) :
  Calls Tryz.prog 34 #[.slice (some ⟨g, 0, none⟩) 2 2] w fun e w' => ∃ v, e = .returned v ∧ SlR (fun k => w.heap.size ≤ k ∧ k < w'.heap.size) w' v (a ++ b) ∧ Below w.heap.size w w' := by
 obtain ⟨oa, ca, rfl⟩ : ∃ o c, va = .slice o a.length c := by obtain ⟨o, c, e, _⟩ := hA; exact ⟨o, c, e⟩
 obtain ⟨ob, cb, rfl⟩ : ∃ o c, vb = .slice o b.length c := by obtain ⟨o, c, e, _⟩ := hB; exact ⟨o, c, e⟩
 obtain ⟨idg, hidg, hzd, hsd, hbyd⟩ := info_parts infoStrg
 have Hidg : Hid (Tryz.prog.info? 9 = some idg ∧ idg.zero = some (.string .empty) ∧ idg.size = 1 ∧ idg.bytes = 16) := Lib.hid ⟨hidg, hzd, hsd, hbyd⟩
 have HA := Lib.hid hA
 have HB := Lib.hid hB
 have X := Lib.hid x
 clear hA hB x hidg hzd hsd hbyd
 go_enter Tryz.func34, Tryz.ntmps34
 go_wp2
 go_loopw [3, 11] (fun s i wr => ((i = .int .i64 0 ∧ s = .int .i64 0) ∨ (i = .int .i64 1 ∧ s = .int .i64 (a.length : Int)) ∨ (i = .int .i64 2 ∧ s = .int .i64 ((a.length : Int) + (b.length : Int)))) ∧ Below w.heap.size w wr) (fun _ i _ => 2 - (intOf i).toNat)
 case atStart => exact ⟨.inl ⟨rfl, rfl⟩, Below.refl _ _⟩
 case round =>
  obtain ⟨hi, hb⟩ := hrel
  have xr := X.out.below hb X.out.lt
  have c0 : wr.cell? ⟨g, 0, none⟩ = some (.slice oa a.length ca) := by rw [xr.cell]; rfl
  have c1 : wr.cell? ⟨g, 1, none⟩ = some (.slice ob b.length cb) := by rw [xr.cell]; rfl
  rcases hi with ⟨rfl, rfl⟩ | ⟨rfl, rfl⟩ | ⟨rfl, rfl⟩
  ·
   have h0 : ¬ ((a.length : Int) < 0) := by omega
   go_wp2
   go_roundw
   case rel => exact ⟨.inr (.inl ⟨rfl, rfl⟩), hb⟩
   case measure => simp [intOf]
  ·
   have h0 : ¬ ((a.length : Int) + (b.length : Int) < 0) := by omega
   go_wp2
   go_roundw
   case rel => exact ⟨.inr (.inr ⟨rfl, rfl⟩), hb⟩
   case measure => simp [intOf]
  ·
   have hgr := sl_GrowS wr ((a.length : Int) + (b.length : Int)) (a.length + b.length) (by omega) (by omega)
   have Hgr := Lib.hid hgr
   clear hgr c0 c1 xr
   go_wp2_with fail
   refine Hgr.out.mono ?_
   rintro e w2 ⟨v2, rfl, ho2, hb2⟩
   have hB2 := Below.then hb hb2 hb.size
   have Ho2 := Lib.hid (ownsRow_lowerS ho2 hb.size)
   clear ho2 hb hb2 Hgr
   go_wp2
   go_loopw [6, 27] (fun u i wr => (∃ l : List ByteArray, ((i = .int .i64 0 ∧ l = []) ∨ (i = .int .i64 1 ∧ l = a) ∨ (i = .int .i64 2 ∧ l = a ++ b)) ∧ wr.ownsRow w.heap.size 9 1 u l.length (l.map .string)) ∧ Below w.heap.size w wr) (fun _ i _ => 2 - (intOf i).toNat)
   case atStart => exact ⟨⟨[], .inl ⟨rfl, rfl⟩, Ho2.out⟩, hB2⟩
   case round =>
    clear Ho2
    obtain ⟨⟨l, hi, ho⟩, hb⟩ := hrel
    have xr := X.out.below hb X.out.lt
    have c0 : wr.cell? ⟨g, 0, none⟩ = some (.slice oa a.length ca) := by rw [xr.cell]; rfl
    have c1 : wr.cell? ⟨g, 1, none⟩ = some (.slice ob b.length cb) := by rw [xr.cell]; rfl
    have Ho := Lib.hid ho
    have hz := hb.size
    clear ho
    rcases hi with ⟨rfl, hl⟩ | ⟨rfl, hl⟩ | ⟨rfl, hl⟩
    ·
     rw [hl] at Ho
     have HR := Lib.hid (HA.out.below hb (Nat.le_refl _)).row
     have Hf : Hid ((a.map Value.string).length = a.length * 1) := Lib.hid (by simp)
     have Hone := Lib.hid (strs_one a)
     go_wp2_with (refine wpList_app rfl (.tmp 31) (.tmp 32) 22 rfl w.heap.size 9 idg _ 1 16 Tryz.underlying22 Hidg.out.1 Hidg.out.2.1 Hidg.out.2.2.1 Hidg.out.2.2.2 rfl (by decide) _ _ _ rfl Ho.out oa a.length ca (a.map .string) rfl HR.out.2 Hf.out HR.out.1 Hone.out (by simp [maxLen]; omega) (by simp; omega) (by omega) ?_; intro v3 w3 ho3 hg3)
     have hb3 : Below w.heap.size w w3 := hb.grown hg3 hz (fun k e => (Ho.out.lt k e).1)
     rw [List.length_nil, Nat.zero_add] at ho3
     have ho4 : w3.ownsRow w.heap.size 9 1 v3 a.length (a.map .string) := ho3
     go_roundw
     case rel => exact ⟨⟨a, .inr (.inl ⟨rfl, rfl⟩), ho4⟩, hb3⟩
     case measure => simp [intOf]
    ·
     rw [hl] at Ho
     have HR := Lib.hid (HB.out.below hb (Nat.le_refl _)).row
     have Hf : Hid ((b.map Value.string).length = b.length * 1) := Lib.hid (by simp)
     have Hone := Lib.hid (strs_one b)
     go_wp2_with (refine wpList_app rfl (.tmp 31) (.tmp 32) 22 rfl w.heap.size 9 idg _ 1 16 Tryz.underlying22 Hidg.out.1 Hidg.out.2.1 Hidg.out.2.2.1 Hidg.out.2.2.2 rfl (by decide) _ _ _ rfl Ho.out ob b.length cb (b.map .string) rfl HR.out.2 Hf.out HR.out.1 Hone.out (by simp [maxLen]; omega) (by omega) (by omega) ?_; intro v3 w3 ho3 hg3)
     have hb3 : Below w.heap.size w w3 := hb.grown hg3 hz (fun k e => (Ho.out.lt k e).1)
     have ho4 : w3.ownsRow w.heap.size 9 1 v3 (a ++ b).length ((a ++ b).map .string) := by rw [List.length_append, List.map_append]; exact ho3
     go_roundw
     case rel => exact ⟨⟨a ++ b, .inr (.inr ⟨rfl, rfl⟩), ho4⟩, hb3⟩
     case measure => simp [intOf]
    ·
     rw [hl] at Ho
     have HD := Lib.hid (SlR.owns2 Ho.out)
     clear c0 c1 xr
     go_wp2
     go_ret
     exact ⟨_, rfl, HD.out, hb⟩
theorem sl_CloneS {S : Nat → Prop} (l : List ByteArray) (o : Option Addr) (c n : Nat) (w : World) (ha : StrsAt S w o l) (hsl : SlW o l.length c) (hl : l.length ≤ 2000000) (hn : n ≤ l.length) :
  Calls Tryz.prog 42 #[.slice o n c] w fun e w' => ∃ v, e = .returned v ∧ SlR (· < w'.heap.size) w' v (l.take n) ∧ Below w.heap.size w w' := by
 have hlt : (l.take n).length = n := by rw [List.length_take]; omega
 rcases o with _ | a
 ·
  refine (Tryz.slices_Clone_string_nil n c w).mono ?_
  rintro e w' ⟨rfl, rfl⟩
  have h0 : l.length = 0 := (hsl.nil rfl).1
  have hnil : l.take n = [] := List.eq_nil_of_length_eq_zero (by omega)
  rw [hnil]
  exact ⟨_, rfl, ⟨none, 0, rfl, .inl ⟨rfl, rfl, rfl⟩, fun j h => absurd h (by simp)⟩, Below.refl _ _⟩
 ·
  by_cases hp : l = []
  ·
   subst hp
   obtain rfl : n = 0 := by simpa using hn
   refine (Tryz.slices_Clone_string_zero a c w).mono ?_
   rintro e w' ⟨v', rfl, h1, _, hb⟩
   exact ⟨v', rfl, SlR.owns (l := []) h1, hb⟩
  ·
   obtain ⟨b, off, e, _⟩ := ha 0 (List.length_pos_iff.2 hp)
   obtain rfl := Option.some.inj e
   refine (Tryz.slices_Clone_string b off n c l w hn (by omega) (fun j hj => ?_)).mono ?_
   ·
    obtain ⟨b', off', e, hc, _⟩ := ha j hj
    obtain ⟨rfl, rfl⟩ : b = b' ∧ off = off' := by simpa using e
    rw [hc, List.getD, List.getElem?_eq_getElem hj, Option.getD_some]
   ·
    rintro e w' ⟨v', rfl, h1, _, hb⟩
    refine ⟨v', rfl, SlR.owns (base := w.heap.size) ?_, hb⟩
    rw [hlt]
    exact h1
theorem ap_big (s : ByteArray) (w : World) : Calls Tryz.prog 28 #[.string s] w fun e w' => e = .returned (.bool (decide (65536 < (s.size : Int)))) ∧ w' = w := by
 go_enter Tryz.func28, Tryz.ntmps28
 go_wp2
 go_ret
 exact ⟨rfl, rfl⟩
theorem bigR_step {l : List ByteArray} {k : Nat} (h : k < l.length) (e : decide (65536 < (l[k].size : Int)) = false) : bigR (l.drop k) = bigR (l.drop (k + 1)) := by
 rw [List.drop_eq_getElem_cons h]
 unfold bigR
 have : ¬ 65536 < l[k].size := by have := of_decide_eq_false e; omega
 rw [List.any_cons, decide_eq_false this, Bool.false_or]
theorem bigR_hit {l : List ByteArray} {k : Nat} (h : k < l.length) (e : decide (65536 < (l[k].size : Int)) = true) : bigR (l.drop k) = true := by
 rw [List.drop_eq_getElem_cons h]
 unfold bigR
 have : 65536 < l[k].size := by have := of_decide_eq_true e; omega
 rw [List.any_cons, decide_eq_true this, Bool.true_or]
set_option maxHeartbeats 800000 in
theorem sl_IndexS {S : Nat → Prop} (l : List ByteArray) (o : Option Addr) (c : Nat) (w : World) (ha : StrsAt S w o l) (hl : l.length ≤ 2000000) :
  Calls Tryz.prog 64 #[.slice o l.length c, .func (.func 28) #[] #[]] w fun e w' => (∃ i : Int, e = .returned (.int .i64 i) ∧ decide (0 ≤ i) = bigR l) ∧ Below w.heap.size w w' := by
 obtain ⟨r, hr⟩ : ∃ r, bigR l = r := ⟨_, rfl⟩
 rw [hr]
 go_enter Tryz.func64, Tryz.ntmps64
 go_wp2
 go_loopw [8] (fun i wr => ∃ k : Nat, k ≤ l.length ∧ i = .int .i64 k ∧ bigR (l.drop k) = r ∧ Below w.heap.size w wr) (fun i _ => l.length - (intOf i).toNat)
 case atStart => exact ⟨0, Nat.zero_le _, rfl, by simpa using hr, Below.refl _ _⟩
 case round =>
  obtain ⟨k, hk, rfl, hq, hB⟩ := hrel
  by_cases hlt : k < l.length
  ·
   obtain ⟨b, off, rfl, hc0, _⟩ := ha k hlt
   have hc : wr.cell? ⟨b, off + k, none⟩ = some (.string l[k]) := by rw [hB.cell (World.block_lt_of_cell? w _ hc0)]; exact hc0
   clear hc0
   cases g : decide (65536 < (l[k].size : Int))
   ·
    rw [bigR_step hlt g] at hq
    have Hq := Lib.hid hq
    have hcall := ap_big l[k] wr
    rw [g] at hcall
    clear hq hr
    go_wp2_with fail
    refine hcall.mono ?_
    rintro e w1 ⟨rfl, rfl⟩
    go_wp2
    go_roundw
    case rel => exact ⟨k + 1, by omega, by go_num, Hq.out, hB⟩
    case measure => simp [intOf]; omega
   ·
    rw [bigR_hit hlt g] at hq
    have Hq := Lib.hid hq
    have hcall := ap_big l[k] wr
    rw [g] at hcall
    clear hq hr
    go_wp2_with fail
    refine hcall.mono ?_
    rintro e w1 ⟨rfl, rfl⟩
    go_wp2
    go_ret
    exact ⟨⟨k, rfl, by rw [← Hq.out]; simp⟩, hB⟩
  ·
   have Hq : Hid (false = r) := Lib.hid (by rw [← hq, List.drop_of_length_le (by omega)]; rfl)
   clear hq hr
   go_wp2
   go_ret
   exact ⟨⟨-1, rfl, by rw [← Hq.out]; rfl⟩, hB⟩
theorem sl_ContainsS {S : Nat → Prop} (l : List ByteArray) (o : Option Addr) (c : Nat) (w : World) (ha : StrsAt S w o l) (hl : l.length ≤ 2000000) :
  Calls Tryz.prog 27 #[.slice o l.length c, .func (.func 28) #[] #[]] w fun e w' => e = .returned (.bool (bigR l)) ∧ Below w.heap.size w w' := by
 obtain ⟨r, hr⟩ : ∃ r, bigR l = r := ⟨_, rfl⟩
 have hc := sl_IndexS l o c w ha hl
 rw [hr] at hc ⊢
 go_enter Tryz.func27, Tryz.ntmps27
 go_wp2_with fail
 refine hc.mono ?_
 rintro e w1 ⟨⟨i, rfl, hi⟩, hb⟩
 cases r with
 | true =>
  have hi' := of_decide_eq_true hi
  clear hi hr
  go_wp2
  go_ret
  exact ⟨by simp, hb⟩
 | false =>
  have hi' := of_decide_eq_false hi
  clear hi hr
  go_wp2
  go_ret
  exact ⟨by simp [hi'], hb⟩
end Go.Proofs.YtghikgjknhjjgaaGreatDoor
namespace Go.Proofs.YtghikgjknhjjgaaGreatDoor
set_option maxRecDepth 100000
open Go.RowKit Go.Shelf
def annSl (l : List ByteArray) : Ann := ⟨fun r => r.x 0, fun r W => SlR (· < W.heap.size) W (r.x 0) l⟩
theorem SlR.belowAll {w w' : World} {v : Value} {l : List ByteArray} (h : SlR (· < w.heap.size) w v l) (hb : Below w.heap.size w w') : SlR (· < w'.heap.size) w' v l := by
 obtain ⟨o, c, e, h1, h2⟩ := h
 exact ⟨o, c, e, h1, (h2.below hb).mono fun b hs => Nat.lt_of_lt_of_le hs hb.size⟩
theorem lz_sl {f : FuncId} {args : Array Value} {l : List ByteArray} {W : World} (h : Calls Tryz.prog f args W fun e w' => ∃ v, e = .returned v ∧ SlR (· < w'.heap.size) w' v l ∧ Below W.heap.size W w') : Calls Tryz.prog f args W fun e w' => ∃ u, e = .returned u ∧ lzPost (annSl l) W u w' :=
 h.mono fun _ _ ⟨v, he, ho, hb⟩ => ⟨v, he, hb, fun _ => v, rfl, fun _ hb' => ho.belowAll hb'⟩
def annLE (l : Lg) (er : Int) : Ann := ⟨fun r => .tuple #[r.x 0, .int .i64 er], fun r W => LgV W (r.x 0) l⟩
theorem lz_le {f : FuncId} {args : Array Value} {l : Lg} {er : Int} {W : World} (h : Calls Tryz.prog f args W (RetLE W l er)) : Calls Tryz.prog f args W fun e w' => ∃ u, e = .returned u ∧ lzPost (annLE l er) W u w' :=
 h.mono fun _ _ ⟨v, he, ho, hb⟩ => ⟨_, he, hb, fun _ => v, rfl, fun _ hb' => ho.below hb'⟩
def annOpB (ops : List DOp) (n : Nat) : Ann := ⟨fun r => .slice (some ⟨(match r.x 0 with | .int _ b => b.toNat | _ => 0), 0, none⟩) n n, fun r W => OpsAt W (some ⟨(match r.x 0 with | .int _ b => b.toNat | _ => 0), 0, none⟩) ops⟩
theorem lz_opB {f : FuncId} {args : Array Value} {ops : List DOp} {n : Nat} {W : World} (h : Calls Tryz.prog f args W fun e w' => ∃ b, e = .returned (.slice (some ⟨b, 0, none⟩) n n) ∧ OpsAt w' (some ⟨b, 0, none⟩) ops ∧ Below W.heap.size W w') : Calls Tryz.prog f args W fun e w' => ∃ u, e = .returned u ∧ lzPost (annOpB ops n) W u w' :=
 h.mono fun _ _ ⟨b, he, ho, hb⟩ => ⟨_, he, hb, fun _ => .int .i64 b, by simp [annOpB], fun _ hb' => by simpa [annOpB] using ho.below hb'⟩
theorem valid_ver {l : Lg} (h : validL l = true) : ∃ V : Nat, l.ver = V ∧ 1 ≤ V ∧ V ≤ 1099511627776 := by
 obtain ⟨_, h2, h3, _⟩ := validL_parts h
 exact ⟨_, h3, by omega, (headL_bd _ _ _).1⟩
/-- a log box, and the box of the result -/
structure LgS (w : World) (N : Nat) (l : Lg) (po co ro : Option Addr) (pc cc rc : Nat) (W : World) : Prop where
 box : Bx W N (lgC l.disk po co pc cc l.frm l.til l.ver ro l.recs.length rc) 27
 res : Bx W (N + 1) lgZ 27
 below : Below w.heap.size w W
 val : LgV W (.agg (lgC l.disk po co pc cc l.frm l.til l.ver ro l.recs.length rc)) l
theorem LgS.next {w : World} {N : Nat} {l : Lg} {po co ro : Option Addr} {pc cc rc : Nat} {W W' : World} (h : LgS w N l po co ro pc cc rc W) (hb : Below W.heap.size W W') : LgS w N l po co ro pc cc rc W' :=
 ⟨h.box.belowAll hb, h.res.belowAll hb, btr h.below hb, h.val.below hb⟩
theorem LgS.start {w : World} {N : Nat} {l : Lg} {po co ro : Option Addr} {pc cc rc : Nat} (hN : w.heap.size = N) (h : LgV w (.agg (lgC l.disk po co pc cc l.frm l.til l.ver ro l.recs.length rc)) l) :
  LgS w N l po co ro pc cc rc ((w.alloc (.cells (lgC l.disk po co pc cc l.frm l.til l.ver ro l.recs.length rc) 27)).alloc (.cells lgZ 27)) := by
 have hB := (Below.one w (.cells (lgC l.disk po co pc cc l.frm l.til l.ver ro l.recs.length rc) 27)).alloc (by simp) (.cells lgZ 27)
 subst hN
 exact ⟨(Bx.new w _ _).alloc _, Bx.newAt _ _ _ _ (by simp), hB, h.below hB⟩
/-- a log is stored as the result -/
theorem LgS.out {w : World} {N : Nat} {l l' : Lg} {po co ro po' co' ro' : Option Addr} {pc cc rc pc' cc' rc' : Nat} {W Wf : World} (h : LgS w N l po co ro pc cc rc W) (hN : w.heap.size = N)
  (hv : LgV W (.agg (lgC l'.disk po' co' pc' cc' l'.frm l'.til l'.ver ro' l'.recs.length rc')) l')
  (hWf : st8 W (N + 1) (.int .i64 l'.disk.size) (.slice po' l'.disk.pages.length pc') (.slice co' l'.disk.cache.length cc') (.int .i64 l'.disk.left) (.int .i64 l'.frm) (.int .i64 l'.til) (.int .i64 l'.ver) (.slice ro' l'.recs.length rc') = Wf) :
  Bx Wf (N + 1) (lgC l'.disk po' co' pc' cc' l'.frm l'.til l'.ver ro' l'.recs.length rc') 27 ∧ Below w.heap.size w Wf ∧ LgV Wf (.agg (lgC l'.disk po' co' pc' cc' l'.frm l'.til l'.ver ro' l'.recs.length rc')) l' := by
 subst hWf
 exact ⟨h.res.set8, below_set8 h.below (by omega), hv.only h.res (noS_lg _ _ _ _ _ _ _ _ _ _ _ _ _ _) Only.eight⟩
theorem LgS.outZ {w : World} {N : Nat} {l : Lg} {po co ro : Option Addr} {pc cc rc : Nat} {W Wf : World} (h : LgS w N l po co ro pc cc rc W) (hN : w.heap.size = N)
  (hWf : st8 W (N + 1) (.int .i64 0) (.slice none 0 0) (.slice none 0 0) (.int .i64 0) (.int .i64 0) (.int .i64 0) (.int .i64 0) (.slice none 0 0) = Wf) :
  Bx Wf (N + 1) lgZ 27 ∧ Below w.heap.size w Wf := by
 subst hWf
 exact ⟨h.res.set8, below_set8 h.below (by omega)⟩
theorem cutL_full {l : Lg} {n : Int} (h : validL l = true) (h1 : ¬ (n < 0 ∨ (l.recs.length : Int) < n)) (h2 : n ≠ l.recs.length) : cutL l n = if 1099511627776 ≤ l.ver then (zeroL, 17) else finL l (l.recs.take n.toNat) (nextL l (sizeL (l.recs.take n.toNat))) := by
 unfold cutL; rw [if_neg (by simp [h]), if_neg h1, if_neg h2]
set_option maxRecDepth 100000 in
set_option maxHeartbeats 2000000 in
theorem pl_Cut (l : Lg) (v : Value) (n : Int) (w : World) (hL : LgV w v l) (hT : TabW w) (hc : l.disk.cache.length ≤ 999990) :
  Calls Tryz.prog 10 #[v, .int .i64 n] w (RetLE w (cutL l n).1 (cutL l n).2) := by
 obtain ⟨R, hR⟩ : ∃ R, cutL l n = R := ⟨_, rfl⟩
 rw [hR]
 have hL0 := hL
 obtain ⟨po, pc, co, cc, ro, rc, rfl, hD, hsl, hst⟩ := hL
 obtain ⟨N, hN⟩ : ∃ N, w.heap.size = N := ⟨_, rfl⟩
 obtain ⟨W0, hW0⟩ : ∃ W0, (w.alloc (.cells (lgC l.disk po co pc cc l.frm l.til l.ver ro l.recs.length rc) 27)).alloc (.cells lgZ 27) = W0 := ⟨_, rfl⟩
 have s0 : LgS w N l po co ro pc cc rc W0 := by subst hW0; exact LgS.start hN hL0
 have hv := pl_valid l _ W0 s0.val
 have c0 := s0.box.cell
 have l0 := s0.box.lt
 cases g : validL l
 ·
  rw [g] at hv
  have Hv := Lib.hid hv
  obtain ⟨er0, her⟩ : ∃ er : Int, er = 1 := ⟨1, rfl⟩
  have Her := Lib.hid her
  have HRR : Hid (R = (zeroL, er0)) := Lib.hid (by rw [← hR, her]; unfold cutL; rw [if_pos g])
  clear hv hR her g
  go_enter Tryz.func10, Tryz.ntmps10
  go_wp2_with fail
  refine Hv.out.mono ?_
  rintro e w1 ⟨rfl, hb1⟩
  have s1 := s0.next hb1
  clear c0 l0 hW0 hb1
  have c0 := s1.box.cell
  have l0 := s1.box.lt
  obtain ⟨Wf, hWf⟩ : ∃ Wf, st8 w1 (N + 1) (.int .i64 0) (.slice none 0 0) (.slice none 0 0) (.int .i64 0) (.int .i64 0) (.int .i64 0) (.int .i64 0) (.slice none 0 0) = Wf := ⟨_, rfl⟩
  obtain ⟨zR, zB⟩ := s1.outZ hN hWf
  have cX := s1.res.cell
  have lX := s1.res.lt
  have fX := s1.res.free
  have ZB := Lib.hid zB
  have HWf := Lib.hid hWf
  clear zB hWf
  go_wp2
  have HW := HWf.out
  unfold st8 at HW
  rw [HW]
  have cZ := zR.cell
  refine bodyPost_ret (v := .tuple #[.agg lgZ, .int .i64 er0]) (by simp [results, Tryz.results10, go_sem, cZ, Her.out]) rfl ?_
  rw [HRR.out]
  exact ⟨_, rfl, LgV.zero _, ZB.out⟩
 ·
  rw [g] at hv
  have Hv := Lib.hid hv
  obtain ⟨V, hver, hV1, hV2⟩ := valid_ver g
  have hbd := valid_bd g
  have hfit := (validL_parts g).1
  have hcf := fun h1 h2 => cutL_full (n := n) g h1 h2
  have hc0 : cutL l n = if n < 0 ∨ (l.recs.length : Int) < n then (zeroL, 2) else if n = l.recs.length then (l, 0) else cutL l n := by
   by_cases h1 : n < 0 ∨ (l.recs.length : Int) < n
   ·
    rw [if_pos h1]; unfold cutL; rw [if_neg (by simp [g]), if_pos h1]
   ·
    rw [if_neg h1]
    by_cases h2 : n = l.recs.length
    ·
     rw [if_pos h2]; unfold cutL; rw [if_neg (by simp [g]), if_neg h1, if_pos h2]
    ·
     rw [if_neg h2]
  rw [hR] at hc0 hcf
  have Hc0 := Lib.hid hc0
  have Hcf := Lib.hid hcf
  have Hver : Hid (l.ver = V ∧ 1 ≤ V ∧ V ≤ 1099511627776) := Lib.hid ⟨hver, hV1, hV2⟩
  have Hbd := Lib.hid hbd
  have Hfit := Lib.hid hfit
  clear hv hc0 hcf hR g hver hV1 hV2 hbd hfit
  cases g1 : decide (n < 0)
  ·
   cases g2 : decide ((l.recs.length : Int) < n)
   ·
    cases g3 : (n == (l.recs.length : Int))
    ·
     cases g4 : decide (1099511627776 ≤ l.ver)
     ·
      have e1 := of_decide_eq_false g1
      have e2 := of_decide_eq_false g2
      have e3 : n ≠ l.recs.length := by simpa using g3
      obtain ⟨q, rfl⟩ : ∃ q : Nat, n = q := ⟨n.toNat, by omega⟩
      have hq : q < l.recs.length := by omega
      have HRR : Hid (R = finL l (l.recs.take q) (nextL l (sizeL (l.recs.take q)))) := Lib.hid (by rw [Hcf.out (by omega) e3, if_neg (of_decide_eq_false g4)]; rfl)
      obtain ⟨b, off, rfl, -⟩ := hst 0 (by omega)
      have hq1 : ¬ l.recs.length < q := by omega
      have hq2 : ¬ q = l.recs.length := by omega
      clear g1 g2 g3 e1 e2 e3
      obtain ⟨F, er, hF⟩ : ∃ F er, finL l (l.recs.take q) (nextL l (sizeL (l.recs.take q))) = (F, er) := ⟨_, _, rfl⟩
      rw [hF] at HRR
      have HF := Lib.hid hF
      obtain ⟨sz, hsz⟩ : ∃ sz, sizeL (l.recs.take q) = sz := ⟨_, rfl⟩
      have hszb : sz ≤ 1024000 := by have := sizeL_take l.recs q; have := Hbd.out.1; omega
      have Hszb := Lib.hid hszb
      have Hsz := Lib.hid hsz
      have hstT : StrsAt (· < w.heap.size) w (some ⟨b, off, none⟩) (l.recs.take q) := by
       intro j hj
       have hj' : j < q ∧ j < l.recs.length := by rw [List.length_take] at hj; omega
       obtain ⟨b', o', e, h1, h2⟩ := hst j hj'.2
       exact ⟨b', o', e, by rw [h1]; simp, h2⟩
      have HstT := Lib.hid hstT
      have Hst := Lib.hid hst
      have Hsl := Lib.hid hsl
      have Hl0 := Lib.hid hL0
      have HlT : Hid ((l.recs.take q).length = q) := Lib.hid (by rw [List.length_take]; omega)
      have hqc : q ≤ rc := by rcases hsl with ⟨h, _⟩ | ⟨_, _, h, _⟩; cases h; omega
      have hqc' : ¬ rc < q := by omega
      have hqi : (q : Int) ≤ (rc : Int) := by omega
      clear hF hsz hszb hstT hst hsl hD
      go_enter Tryz.func10, Tryz.ntmps10
      go_wp2_with fail
      refine Hv.out.mono ?_
      rintro e w1 ⟨rfl, hb1⟩
      have s1 := s0.next hb1
      clear c0 l0 hW0 hb1
      have c0 := s1.box.cell
      have l0 := s1.box.lt
      have cQ := Lat.cells w1
      have hBw : ∀ x : Lat w1, Below w.heap.size w x.w := fun x => btr s1.below x.h
      have HBw := Lib.hid hBw
      clear hBw
      go_wp2
      refine wp_region_lz 16 2 #[true, true, true, true, true, true, true, true, true, true, true, true, true, true, true, true, false, false] (fun i => if i = 5 then some (annSl (l.recs.take q)) else if i = 11 then some (annK (.int .i64 sz)) else if i = 12 then some (annOpB (nextL l sz) 2) else if i = 13 then some (annLE F er) else none) (by kernel_rfl) (by rfl) (by rfl) (by kernel_rfl) ?_
      simp only [List.take_succ_cons, List.take_zero]
      refine LW.block 5 5 (by rfl) (by kernel_rfl) (by kernel_rfl) ?_
      simp only [List.take_succ_cons, List.take_zero, List.drop_succ_cons, List.drop_zero]
      repeat (first | go_big_quiet_skip | (go_big_quiet_want; go_big_quiet_op; go_big_quiet_on))
      refine wpQuiet_nil ?_
      refine LW.lzy _ (by rfl) (by rfl) ?_ ?_
      ·
       intro yL _
       unfold lzAt
       go_simp
       exact lz_sl (sl_CloneS l.recs (some ⟨b, off, none⟩) rc q _ (Hst.out.below (HBw.out _)) Hsl.out (by have := Hbd.out.2; omega) (by omega))
      intro r5
      simp only [Act.put, List.setIfInBounds_toArray, List.set_cons_zero, List.set_cons_succ]
      refine LW.block 5 11 (by rfl) (by kernel_rfl) (by kernel_rfl) ?_
      simp only [List.take_succ_cons, List.take_zero, List.drop_succ_cons, List.drop_zero]
      repeat (first | go_big_quiet_skip | (go_big_quiet_want; go_big_quiet_op; go_big_quiet_on))
      refine wpQuiet_nil ?_
      refine LW.lzy _ (by rfl) (by rfl) ?_ ?_
      ·
       intro yL _
       unfold lzAt
       go_simp
       have hS := pl_Size yL.w (some ⟨b, off, none⟩) rc (l.recs.take q) (HstT.out.below (HBw.out _)) (by rw [Hsz.out]; have := Hszb.out; omega) (hT.below (HBw.out _)) (by rw [HlT.out]; have := Hbd.out.2; omega)
       rw [HlT.out, Hsz.out] at hS
       exact lz_constB hS
      intro r11
      simp only [Act.put, List.setIfInBounds_toArray, List.set_cons_zero, List.set_cons_succ]
      refine LW.lzy _ (by rfl) (by rfl) ?_ ?_
      ·
       intro yL _
       unfold lzAt
       simp only [annK]
       go_simp
       exact lz_opB (pl_next l _ V sz yL.w (Hl0.out.below (HBw.out _)) Hver.out.1 Hver.out.2.2 (by have := Hszb.out; omega) (by have := area_bd Hfit.out; omega) (by have := area_bd Hfit.out; omega) (by have := fitE_zero Hfit.out; omega) (by have := fitE_zero Hfit.out; have := rangedB_true (chk_zero this.1).1; omega))
      intro r12
      simp only [Act.put, List.setIfInBounds_toArray, List.set_cons_zero, List.set_cons_succ]
      refine LW.lzy _ (by rfl) (by rfl) ?_ ?_
      ·
       intro yL hf
       have h5 : SlR (· < yL.w.heap.size) yL.w (r5.x 0) (l.recs.take q) := (hf 5 (by decide +kernel)).get (by rfl) (by rfl)
       have h12 := (hf 12 (by decide +kernel)).get (A := annOpB (nextL l sz) 2) (by rfl) (by rfl)
       obtain ⟨o5, c5, e5, hs5, ht5⟩ := h5
       have e5' : (annSl (l.recs.take q)).f r5 = .slice o5 (l.recs.take q).length c5 := e5
       rw [e5']
       unfold lzAt
       go_simp
       obtain ⟨X, hX⟩ : ∃ X, (match r12.x 0 with | .int _ b => b.toNat | _ => 0) = X := ⟨_, rfl⟩
       have e12 : (annOpB (nextL l sz) 2).f r12 = .slice (some ⟨X, 0, none⟩) (nextL l sz).length 2 := by rw [← hX]; rfl
       have h12' : OpsAt yL.w (some ⟨X, 0, none⟩) (nextL l sz) := by rw [← hX]; exact h12
       rw [e12, show min q l.recs.length = (l.recs.take q).length from List.length_take.symm]
       have hF := pl_finish l _ (l.recs.take q) o5 c5 (nextL l sz) (some ⟨X, 0, none⟩) 2 yL.w (Hl0.out.below (HBw.out _)) hs5 ht5 h12' (by have : (nextL l sz).length = 2 := rfl; omega) (by have := Hver.out; omega) (by have := Hver.out; omega)
       have HF' := HF.out
       rw [Hsz.out] at HF'
       rw [HF'] at hF
       exact lz_le hF
      intro r13
      simp only [Act.put, List.setIfInBounds_toArray, List.set_cons_zero, List.set_cons_succ, annLE]
      refine LW.block 2 16 (by rfl) (by kernel_rfl) (by kernel_rfl) ?_
      simp only [List.take_succ_cons, List.take_zero, List.drop_succ_cons, List.drop_zero]
      repeat (first | go_big_quiet_skip | (go_big_quiet_want; go_big_quiet_op; go_big_quiet_on))
      refine wpQuiet_nil ?_
      refine LW.done ?_
      intro w2 hG
      have hR : LgV w2 (r13.x 0) F := hG.get 13 rfl rfl
      have hG2 := hG.below
      have hR' := hR
      obtain ⟨po2, pc2, co2, cc2, ro2, rc2, e13, _, _, _⟩ := hR
      rw [e13] at hR' ⊢
      have s2 := s1.next hG2
      clear hG c0 l0
      obtain ⟨Wf, hWf⟩ : ∃ Wf, st8 w2 (N + 1) (.int .i64 F.disk.size) (.slice po2 F.disk.pages.length pc2) (.slice co2 F.disk.cache.length cc2) (.int .i64 F.disk.left) (.int .i64 F.frm) (.int .i64 F.til) (.int .i64 F.ver) (.slice ro2 F.recs.length rc2) = Wf := ⟨_, rfl⟩
      obtain ⟨zR, zB, zL⟩ := s2.out hN hR' hWf
      have cX := s2.res.cell
      have lX := s2.res.lt
      have fX := s2.res.free
      have ZB := Lib.hid zB
      have ZL := Lib.hid zL
      have HWf := Lib.hid hWf
      clear zB zL hWf hR' hG2
      refine wpAny_ready (rs := [16]) (by kernel_rfl) (by simp) ?_
      refine AllReady.cons rfl (fun K hK => ?_) AllReady.nil
      go_simp
      refine hK _ _ ?_
      clear hK K
      refine wpAny_ready (rs := [17]) (by kernel_rfl) (by simp) ?_
      refine AllReady.cons rfl (fun K hK => ?_) AllReady.nil
      go_simp
      refine hK _ _ ?_
      clear hK K
      refine wpAny_done (by kernel_rfl) ?_ _
      go_wp2
      have HW := HWf.out
      unfold st8 at HW
      rw [HW]
      have cZ := zR.cell
      refine bodyPost_ret (v := .tuple #[.agg (lgC F.disk po2 co2 pc2 cc2 F.frm F.til F.ver ro2 F.recs.length rc2), .int .i64 er]) (by simp [results, Tryz.results10, go_sem, cZ]) rfl ?_
      rw [HRR.out]
      exact ⟨_, rfl, ZL.out, ZB.out⟩
     ·
      have HRR : Hid (R = (zeroL, 17)) := Lib.hid (by
       have e1 := of_decide_eq_false g1
       have e2 := of_decide_eq_false g2
       have e3 : n ≠ l.recs.length := by simpa using g3
       rw [Hcf.out (by omega) e3, if_pos (of_decide_eq_true g4)])
      obtain ⟨er0, her⟩ : ∃ er : Int, er = 17 := ⟨17, rfl⟩
      have Her := Lib.hid her
      rw [← her] at HRR
      clear her
      go_enter Tryz.func10, Tryz.ntmps10
      go_wp2_with fail
      refine Hv.out.mono ?_
      rintro e w1 ⟨rfl, hb1⟩
      have s1 := s0.next hb1
      clear c0 l0 hW0 hb1
      have c0 := s1.box.cell
      have l0 := s1.box.lt
      obtain ⟨Wf, hWf⟩ : ∃ Wf, st8 w1 (N + 1) (.int .i64 0) (.slice none 0 0) (.slice none 0 0) (.int .i64 0) (.int .i64 0) (.int .i64 0) (.int .i64 0) (.slice none 0 0) = Wf := ⟨_, rfl⟩
      obtain ⟨zR, zB⟩ := s1.outZ hN hWf
      have cX := s1.res.cell
      have lX := s1.res.lt
      have fX := s1.res.free
      have ZB := Lib.hid zB
      have HWf := Lib.hid hWf
      clear zB hWf
      go_wp2
      have HW := HWf.out
      unfold st8 at HW
      rw [HW]
      have cZ := zR.cell
      refine bodyPost_ret (v := .tuple #[.agg lgZ, .int .i64 er0]) (by simp [results, Tryz.results10, go_sem, cZ, Her.out]) rfl ?_
      rw [HRR.out]
      exact ⟨_, rfl, LgV.zero _, ZB.out⟩
    ·
     have HRR : Hid (R = (l, 0)) := Lib.hid (by
      have e1 := of_decide_eq_false g1
      have e2 := of_decide_eq_false g2
      have e3 : n = l.recs.length := by simpa using g3
      rw [Hc0.out, if_neg (by omega), if_pos e3])
     go_enter Tryz.func10, Tryz.ntmps10
     go_wp2_with fail
     refine Hv.out.mono ?_
     rintro e w1 ⟨rfl, hb1⟩
     have s1 := s0.next hb1
     clear c0 l0 hW0 hb1
     have c0 := s1.box.cell
     have l0 := s1.box.lt
     obtain ⟨Wf, hWf⟩ : ∃ Wf, st8 w1 (N + 1) (.int .i64 l.disk.size) (.slice po l.disk.pages.length pc) (.slice co l.disk.cache.length cc) (.int .i64 l.disk.left) (.int .i64 l.frm) (.int .i64 l.til) (.int .i64 l.ver) (.slice ro l.recs.length rc) = Wf := ⟨_, rfl⟩
     obtain ⟨zR, zB, zL⟩ := s1.out hN s1.val hWf
     have cX := s1.res.cell
     have lX := s1.res.lt
     have fX := s1.res.free
     have ZB := Lib.hid zB
     have ZL := Lib.hid zL
     have HWf := Lib.hid hWf
     clear zB zL hWf
     go_wp2
     have HW := HWf.out
     unfold st8 at HW
     rw [HW]
     have cZ := zR.cell
     refine bodyPost_ret (v := .tuple #[.agg (lgC l.disk po co pc cc l.frm l.til l.ver ro l.recs.length rc), .int .i64 0]) (by simp [results, Tryz.results10, go_sem, cZ]) rfl ?_
     rw [HRR.out]
     exact ⟨_, rfl, ZL.out, ZB.out⟩
   ·
    obtain ⟨er0, her⟩ : ∃ er : Int, er = 2 := ⟨2, rfl⟩
    have Her := Lib.hid her
    have HRR : Hid (R = (zeroL, er0)) := Lib.hid (by rw [Hc0.out, if_pos (.inr (of_decide_eq_true g2)), her])
    clear her
    go_enter Tryz.func10, Tryz.ntmps10
    go_wp2_with fail
    refine Hv.out.mono ?_
    rintro e w1 ⟨rfl, hb1⟩
    have s1 := s0.next hb1
    clear c0 l0 hW0 hb1
    have c0 := s1.box.cell
    have l0 := s1.box.lt
    obtain ⟨Wf, hWf⟩ : ∃ Wf, st8 w1 (N + 1) (.int .i64 0) (.slice none 0 0) (.slice none 0 0) (.int .i64 0) (.int .i64 0) (.int .i64 0) (.int .i64 0) (.slice none 0 0) = Wf := ⟨_, rfl⟩
    obtain ⟨zR, zB⟩ := s1.outZ hN hWf
    have cX := s1.res.cell
    have lX := s1.res.lt
    have fX := s1.res.free
    have ZB := Lib.hid zB
    have HWf := Lib.hid hWf
    clear zB hWf
    go_wp2
    have HW := HWf.out
    unfold st8 at HW
    rw [HW]
    have cZ := zR.cell
    refine bodyPost_ret (v := .tuple #[.agg lgZ, .int .i64 er0]) (by simp [results, Tryz.results10, go_sem, cZ, Her.out]) rfl ?_
    rw [HRR.out]
    exact ⟨_, rfl, LgV.zero _, ZB.out⟩
  ·
   obtain ⟨er0, her⟩ : ∃ er : Int, er = 2 := ⟨2, rfl⟩
   have Her := Lib.hid her
   have HRR : Hid (R = (zeroL, er0)) := Lib.hid (by rw [Hc0.out, if_pos (.inl (of_decide_eq_true g1)), her])
   clear her
   go_enter Tryz.func10, Tryz.ntmps10
   go_wp2_with fail
   refine Hv.out.mono ?_
   rintro e w1 ⟨rfl, hb1⟩
   have s1 := s0.next hb1
   clear c0 l0 hW0 hb1
   have c0 := s1.box.cell
   have l0 := s1.box.lt
   obtain ⟨Wf, hWf⟩ : ∃ Wf, st8 w1 (N + 1) (.int .i64 0) (.slice none 0 0) (.slice none 0 0) (.int .i64 0) (.int .i64 0) (.int .i64 0) (.int .i64 0) (.slice none 0 0) = Wf := ⟨_, rfl⟩
   obtain ⟨zR, zB⟩ := s1.outZ hN hWf
   have cX := s1.res.cell
   have lX := s1.res.lt
   have fX := s1.res.free
   have ZB := Lib.hid zB
   have HWf := Lib.hid hWf
   clear zB hWf
   go_wp2
   have HW := HWf.out
   unfold st8 at HW
   rw [HW]
   have cZ := zR.cell
   refine bodyPost_ret (v := .tuple #[.agg lgZ, .int .i64 er0]) (by simp [results, Tryz.results10, go_sem, cZ, Her.out]) rfl ?_
   rw [HRR.out]
   exact ⟨_, rfl, LgV.zero _, ZB.out⟩
end Go.Proofs.YtghikgjknhjjgaaGreatDoor
namespace Go.Proofs.YtghikgjknhjjgaaGreatDoor
set_option maxRecDepth 100000
open Go.RowKit
section
variable {P : Program} {ops : Array Oper} {md : Region.Mode} {W0 : World} {an : Anns}
/-- the head's operations in whatever order; when all but q are done, q is taken -/
def AOd (P : Program) (ops : Array Oper) (md : Region.Mode) (an : Anns) (W0 : World) (n q : Nat) (dl : Array Bool) (L : Array Bool → Recs → Act → Prop) : Nat → Array Bool → Recs → Act → Prop
 | 0, listed, ξ, a => L listed ξ a
 | f + 1, listed, ξ, a => Region.ready md ops listed ≠ [] ∧ (listed ≠ dl → ∀ i ∈ Region.ready md ops listed, i < n) ∧ (listed = dl → q ∈ Region.ready md ops listed) ∧
  ∀ i ∈ Region.ready md ops listed, i < n → ∀ o, ops[i]? = some o → StepK P ops md an W0 i o ξ a (AOd P ops md an W0 n q dl L f (listed.setIfInBounds i true))
def lateB (md : Region.Mode) (ops : Array Oper) (n q : Nat) : Bool := (List.range ops.size).all fun t => decide (t < n) || (List.range n).all fun i => decide (i = q) || (pastB md ops 8 [t]).contains i
structure ClosedD (md : Region.Mode) (ops : Array Oper) (n : Nat) (listed : Array Bool) : Prop extends Closed md ops n listed where
 head : ∀ j, n ≤ j → listed.getD j false = false
theorem ClosedD.set {n i : Nat} {listed : Array Bool} (inv : ClosedD md ops n listed) (hi : i ∈ Region.ready md ops listed) (hn : i < n) : ClosedD md ops n (listed.setIfInBounds i true) :=
 ⟨inv.toClosed.set hi, fun j hj => by rw [getD_set_ne false (by omega)]; exact inv.head j hj⟩
theorem AO_firstD {n i q : Nat} {dl : Array Bool} {oi : Oper} {S : Option Rec → Value → Prop} {L : Array Bool → Recs → Act → Prop} (hi : ops[i]? = some oi) (hsel : ∀ (j : Nat) (o : Oper) cs b, ops[j]? = some o → o.op ≠ .select cs b)
  (hs : lateB md ops n q = true) (hin : i < n) (hdl : dl.size = ops.size) (hdq : ∀ j, dl.getD j false = (decide (j < n) && decide (j ≠ q))) (hqn : q < n) (hdone : ∀ listed ξ a, L listed ξ a → ∀ j ∈ Region.ready md ops listed, n ≤ j) :
  ∀ (f : Nat) (listed : Array Bool) (ξ : Recs) (a : Act), ClosedD md ops n listed →
   (∀ j oj, ops[j]? = some oj → j ≠ i → listed.getD j true = false → (∀ e ∈ oj.after, Region.binds md e = true → e.on ≠ i) → oi.apart ops oj = true) →
   i ∈ Region.ready md ops listed → Outs P ops md an W0 i oi ξ a S →
   (∀ ρ v, S ρ v → AOd P ops md an W0 n q dl L f (listed.setIfInBounds i true) (upr ξ i ρ) (a.put oi.dst v)) → AOd P ops md an W0 n q dl L (f + 1) listed ξ a := by
 intro f
 -- a ready operation behind the head: then q alone is left
 have late : ∀ (listed : Array Bool), ClosedD md ops n listed → i ∈ Region.ready md ops listed → ∀ j ∈ Region.ready md ops listed, n ≤ j → i = q ∧ listed = dl := by
  intro listed inv hr j hj hn
  have hlt : j < ops.size := by obtain ⟨_, oj, hoj, _⟩ := mem_ready.1 hj; exact (Array.getElem?_eq_some_iff.1 hoj).1
  have h1 := List.all_eq_true.1 hs j (List.mem_range.2 hlt)
  simp only [Bool.or_eq_true, decide_eq_true_eq] at h1
  have hall : ∀ k, k < n → k ≠ q → listed.getD k false = true := by
   intro k hk hkq
   rcases h1 with h1 | h1
   ·
    omega
   ·
    have h2 := List.all_eq_true.1 h1 k (List.mem_range.2 hk)
    simp only [Bool.or_eq_true, decide_eq_true_eq] at h2
    rcases h2 with h2 | h2
    ·
     exact absurd h2 hkq
    ·
     rcases reach_listed hj inv.closed h2 with h3 | h3
     ·
      omega
     ·
      exact h3
  have hiq : i = q := by
   rcases Nat.decEq i q with h | h
   ·
    have := hall i hin h
    rw [getD_both (mem_ready.1 hr).1] at this
    cases this
   ·
    exact h
  refine ⟨hiq, ?_⟩
  have key : ∀ k, listed.getD k false = dl.getD k false := by
   intro k
   rw [hdq]
   by_cases hk : k < n
   ·
    by_cases hkq : k = q
    ·
     subst hkq; subst hiq
     rw [getD_both (mem_ready.1 hr).1]
     simp
    ·
     rw [hall k hk hkq]; simp [hk, hkq]
   ·
    rw [inv.head k (by omega)]; simp [hk]
  apply Array.ext
  ·
   rw [inv.size, hdl]
  ·
   intro k h1 h2
   have := key k
   simpa [Array.getD, h1, h2] using this
 -- when listed = dl, what is ready of the head is q
 have only : ∀ (listed : Array Bool), listed = dl → ∀ j ∈ Region.ready md ops listed, j < n → j = q := by
  intro listed e j hj hn
  subst e
  rcases Nat.decEq j q with h | h
  ·
   have h0 := (mem_ready.1 hj).1
   have := hdq j
   rw [getD_both h0] at this
   simp [hn, h] at this
  ·
   exact h
 have lt_of : ∀ (listed : Array Bool), ClosedD md ops n listed → i ∈ Region.ready md ops listed → listed ≠ dl → ∀ j ∈ Region.ready md ops listed, j < n := by
  intro listed inv hr hne j hj
  rcases Nat.lt_or_ge j n with h | h
  ·
   exact h
  ·
   exact absurd (late listed inv hr j hj h).2 hne
 induction f with
 | zero =>
  intro listed ξ a inv _ hr hy H
  refine ⟨fun h => (by rw [h] at hr; cases hr), lt_of listed inv hr, fun e => by rw [← only listed e i hr hin]; exact hr, fun j hj hjn oj hoj => ?_⟩
  by_cases hji : j = i
  ·
   subst hji
   obtain rfl : oj = oi := Option.some.inj (hoj.symm.trans hi)
   exact ⟨S, hy, H⟩
  ·
   obtain ⟨ρ, v, hs⟩ := hy.some
   have := hdone _ _ _ (H ρ v hs) j (ready_mono hj hji)
   omega
 | succ f ih =>
  intro listed ξ a inv hfree hr hy H
  refine ⟨fun h => (by rw [h] at hr; cases hr), lt_of listed inv hr, fun e => by rw [← only listed e i hr hin]; exact hr, fun j hj hjn oj hoj => ?_⟩
  by_cases hji : j = i
  ·
   subst hji
   obtain rfl : oj = oi := Option.some.inj (hoj.symm.trans hi)
   exact ⟨S, hy, H⟩
  ·
   obtain ⟨hjun, oj', hoj', hall⟩ := mem_ready.1 hj
   obtain rfl : oj' = oj := Option.some.inj (hoj'.symm.trans hoj)
   have hun := (mem_ready.1 hr).1
   have hnot : ∀ e ∈ oj'.after, Region.binds md e = true → e.on ≠ i := fun e he hb heq => by
    have h1 := hall e he hb
    rw [heq, getD_both hun] at h1
    cases h1
   have hri : reachB md ops i j = false := by
    cases h : reachB md ops i j with
    | false => rfl
    | true =>
     rcases reach_listed hr inv.closed h with h2 | h2
     ·
      exact absurd h2 hji
     ·
      rw [getD_both hjun] at h2; cases h2
   have hrj : reachB md ops j i = false := by
    cases h : reachB md ops j i with
    | false => rfl
    | true =>
     rcases reach_listed hj inv.closed h with h2 | h2
     ·
      exact absurd h2.symm hji
     ·
      rw [getD_both hun] at h2; cases h2
   have hfree' : ∀ k ok, ops[k]? = some ok → k ≠ i → (listed.setIfInBounds j true).getD k true = false →
     (∀ e ∈ ok.after, Region.binds md e = true → e.on ≠ i) → oi.apart ops ok = true := fun k ok hk hki hun hno => by
    refine hfree k ok hk hki ?_ hno
    by_cases hjk : j = k
    ·
     subst hjk; exact hjun
    ·
     rw [getD_set_ne true hjk] at hun; exact hun
   refine (StepK.swap (Ne.symm hji) (hfree j oj' hoj hji hjun hnot) (fun cs b => hsel i oi cs b hi) (fun cs b => hsel j oj' cs b hoj) hri hrj hy fun ρ v hs => (H ρ v hs).2.2.2 j (ready_mono hj hji) hjn oj' hoj).mono ?_
   rintro ξ' a' ⟨h1, h2⟩
   refine ih (listed.setIfInBounds j true) ξ' a' (inv.set hj hjn) hfree' (ready_mono hr (Ne.symm hji)) h1 fun ρ v hs => ?_
   rw [Array.setIfInBounds_comm _ _ hji]
   exact h2 ρ v hs
theorem AO_lexD {n q : Nat} {dl : Array Bool} {Lq : Recs → Act → Prop} (hsel : Region.noSelect ops = true) (hs : lateB md ops n q = true) (hdl : dl.size = ops.size) (hdq : ∀ j, dl.getD j false = (decide (j < n) && decide (j ≠ q))) (hqn : q < n) (hno : n ≤ ops.size) (done : Array Bool) (hdn : (Region.ready md ops done).all (fun j => decide (n ≤ j)) = true) :
  ∀ (l : List Oper) (k : Nat) (listed : Array Bool) (ξ : Recs) (a : Act), (∀ j, j < l.length → l[j]? = ops[k + j]?) → k + l.length = n → ClosedD md ops n listed → setTo listed l.length k = done →
  lazyHead md ops n l.length k listed = true → LW P ops md an W0 Lq l k ξ a → AOd P ops md an W0 n q dl (fun listed' ξ' a' => listed' = done ∧ Lq ξ' a') l.length listed ξ a
 | [], k, listed, ξ, a, _, _, _, hd, _, h => ⟨hd, h⟩
 | o :: l, k, listed, ξ, a, hl, hk, inv, hd, hB, h => by
  have h0 : ops[k]? = some o := by simpa using (hl 0 (by simp)).symm
  simp only [List.length_cons, lazyHead, Bool.and_eq_true] at hB
  obtain ⟨⟨hr, hf⟩, hB'⟩ := hB
  have hkn : k < n := by simp only [List.length_cons] at hk; omega
  have hr' : k ∈ Region.ready md ops listed := by simpa using hr
  obtain ⟨S, hS, hK⟩ := h
  refine AO_firstD h0 (Region.noSelect_spec hsel) hs hkn hdl hdq hqn (fun listed' _ a' hL j hj => ?_) l.length listed ξ a inv (Region.free_spec h0 hf) hr' hS fun ρ v hs' => ?_
  ·
   rw [hL.1] at hj; exact of_decide_eq_true (List.all_eq_true.1 hdn j hj)
  ·
   exact AO_lexD hsel hs hdl hdq hqn hno done hdn l (k + 1) _ _ _ (fun j hj => by have := hl (j + 1) (by simp; omega); simpa [Nat.add_assoc, Nat.add_comm 1 j] using this) (by simp only [List.length_cons] at hk; omega) (inv.set hr' hkn) (by simpa [setTo] using hd) hB' (hK ρ v hs')
theorem wpAny_of_AOd {n q g : Nat} {dl : Array Bool} {oq : Oper} {L : Array Bool → Recs → Act → Prop} {Q' : Exit → Act → World → Prop} (hoq : ops[q]? = some oq) (hqn : q < n) (hsel : Region.noSelect ops = true) (hfr : Region.free md ops dl q = true) (hnq : an q = none) (hgq : oq.guard = none)
  (hQ : ∀ c a w v, Q' (.panic c) (a.put oq.dst v) w → Q' (.panic c) a w) (hp : ∀ (ρ : Operand → Value) w w' v, (execOp ρ oq).run P w = .ok (.value v) w → (execOp ρ oq).run P w' = .ok (.value v) w')
  (hL : ∀ listed ξ a w, L listed ξ a → Good an W0 ξ w → wpAny P md ops Q' g listed a w) :
  ∀ (f : Nat) (listed : Array Bool) (ξ : Recs) (a : Act) (w : World), AOd P ops md an W0 n q dl L f listed ξ a → Good an W0 ξ w → wpAny P md ops Q' (f + g) listed a w
 | 0, listed, ξ, a, w, h, hg => by rw [Nat.zero_add]; exact hL _ _ _ _ h hg
 | f + 1, listed, ξ, a, w, h, hg => by
  rw [show f + 1 + g = (f + g) + 1 by omega]
  obtain ⟨h0, h1, h2, h3⟩ := h
  by_cases he : listed = dl
  ·
   have hq := h2 he
   obtain ⟨S, hS, hK⟩ := h3 q hq hqn oq hoq
   cases hS with
   | skip hw => unfold Region.wanted at hw; rw [hgq] at hw; cases hw
   | quiet v hw hn hr =>
    refine wpAny_take (i := q) (v := v) hoq hsel (by rw [he]; exact hfr) (by simpa using hq) (fun c a w => hQ c a w v) (.inl ⟨hw, fun w' => hp _ w w' v (hr w ⟨⟨w, hg.below⟩, rfl⟩)⟩) ?_
    exact wpAny_of_AOd hoq hqn hsel hfr hnq hgq hQ hp hL f _ _ _ _ (hK none v ⟨rfl, rfl⟩) hg
   | lzy A hw hn hl => rw [hnq] at hn; cases hn
  ·
   refine ⟨fun h => absurd h h0, fun i hi => ?_⟩
   obtain ⟨_, oi, hoi, _⟩ := mem_ready.1 hi
   obtain ⟨S, hS, hK⟩ := h3 i hi (h1 he i hi) oi hoi
   unfold wpOp
   simp only [hoi]
   cases hS with
   | skip hw =>
    rw [if_neg (by rw [hw]; exact Bool.false_ne_true)]
    exact wpAny_of_AOd hoq hqn hsel hfr hnq hgq hQ hp hL f _ _ _ _ (hK none undef ⟨rfl, rfl⟩) hg
   | quiet v hw hn hr =>
    rw [if_pos hw]
    left
    unfold Oper.wp
    rw [hr w ⟨⟨w, hg.below⟩, rfl⟩]
    exact wpAny_of_AOd hoq hqn hsel hfr hnq hgq hQ hp hL f _ _ _ _ (hK none v ⟨rfl, rfl⟩) hg
   | lzy A hw hn hl =>
    rw [if_pos hw]
    left
    refine wp_of_lz (hl w hg.below fun j _ => hg.fact j) ?_
    rintro v w' ⟨hb, x, rfl, hΦ⟩
    exact wpAny_of_AOd hoq hqn hsel hfr hnq hgq hQ hp hL f _ _ _ _ (hK _ _ ⟨_, rfl, rfl⟩) (hg.add hb hn hΦ)
def lazyLateB (md : Region.Mode) (ops : Array Oper) (n q : Nat) (dl : Array Bool) : Bool := Region.noSelect ops && lateB md ops n q && lazyHead md ops n n 0 (Array.replicate ops.size false) && Region.free md ops dl q && decide (dl.size = ops.size) && decide (q < n) && decide (n ≤ ops.size) && ((List.range ops.size).all fun j => dl.getD j false == (decide (j < n) && decide (j ≠ q)))
/-- Lazy's law with a late operation q -/
theorem wp_region_late {id : Nat} {Q : Exit → Act → World → Prop} {a : Act} {w : World} {l : List Oper} (n q g : Nat) (dl done : Array Bool) (an : Anns) (oq : Oper) (hm : P.follows .mixedOrders = true) (hoq : l.toArray[q]? = some oq) (hn : l.length = n + g) (hd : setTo (Array.replicate l.length false) n 0 = done) (hB : lazyLateB .any l.toArray n q dl = true)
  (hnq : an q = none) (hgq : oq.guard = none) (hQ : ∀ c a w v, Q (.panic c) (a.put oq.dst v) w → Q (.panic c) a w) (hp : ∀ (ρ : Operand → Value) w w' v, (execOp ρ oq).run P w = .ok (.value v) w → (execOp ρ oq).run P w' = .ok (.value v) w')
  (h : LW P l.toArray .any an w (fun ξ a' => ∀ w', Good an w ξ w' → wpAny P .any l.toArray Q g done a' w') (l.take n) 0 (fun _ => none) a) : (Code.region id l.toArray true).wp P Q a w := by
 simp only [lazyLateB, Bool.and_eq_true, decide_eq_true_eq] at hB
 obtain ⟨⟨⟨⟨⟨⟨⟨hsel, hs⟩, hlex⟩, hfr⟩, hdl⟩, hqn⟩, hno⟩, hall⟩ := hB
 have hdq : ∀ j, dl.getD j false = (decide (j < n) && decide (j ≠ q)) := by
  intro j
  by_cases hj : j < l.toArray.size
  ·
   have := List.all_eq_true.1 hall j (List.mem_range.2 hj)
   simpa using this
  ·
   have : dl.getD j false = false := by simp [Array.getD, show ¬ j < dl.size by omega]
   rw [this]
   simp; omega
 have htl : (l.take n).length = n := by simp; omega
 have inv0 : ClosedD .any l.toArray n (Array.replicate l.toArray.size false) := ⟨⟨by simp, fun j oj _ hl => (by rw [getD_replicate_false] at hl; cases hl)⟩, fun j _ => getD_replicate_false _ _⟩
 have hdn := lazyHead_done _ _ _ hlex
 have H := AO_lexD (md := .any) hsel hs hdl hdq hqn hno _ hdn (l.take n) 0 _ _ a (fun j hj => by
  have hj' : j < n := by rw [htl] at hj; exact hj
  simp [hj']) (by simpa using htl) inv0 (by rw [htl]) (by rw [htl]; exact hlex) h
 refine wp_region_any hm ?_
 simp only [List.size_toArray] at H
 have := wpAny_of_AOd (g := g) (Q' := Q) (w := { w with drawn := w.drawn + 1 }) hoq hqn hsel hfr hnq hgq hQ hp (fun listed ξ a' w' hL hg => ?_) _ _ _ _ H (Good.start an ((Below.refl _ w).drew))
 ·
  rw [htl] at this
  rw [List.size_toArray, hn]
  simpa [hn] using this
 ·
  rw [hL.1, hd]
  exact hL.2 w' hg
theorem extract_pure {o : Oper} (x : Operand) (k : Nat) (h : o.op = .extract x k) (ρ : Operand → Value) (w w' : World) (v : Value) (hr : (execOp ρ o).run P w = .ok (.value v) w) : (execOp ρ o).run P w' = .ok (.value v) w' := by
 unfold execOp at hr ⊢
 rw [h] at hr ⊢
 dsimp only at hr ⊢
 rw [Sem.run_bind] at hr ⊢
 cases hx : ρ x with
 | tuple vs =>
  rw [hx] at hr
  unfold Instr.extract at hr ⊢
  cases hv : vs[k]? with
  | none => simp [hv, Result.andThen] at hr
  | some u =>
   simp only [hv, Sem.run_pure, Result.andThen_ok] at hr ⊢
   injection hr with h1 _
   rw [h1]
 | _ =>
  rw [hx] at hr
  unfold Instr.extract at hr
  simp [Result.andThen] at hr
end
end Go.Proofs.YtghikgjknhjjgaaGreatDoor
