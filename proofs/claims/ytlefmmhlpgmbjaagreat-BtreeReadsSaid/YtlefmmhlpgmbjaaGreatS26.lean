/- btree.Scan: program's side. quiltref42.Check, tree, Pairs, Get, Scan. quiltref42.Scan. quiltref42.perform, Format, Great. Plain laws: a stream of records reads as the records, and what reads as records is their stream. No function of the program is named here. -/
import Derived.Test.YtlefmmhlpgmbjaaGreatS12
import Derived.OwnWalkIn
import Derived.Test.YtlefmmhlpgmbjaaGreatS25
import Derived.Test.YtlefmmhlpgmbjaaGreatS15
import Derived.Test.YtlefmmhlpgmbjaaGreatS05
import Derived.Test.YtlefmmhlpgmbjaaGreatS24
import Derived.Test.YtlefmmhlpgmbjaaGreatS01
namespace Go.Proofs.YtlefmmhlpgmbjaaGreat
set_option maxRecDepth 100000
open Go.RowKit Go.Shelf
attribute [local go_sem] Oper.semAt_some
theorem zdZ {A B : World} {row : Option Nat} {base : Nat} {e : TypeId} {m : Nat} {v : Value} {n : Nat} {xs : List Value} (hs : A.ownsRow base e m v n xs) (hg : A.grownBy B row) (hr : ∀ r, row = some r -> ∃ o : Obj, A.heap[r]? = some o /\ o.isCells = false) : B.ownsRow base e m v n xs := by
 refine hs.kept hg ?_
 by_cases h : v.ownBlock = none
 . exact .inl h
 .
  refine .inr fun e => ?_;rcases hs.2 with ⟨rfl, _⟩ | ⟨g, cap, cur, rfl, _, hgg, _⟩
  . exact h rfl
  . obtain ⟨o, ho, hc⟩ := hr g (by rw [<- e]; rfl);rw [hgg] at ho;cases ho;cases hc
theorem zfA : ByteArray.empty.toList = [] := by rw [ByteArray.toList_eq]; rfl
theorem zdS {w w' : World} {base size n : Nat} {e : TypeId} {v : Value} {xs : List Value} (ho : w.ownsRow base e size v n xs) (hg : w.grownBy w' v.ownBlock) : KeepsOthers w w' := by
 refine ⟨hg.size, fun k o hk hc => (hg.block k (Array.getElem?_eq_some_iff.1 hk).1 fun e => ?_).trans hk⟩;rcases ho.2 with ⟨rfl, _⟩ | ⟨g, cap, cur, rfl, _, hgg, _⟩
 . simp [Value.ownBlock] at e
 . simp [Value.ownBlock] at e;subst e;rw [hgg] at hk;cases hk;cases hc
def inB (low high : ByteArray) (x : Kv) : Bool := !kLt x.1 low && (decide (high = ByteArray.empty) || kLt x.1 high)
theorem zfb (l : List Kv) (x : Kv) (low high : ByteArray) : scanP (l ++ [x]) low high = scanP l low high ++ (if inB low high x then [x] else []) := by
 unfold scanP inB;rw [List.filter_append, List.filter_cons, List.filter_nil]
theorem zhg (l : List Kv) (low high : ByteArray) : (scanP l low high).length <= l.length := List.length_filter_le _ _
def ziv (w : World) (base : Nat) (v : Value) (l : List Kv) : Prop := w.ownsRow base 77 2 v l.length (kvsC l)
def zcN (x : Ix) (low high : ByteArray) : List Kv × Int :=
 match zat x with
 | none => ([], 1)
 | some t => (scanP (zaf t) low high, 0)
def zgj (r : List Kv × Int) (w : World) (e : Ending) (w' : World) : Prop := Below w.heap.size w w' /\ ∃ v, e = .returned (.tuple #[v, .int .i64 r.2]) /\ ziv w' w.heap.size v r.1
set_option maxRecDepth 100000 in
set_option maxHeartbeats 4000000 in
theorem zkX (x : Ix) (v : Value) (low high : ByteArray) (w : World) (hx : IxV w v x) (hpl : ∀ t, zat x = some t -> (zaf t).length <= 1000000) :
  Calls Tryz.prog 22 #[v, .string low, .string high] w (zgj (zcN x low high) w) := by
 have hx0 := hx;obtain ⟨po, pc, co, cc, fo, fc, rfl, -, -, -⟩ := hx;obtain ⟨ip, hip, hz0, hz1, hz2⟩ := info_parts zbo;have Hi := zhI (zaI hip (zaI hz0 (zaI hz1 hz2)));clear hip hz0 hz1 hz2;obtain ⟨R, hR⟩ : ∃ R, zgj (zcN x low high) w = R := ⟨_, rfl⟩;rw [hR];have HR := zhI hR;obtain ⟨N, hN⟩ : ∃ N, w.heap.size = N := ⟨_, rfl⟩;obtain ⟨IC, hIC⟩ : ∃ IC, ixC x.disk po co pc cc x.frm x.til x.ver x.root fo x.free.length fc = IC := ⟨_, rfl⟩;obtain ⟨W0, hW0⟩ : ∃ W0, ((w.alloc (.cells (ixC x.disk po co pc cc x.frm x.til x.ver x.root fo x.free.length fc) 33)).alloc (.cells #[.string low] 9)).alloc (.cells #[.string high] 9) = W0 := ⟨_, rfl⟩;have hB0 : Below w.heap.size w W0 := by subst hW0; exact ((Below.one w _).alloc (by simp) _).alloc (by simp; omega) _
 have xI : Bx W0 N (ixC x.disk po co pc cc x.frm x.til x.ver x.root fo x.free.length fc) 33 := by subst hW0 hN; exact ((Bx.new w _ _).alloc _).alloc _
 have xl : Bx W0 (N + 1) #[.string low] 9 := by subst hW0 hN; exact (Bx.newAt _ _ _ _ (by simp)).alloc _
 have xh : Bx W0 (N + 1 + 1) #[.string high] 9 := by subst hW0 hN; exact Bx.newAt _ _ _ _ (by simp)
 have htr := zfN x _ _ (hx0.below hB0);have Htr := zhI htr;have cX := xI.cell;have lX := xI.lt;unfold ixC at cX hW0;clear htr hx0 hR xI hIC IC;obtain ⟨n, hn⟩ : ∃ n, 9 <= n := ⟨9, Nat.le_refl _⟩;refine (callsIn_wide (n := n)).1 ?_;have hro : Fence.wide.round = none := rfl;have h1 : 1 <= n := by omega
 refine callsIn_of_wp_marks Tryz.func22 rfl trivial ?_ hro;simp only [Tryz.ntmps22, List.size_toArray, zlC, List.length_nil, Nat.reduceAdd, Nat.reduceSub, Array.replicate_succ, Array.replicate_zero, List.push_toArray, List.append_toArray, List.nil_append, List.cons_append];gi_wp2_with fail;refine ⟨trivial, ?_⟩;refine (callsIn_wide.2 Htr.out).mono ?_;rintro e W4 ⟨hb4, hres⟩;have hB4 := btr hB0 hb4;have yl := xl.belowAll hb4;have yh := xh.belowAll hb4;have hl4 := yh.lt;clear cX lX xl xh hW0 Htr hb4;cases hv : zat x with
 | none => rw [hv] at hres;obtain ⟨u, rfl⟩ := hres;have HP : Hid (zcN x low high = ([], 1)) := zhI (by unfold zcN; rw [hv]);clear hv;gi_wp2;refine ⟨.tuple #[.slice none 0 0, .int .i64 1], by simp [results, Tryz.f22, go_sem], ?_⟩;rw [<- HR.out];unfold zgj;rw [HP.out];exact ⟨hB4, _, rfl, World.ownsRow_nil _ _ _ _⟩
 | some t =>
  rw [hv] at hres;obtain ⟨a, rfl, hLO, hnd⟩ := hres;have HP : Hid (zcN x low high = (scanP (zaf t) low high, 0)) := zhI (by unfold zcN; rw [hv]);obtain ⟨D, hD⟩ : ∃ D, zaf t = D := ⟨_, rfl⟩;have hDl : D.length <= 1000000 := by rw [<- hD]; exact hpl t hv
  have HD : Hid (zaf (ndO a) = D) := zhI (by rw [hnd, hD]);rw [hD] at HP;obtain ⟨p, hp⟩ : ∃ p, rootV a = .pointer p := by cases a with
   | none => exact ⟨none, rfl⟩
   | some t => exact ⟨_, rfl⟩
  rw [hp];obtain ⟨Fb, hFb⟩ : ∃ F, W4.heap.size = F := ⟨_, rfl⟩;obtain ⟨W5, hW5⟩ : ∃ W5, W4.alloc (.cells #[.slice none 0 0] 41) = W5 := ⟨_, rfl⟩;have hB5 : Below W4.heap.size W4 W5 := by rw [<- hW5]; exact Below.one W4 _
  have yo : Bx W5 Fb #[.slice none 0 0] 41 := by rw [<- hW5, <- hFb]; exact Bx.new W4 _ _
  have hz5 : W5.heap.size = Fb + 1 := by rw [<- hW5, <- hFb]; simp
  have HLO := zhI hLO;clear hv hpl hnd hD hLO;gi_wp2_with fail;refine ⟨trivial, ?_⟩;refine (zc0 _ p _).mono ?_;rintro e W6 ⟨rfl, yr, yw, hb6, hz6⟩;rw [hz5] at yr yw hz6;have hB6 := btr hB5 hb6;have zo := yo.belowAll hb6;have zl := yl.belowAll hB6;have zh := yh.belowAll hB6;have HL6 : Hid (LiesO W0.heap.size W6 a) := zhI (fun t ht => by obtain ⟨q1, q2, q3⟩ := HLO.out t ht; exact ⟨q1.staysAll hB6, q2, q3⟩);have Hfp : Hid (∀ x ∈ fpO a, x < Fb) := zhI (fun x hx => by
   cases a with
   | none => cases hx
   | some t => rw [<- hFb]; exact ((HLO.out t rfl).1.lt x hx).2)
  have hBw := btr hB4 hB6;rw [<- hp] at yr;have Hnn : Hid (N + 1 + 1 < Fb) := zhI (by rw [<- hFb]; exact hl4);have Hz6 := zhI hz6;have hDl2 : (zaf (ndO a)).length <= 1000000 := by rw [HD.out]; exact hDl
  clear hb6 hW5 hB6 yo yl yh HLO hp hB5 hz6;gi_wp2;refine zca hro h1 (gf := 103) (lb := #[.pointer (some ⟨Fb + 1, 0, none⟩), .pointer (some ⟨Fb + 1 + 1, 0, none⟩)]) rfl trivial (enters_of Tryz.func103 (by kernel_rfl) rfl)
   (zbQ (n - 1) (by omega) W0.heap.size (Fb + 1) (Fb + 1 + 1) (fun b => b ∈ fpO a \/ b = Fb + 1 \/ b = Fb + 1 + 1) a W6 HL6.out (fun x hx => .inl hx) (.inr (.inl rfl)) (.inr (.inr rfl)) yr yw (by rw [HD.out]; exact hDl))
   (fun b hb => by rcases hb with hb | rfl | rfl; have := Hfp.out b hb; have := Hz6.out; omega; have := Hz6.out; omega; have := Hz6.out; omega) (fun _ => rfl)
   (fun pre W => KeepB [Fb] W6 W /\ pre.length <= 1000000 /\ ∃ o c, Bx W Fb #[.slice o (scanP pre low high).length c] 41 /\ W.ownsRow W6.heap.size 77 2 (.slice o (scanP pre low high).length c) (scanP pre low high).length (kvsC (scanP pre low high)))
   (fun _ _ _ => False)
   (fun s A B row hs hg hr => by obtain ⟨q1, q0, o, c, q2, q3⟩ := hs; exact ⟨q1.grown hg (fun r e => (hr r e).1), q0, o, c, zaD q2 hg (fun r e => (hr r e).2), zdZ q3 hg (fun r e => (hr r e).2)⟩)
   (fun c s A B row hs hg hr => hs)
   ⟨KeepB.refl _ _, Nat.zero_le _, none, 0, zo, World.ownsRow_nil _ _ _ _⟩ (fun s W hs => hs.1.2.2.2.1) 11 (fun x => #[.string x.1, .string x.2]) 77
   ?assign ?body ?done ?stop
  case assign => intro l pre x W K hI hK;simp only [List.zip_toArray, List.zip_cons_cons, List.zip_nil_right, List.size_toArray] at hK |-;gi_wp2;exact hK
  case body =>
   rintro l pre ⟨ky, vl⟩ Bb W hBb ⟨hKB, hpl, o, c, b1, ho⟩ hX hlt;simp only [List.zip_toArray, List.zip_cons_cons, List.zip_nil_right, List.size_toArray];have hsn := zfb pre (ky, vl) low high;have hsl := zhg pre low high;have bl := hKB.bx zl (by simp; have := Hnn.out; omega);have bh := hKB.bx zh (by simp; have := Hnn.out; omega);have hpl2 : (pre ++ [(ky, vl)]).length <= 1000000 := by rw [zlA]; simp; omega
   obtain ⟨L, hL⟩ : ∃ L, scanP pre low high = L := ⟨_, rfl⟩;rw [hL] at b1 ho hsn hsl;obtain ⟨m, hm⟩ : ∃ m, L.length = m := ⟨_, rfl⟩;rw [hm] at b1 ho hsl;have HKB := zhI hKB;have cl := bl.cell 0;have ch := bh.cell 0;have c1 := hX.cell 0;have c2 := hX.cell 1;have co := b1.cell 0;simp only [List.getElem?_toArray, List.getElem?_cons_zero, List.getElem?_cons_succ] at cl ch c1 c2 co;have fo := b1.free 0;have ll := bl.lt;have lh := bh.lt;have l1 := hX.lt;have lo := b1.lt;have Hm := zhI hm;have Hsn := zhI hsn;clear hKB hL hm hsn bl bh;cases q1 : kLt ky low with
   | true => have q1' : Go.Op.bytesLess ky.toList low.toList = true := q1;have HE : Hid (scanP (pre ++ [(ky, vl)]) low high = L) := zhI (by rw [Hsn.out]; simp [inB, q1]);clear q1 Hsn;gi_wp2;exact ⟨KeepsFrom.refl _ _, KeepT.refl _ _, HKB.out, hpl2, o, c, by rw [HE.out, Hm.out]; exact b1, by rw [HE.out, Hm.out]; exact ho⟩
   | false =>
    have q1' : Go.Op.bytesLess ky.toList low.toList = false := q1
    by_cases q2 : high = ByteArray.empty
    .
     have q2' : high.toList.isEmpty = true := by rw [q2, zfA]; rfl
     have q2a : high.toList = [] := by rw [q2, zfA]
     have HE : Hid (scanP (pre ++ [(ky, vl)]) low high = L ++ [(ky, vl)]) := zhI (by rw [Hsn.out]; simp [inB, q2, q1]);have hn1 : ¬ (Fb ∈ fpO a \/ Fb = Fb + 1 \/ Fb = Fb + 1 + 1) := by rintro (h | h | h); have := Hfp.out _ h; omega; omega; omega
     have hzW := HKB.out.2.2.2.1;have ho2 := ho.alloc (.cells #[.string ky, .string vl] 77);have H1c : Hid (∀ u ∈ [Value.string ky, Value.string vl], u.oneCell' = true) := zhI (by intro u hu; simp at hu; rcases hu with rfl | rfl <;> rfl)
     have xn := Bx.new W #[.string ky, .string vl] 77;have Hcn : Hid (∀ j u, [Value.string ky, Value.string vl][j]? = some u -> (W.alloc (.cells #[.string ky, .string vl] 77)).cell? ((⟨W.heap.size, 0, none⟩ : Addr).add j) = some u) := zhI (fun j u hj => by rw [Addr.add_lit, Nat.zero_add, xn.cell];simpa using hj)
     have b2 := b1.alloc (.cells #[.string ky, .string vl] 77);have Hb1 := zhI b1;have hb3 : W6.heap.size <= (W.alloc (.cells #[.string ky, .string vl] 77)).heap.size := by simp; omega
     clear q1 q2 Hsn xn b1;gi_wp2_with (refine wpListIn_append_own _ rfl _ _ 41 rfl W6.heap.size 77 ip _ 2 32 Tryz.underlying41 Hi.out.1 Hi.out.2.1 Hi.out.2.2.1 Hi.out.2.2.2 rfl (by decide) (.slice o m c) m (kvsC L) rfl ho2 ⟨W.heap.size, 0, none⟩ 1 1 [.string ky, .string vl] rfl rfl Hcn.out H1c.out (by unfold maxLen; omega) (by omega) hb3 ?_; intro v3 w3 ho3 hg3 _; obtain ⟨o3, c3, rfl⟩ := zaR ho3; have b3 := b2.grown hg3 (fun e => zab ho2 b2 (by decide) e.symm); have co3 := b3.cell 0; have fo3 := b3.free 0; have lo3 := b3.lt; simp only [List.getElem?_toArray, List.getElem?_cons_zero] at co3);have hgW : W.grownBy w3 (Value.slice o m c).ownBlock := (World.grownBy_alloc W (.cells #[.string ky, .string vl] 77) _).trans hg3;have hge : ∀ r, (Value.slice o m c).ownBlock = some r -> W6.heap.size <= r := fun r e => (ho.lt r e).1;have hEl : (L ++ [(ky, vl)]).length = m + 1 := by rw [zlA, Hm.out]; rfl
     have hEk : kvsC (L ++ [(ky, vl)]) = kvsC L ++ [.string ky, .string vl] := by rw [zbP]; rfl
     refine ⟨?_, ?_, ?_, hpl2, o3, c3, ?_, ?_⟩
     . refine KeepsFrom.trans ?_ ((KeepsOthers.setCell w3 ⟨Fb, 0, none⟩ _).from _);exact (zdS ho hgW).from _
     .
      refine KeepT.trans ?_ (KeepT.set w3 (a := ⟨Fb, 0, none⟩) _ hn1);intro k ob hk hob;have hlk := (Array.getElem?_eq_some_iff.1 hob).1;refine (hgW.block k hlk fun e => ?_).trans hob;have h6 := hge k e.symm;have := Hz6.out;rcases hk with h | h | h
      . have := Hfp.out k h; omega
      . omega
      . omega
     . exact (HKB.out.grown hgW hge).set (b := Fb) (k := 0) (by simp)
     . rw [HE.out, hEl];have := b3.set 0 (.slice o3 (m + 1) c3);simpa using this
     . rw [HE.out, hEl, hEk];exact zac ho3 (a := ⟨Fb, 0, none⟩) (zab ho3 b3 (by decide)) _
    .
     have q2a : ¬ high.toList = [] := fun e => q2 (zaw (e.trans zfA.symm));have q2' : high.toList.isEmpty = false := by rw [List.isEmpty_eq_false_iff]; exact q2a
     cases q3 : kLt ky high with
     | true =>
      have q3' : Go.Op.bytesLess ky.toList high.toList = true := q3;have HE : Hid (scanP (pre ++ [(ky, vl)]) low high = L ++ [(ky, vl)]) := zhI (by rw [Hsn.out]; simp [inB, q1, q2, q3]);have hn1 : ¬ (Fb ∈ fpO a \/ Fb = Fb + 1 \/ Fb = Fb + 1 + 1) := by rintro (h | h | h); have := Hfp.out _ h; omega; omega; omega
      have hzW := HKB.out.2.2.2.1;have ho2 := ho.alloc (.cells #[.string ky, .string vl] 77);have H1c : Hid (∀ u ∈ [Value.string ky, Value.string vl], u.oneCell' = true) := zhI (by intro u hu; simp at hu; rcases hu with rfl | rfl <;> rfl)
      have xn := Bx.new W #[.string ky, .string vl] 77;have Hcn : Hid (∀ j u, [Value.string ky, Value.string vl][j]? = some u -> (W.alloc (.cells #[.string ky, .string vl] 77)).cell? ((⟨W.heap.size, 0, none⟩ : Addr).add j) = some u) := zhI (fun j u hj => by rw [Addr.add_lit, Nat.zero_add, xn.cell];simpa using hj)
      have b2 := b1.alloc (.cells #[.string ky, .string vl] 77);have Hb1 := zhI b1;have hb3 : W6.heap.size <= (W.alloc (.cells #[.string ky, .string vl] 77)).heap.size := by simp; omega
      clear q1 q3 Hsn xn b1;gi_wp2_with (refine wpListIn_append_own _ rfl _ _ 41 rfl W6.heap.size 77 ip _ 2 32 Tryz.underlying41 Hi.out.1 Hi.out.2.1 Hi.out.2.2.1 Hi.out.2.2.2 rfl (by decide) (.slice o m c) m (kvsC L) rfl ho2 ⟨W.heap.size, 0, none⟩ 1 1 [.string ky, .string vl] rfl rfl Hcn.out H1c.out (by unfold maxLen; omega) (by omega) hb3 ?_; intro v3 w3 ho3 hg3 _; obtain ⟨o3, c3, rfl⟩ := zaR ho3; have b3 := b2.grown hg3 (fun e => zab ho2 b2 (by decide) e.symm); have co3 := b3.cell 0; have fo3 := b3.free 0; have lo3 := b3.lt; simp only [List.getElem?_toArray, List.getElem?_cons_zero] at co3);have hgW : W.grownBy w3 (Value.slice o m c).ownBlock := (World.grownBy_alloc W (.cells #[.string ky, .string vl] 77) _).trans hg3;have hge : ∀ r, (Value.slice o m c).ownBlock = some r -> W6.heap.size <= r := fun r e => (ho.lt r e).1;have hEl : (L ++ [(ky, vl)]).length = m + 1 := by rw [zlA, Hm.out]; rfl
      have hEk : kvsC (L ++ [(ky, vl)]) = kvsC L ++ [.string ky, .string vl] := by rw [zbP]; rfl
      refine ⟨?_, ?_, ?_, hpl2, o3, c3, ?_, ?_⟩
      . refine KeepsFrom.trans ?_ ((KeepsOthers.setCell w3 ⟨Fb, 0, none⟩ _).from _);exact (zdS ho hgW).from _
      .
       refine KeepT.trans ?_ (KeepT.set w3 (a := ⟨Fb, 0, none⟩) _ hn1);intro k ob hk hob;have hlk := (Array.getElem?_eq_some_iff.1 hob).1;refine (hgW.block k hlk fun e => ?_).trans hob;have h6 := hge k e.symm;have := Hz6.out;rcases hk with h | h | h
       . have := Hfp.out k h; omega
       . omega
       . omega
      . exact (HKB.out.grown hgW hge).set (b := Fb) (k := 0) (by simp)
      . rw [HE.out, hEl];have := b3.set 0 (.slice o3 (m + 1) c3);simpa using this
      . rw [HE.out, hEl, hEk];exact zac ho3 (a := ⟨Fb, 0, none⟩) (zab ho3 b3 (by decide)) _
     | false => have q3' : Go.Op.bytesLess ky.toList high.toList = false := q3;have HE : Hid (scanP (pre ++ [(ky, vl)]) low high = L) := zhI (by rw [Hsn.out]; simp [inB, q1, q2, q3]);clear q1 q2 q3 Hsn;gi_wp2;exact ⟨KeepsFrom.refl _ _, KeepT.refl _ _, HKB.out, hpl2, o, c, by rw [HE.out, Hm.out]; exact b1, by rw [HE.out, Hm.out]; exact ho⟩
  case done =>
   rintro D0 ys W hD1 rfl ⟨hKB, -, o, c, b1, ho⟩ hK;rw [HD.out] at b1 ho;have co := b1.cell 0;have lo := b1.lt;simp only [List.getElem?_toArray, List.getElem?_cons_zero] at co;gi_wp2;refine ⟨by simp, .inl ⟨_, _, rfl, run_takeDeferred hK, ?_⟩⟩;refine ⟨.tuple #[.slice o (scanP D low high).length c, .int .i64 0], by simp [results, Tryz.f22, go_sem], ?_⟩;rw [<- HR.out];unfold zgj;rw [HP.out];have h9 := hKB.own (l := D0) (o := .deferred none) hD1 rfl;have ho4 := zdZ ho (grownBy_putObj' _ D0 (.deferred none)) (fun r e => by cases e; exact ⟨_, hK, rfl⟩);refine ⟨h9.below hBw hBw.size (fun b hb => by simp at hb; have := Hnn.out; omega), _, rfl, ?_⟩;rcases ho4 with ⟨l1, l2⟩;refine ⟨l1, ?_⟩;rcases l2 with h | ⟨g', cap', cur, e1, e2, e3⟩
   . exact .inl h
   . exact .inr ⟨g', cap', cur, e1, znT hBw.size e2, e3⟩
  case stop => rintro D c pre W hD _ h;exact h.elim
end Go.Proofs.YtlefmmhlpgmbjaaGreat
namespace Go.Proofs.YtlefmmhlpgmbjaaGreat
set_option maxRecDepth 100000
open Go.RowKit
theorem zhQ {x Y : Ix} {e : Int} (h : openX x.disk x.frm x.til = (Y, e)) : (if za7 x = none then 1 else 0 : Int) = if e = 0 /\ Y.ver = x.ver /\ Y.root = x.root /\ Y.free = x.free then 0 else 1 := by
 unfold openX at h;unfold za7
 by_cases hf : fitX x.disk x.frm x.til ≠ 0
 . rw [if_pos hf] at h |-;simp only [Prod.mk.injEq] at h;rw [if_pos rfl, if_neg (fun k => hf (by rw [h.2]; exact k.1))]
 .
  rw [if_neg hf] at h |-;split at h
  . simp only [Prod.mk.injEq] at h;rw [if_neg (c := e = 0 /\ _) (fun k => by have := h.2; omega)];rfl
  .
   simp only [Prod.mk.injEq] at h;obtain ⟨rfl, rfl⟩ := h;simp only [true_and];split
   . rfl
   . rfl
theorem zbI {x : Ix} {t : Option Nd} (h : za7 x = some t) : chk x.disk = 0 /\ fits5 x.disk x.frm x.til = true /\ (zaf t).length <= 6000 /\
  ((x.root = 0 /\ t = none) \/ ∃ (r : Nat) (n : Nd) (u : List Int), x.root = r /\ 0 < r /\ r <= 1099511627776 /\ t = some n /\ loadR x.disk x.frm x.til (fuelX x.frm x.til) r [] = some (n, u) /\ zcl n = true) := by
 unfold za7 at h
 by_cases hf : fitX x.disk x.frm x.til ≠ 0
 . rw [if_pos hf] at h; cases h
 .
  rw [if_neg hf] at h;have hf0 : fitX x.disk x.frm x.til = 0 := by simpa using hf
  have hc : chk x.disk = 0 := by
   unfold fitX at hf0;split at hf0
   . cases hf0
   . rename_i h; simpa using h
  have h5 : fits5 x.disk x.frm x.til = true := by
   unfold fitX at hf0;rw [if_neg (by simpa using hc)] at hf0;split at hf0
   . cases hf0
   . rename_i h; simpa using h
  obtain ⟨f1, f2, f3, f4, f5⟩ := zax h5;have hrg := zag (zaq hc).1;split at h
  . cases h
  .
   rename_i y t' hr
   split at h
   .
    rename_i hy
    obtain rfl : t' = t := Option.some.inj h;obtain ⟨V, r, hH⟩ : ∃ V r, headX x.disk x.frm x.til = (V, r) := ⟨_, _, rfl⟩;rw [zdD hH] at hr;have hrl : r <= 1099511627776 := by obtain ⟨V0, n0, hx0⟩ : ∃ V n, (hdrX (pageL x.disk x.frm) x.frm x.til 0).getD (0, 0) = (V, n) := ⟨_, _, rfl⟩;obtain ⟨V1, n1, hx1⟩ : ∃ V n, (hdrX (pageL x.disk (x.frm + 1)) x.frm x.til 1).getD (0, 0) = (V, n) := ⟨_, _, rfl⟩;have := zfv hx0 hx1;rw [hH] at this;have r0 := (zdr hx0).2.1;have r1 := (zdr hx1).2.1;split at this <;> · simp only [Prod.mk.injEq] at this; omega
    split at hr
    . cases hr
    .
     split at hr
     . cases hr
     .
      rename_i t2 u ht
      simp only [Option.some.injEq, Prod.mk.injEq] at hr;obtain ⟨rfl, rfl⟩ := hr;have hroot : x.root = r := hy.2.1.symm;unfold treeX at ht;split at ht
      .
       rename_i h0
       simp only [Option.some.injEq, Prod.mk.injEq] at ht;obtain ⟨rfl, -⟩ := ht;exact ⟨hc, h5, by simp [zaf], .inl ⟨by rw [hroot, h0]; rfl, rfl⟩⟩
      .
       rename_i h0
       split at ht
       . cases ht
       .
        rename_i n u' hl
        split at ht
        .
         rename_i hfm
         simp only [Option.some.injEq, Prod.mk.injEq] at ht;obtain ⟨rfl, rfl⟩ := ht;have hu := (zb0 _ hl ⟨List.nodup_nil, fun p hp => by cases hp⟩).1.len (by omega);have hp := zds _ hl;refine ⟨hc, h5, ?_, .inr ⟨r, n, u', hroot, by omega, hrl, rfl, hl, hfm⟩⟩;show n.prs.length <= 6000;simp at hp;omega
        . cases ht
   . cases h
set_option maxRecDepth 100000 in
set_option maxHeartbeats 4000000 in
theorem zdj (x : Ix) (v : Value) (w : World) (hx : IxV w v x) {er : Int} (her : (if za7 x = none then 1 else 0) = er) :
  Calls Tryz.prog 26 #[v] w fun e w' => e = .returned (.int .i64 er) /\ Below w.heap.size w w' := by
 obtain ⟨po, pc, co, cc, fo, fc, rfl, hD, hfs, hfi⟩ := hx;obtain ⟨N, hN⟩ : ∃ N, w.heap.size = N := ⟨_, rfl⟩;obtain ⟨W1, hW1⟩ : ∃ W1, w.alloc (.cells (ixC x.disk po co pc cc x.frm x.til x.ver x.root fo x.free.length fc) 33) = W1 := ⟨_, rfl⟩;have hB : Below w.heap.size w W1 := by subst hW1; exact Below.one w _
 have xX : Bx W1 N (ixC x.disk po co pc cc x.frm x.til x.ver x.root fo x.free.length fc) 33 := by subst hW1 hN; exact Bx.new w _ _
 obtain ⟨Y, eo, hY⟩ : ∃ Y e, openX x.disk x.frm x.til = (Y, e) := ⟨_, _, rfl⟩;have hop := znd x.disk _ x.frm x.til W1 (hD.below hB);rw [hY] at hop;have Hop := zhI hop;have HE := zhI (her ▸ (zhQ hY).symm : (if eo = 0 /\ Y.ver = x.ver /\ Y.root = x.root /\ Y.free = x.free then 0 else 1 : Int) = er);have hfl := zhB hfs;have Hfi : Hid (zas (· < W1.heap.size) W1 fo x.free) := zhI (zbp hfi hB);have cX := xX.cell;have lX := xX.lt;unfold ixC at cX hW1;clear hop hY her hD hfs hfi;go_enter Tryz.func26, Tryz.ntmps26;go_wp2_with fail;refine Hop.out.mono ?_;rintro e w2 ⟨v2, rfl, hv, hb2⟩;obtain ⟨po2, pc2, co2, cc2, fo2, fc2, rfl, -, hs2, hi2⟩ := hv;go_upto_region 2 with fail
 obtain ⟨M, hM⟩ : ∃ M, w2.heap.size = M := ⟨_, rfl⟩;obtain ⟨w3, hw3⟩ : ∃ w3, w2.alloc (.cells (ixC Y.disk po2 co2 pc2 cc2 Y.frm Y.til Y.ver Y.root fo2 Y.free.length fc2) 33) = w3 := ⟨_, rfl⟩;have hb3 := Below.one w2 (.cells (ixC Y.disk po2 co2 pc2 cc2 Y.frm Y.til Y.ver Y.root fo2 Y.free.length fc2) 33);have xM := Bx.new w2 (ixC Y.disk po2 co2 pc2 cc2 Y.frm Y.til Y.ver Y.root fo2 Y.free.length fc2) 33;rw [hw3] at hb3 xM;rw [hM] at xM;simp only [hw3, hM];have xX := (xX.belowAll hb2).belowAll hb3;have hB := btr (btr hB hb2) hb3;have hI1 := zbp hi2.at hb3;have hI2 := zbp (zbp Hfi.out hb2) hb3;have hs := zhD Y.free x.free fo2 fo fc2 fc w3 hI1 hI2 (zhB hs2) hfl;obtain ⟨sm, hsm⟩ : ∃ b, decide (Y.free = x.free) = b := ⟨_, rfl⟩;rw [hsm] at hs;have Hs := zhI hs;have Hsm := zhI hsm;clear cX lX hw3 hM hb2 hb3 hs hsm hI1 hI2 hs2 hi2 Hop Hfi hW1;have cX := xX.cell;have lX := xX.lt;have cM := xM.cell;have lM := xM.lt;unfold ixC at cX cM;cases g1 : (eo != 0);rotate_left
 . have HP : Hid (er = 1) := zhI (by rw [<- HE.out, if_neg (by (intro h; have h1 := h.1; subst h1; cases g1))]);go_wp2;go_ret;exact ⟨by rw [HP.out]; rfl, by first | exact hB | (rw [<- hN]; exact hB)⟩
 obtain rfl : eo = 0 := by simpa using g1
 cases g2 : (Y.ver != x.ver);rotate_left
 . have HP : Hid (er = 1) := zhI (by rw [<- HE.out, if_neg (by (intro h; rw [h.2.1] at g2; simp at g2))]);go_wp2;go_ret;exact ⟨by rw [HP.out]; rfl, by first | exact hB | (rw [<- hN]; exact hB)⟩
 cases g3 : (Y.root != x.root);rotate_left
 . have HP : Hid (er = 1) := zhI (by rw [<- HE.out, if_neg (by (intro h; rw [h.2.2.1] at g3; simp at g3))]);go_wp2;go_ret;exact ⟨by rw [HP.out]; rfl, by first | exact hB | (rw [<- hN]; exact hB)⟩
 go_wp2_with fail;refine Hs.out.mono ?_;rintro e w4 ⟨rfl, hb4⟩;have hB := btr hB hb4;clear cX lX cM lM xX xM;cases sm with
 | false => have HP : Hid (er = 1) := zhI (by rw [<- HE.out, if_neg (by (intro h; have := of_decide_eq_false Hsm.out; exact this h.2.2.2))]);go_wp2;go_ret;exact ⟨by rw [HP.out]; rfl, by first | exact hB | (rw [<- hN]; exact hB)⟩
 | true => have HP : Hid (er = 0) := zhI (by rw [<- HE.out]; exact if_pos ⟨by trivial, by simpa using g2, by simpa using g3, of_decide_eq_true Hsm.out⟩);go_wp2;go_ret;exact ⟨by rw [HP.out]; rfl, by first | exact hB | (rw [<- hN]; exact hB)⟩
def zmo (t : Option Nd) (w : World) (e : Ending) (w' : World) : Prop :=
 Below w.heap.size w w' /\ ∃ po pn pc ko kn kc pg, e = .returned (.tuple #[.agg #[.slice po pn pc, .slice ko kn kc, .int .i64 pg], .bool t.isSome]) /\
  ∀ n, t = some n -> pn = n.ps.length /\ kn = n.kids.length /\ pg = n.page /\ NdC w' (ndC po pc ko kc n) n
set_option maxRecDepth 100000 in
set_option maxHeartbeats 4000000 in
theorem zmD (x : Ix) (v : Value) (w : World) (hx : IxV w v x) {t : Option Nd} (ht : za7 x = some t) : Calls Tryz.prog 63 #[v] w (zmo t w) := by
 obtain ⟨po, pc, co, cc, fo, fc, rfl, hD, hfs, hfi⟩ := hx;obtain ⟨hc, hf, hpl, hcase⟩ := zbI ht;obtain ⟨N, hN⟩ : ∃ N, w.heap.size = N := ⟨_, rfl⟩;obtain ⟨W1, hW1⟩ : ∃ W1, (w.alloc (.cells (ixC x.disk po co pc cc x.frm x.til x.ver x.root fo x.free.length fc) 33)).alloc (.cells #[.slice none 0 0, .slice none 0 0, .int .i64 0] 95) = W1 := ⟨_, rfl⟩;have hB : Below w.heap.size w W1 := by subst hW1; exact (Below.one w _).alloc (by simp) _
 have xX : Bx W1 N (ixC x.disk po co pc cc x.frm x.til x.ver x.root fo x.free.length fc) 33 := by subst hW1 hN; exact (Bx.new w _ _).alloc _
 have xR : Bx W1 (N + 1) #[.slice none 0 0, .slice none 0 0, .int .i64 0] 95 := by subst hW1 hN; exact Bx.newAt _ _ _ _ (by simp)
 have hV := hD.below hB;obtain ⟨R, hR⟩ : ∃ R, zmo t w = R := ⟨_, rfl⟩;rw [hR];have HR := zhI hR;have cX := xX.cell;have lX := xX.lt;have cR := xR.cell;have lR := xR.lt;have fR := xR.free;have hNw : w.heap.size <= N + 1 := by omega
 have HN := zhI hNw;unfold ixC at cX hW1;clear hD hfs hfi ht hpl hR;rcases hcase with ⟨h0, rfl⟩ | ⟨r, n, u, hr, hr0, hrl, rfl, hl, hfm⟩
 .
  have hb0 : (x.root == 0) = true := by rw [h0]; rfl
  have HZ := zhI (zaa (b := N + 1) (k := 2) (v := .int .i64 0) (zaa (b := N + 1) (k := 1) (v := .slice none 0 0) (zaa (b := N + 1) (k := 0) (v := .slice none 0 0) hB hNw) hNw) hNw);clear h0;go_enter Tryz.func63, Tryz.ntmps63;go_wp2;refine bodyPost_ret (v := .tuple #[.agg #[.slice none 0 0, .slice none 0 0, .int .i64 0], .bool false]) (by simp [results, Tryz.results63, go_sem, cR]) rfl ?_;rw [<- HR.out];exact ⟨HZ.out, _, _, _, _, _, _, _, rfl, fun n h => by cases h⟩
 .
  have hb0 : (x.root == 0) = false := by rw [hr]; simp; omega
  have hld := zcW x.disk _ x.frm x.til r W1 hV hc hf ⟨by omega, by omega⟩;rw [hl, <- hr] at hld;have Hld := zhI hld;clear hld hr hV hl hc hf hfm;go_enter Tryz.func63, Tryz.ntmps63;go_wp2_with fail;refine Hld.out.mono ?_;rintro e w2 ⟨hb2, lo, ln, lc, ko, kn, kc, pg, uo, un, uc, rfl, hres⟩;obtain ⟨rfl, rfl, rfl, rfl, -, -, -, q7⟩ := hres n u rfl;go_upto_region 4 with fail
  obtain ⟨Z, hZ⟩ : ∃ Z, w2.heap.size = Z := ⟨_, rfl⟩;obtain ⟨w3, hw3⟩ : ∃ w3, w2.alloc (.cells #[.slice lo n.ps.length lc, .slice ko n.kids.length kc, .int .i64 n.page] 95) = w3 := ⟨_, rfl⟩;have hb3 := Below.one w2 (.cells #[.slice lo n.ps.length lc, .slice ko n.kids.length kc, .int .i64 n.page] 95);have xZ := Bx.new w2 #[.slice lo n.ps.length lc, .slice ko n.kids.length kc, .int .i64 n.page] 95;rw [hw3] at hb3 xZ;rw [hZ] at xZ;simp only [hw3, hZ];have xR3 := (xR.belowAll hb2).belowAll hb3;have hB3 := btr (btr hB hb2) hb3;obtain ⟨Wf, hWf⟩ : ∃ Wf, ((w3.setCell ⟨N + 1, 0, none⟩ (.slice lo n.ps.length lc)).setCell ⟨N + 1, 1, none⟩ (.slice ko n.kids.length kc)).setCell ⟨N + 1, 2, none⟩ (.int .i64 n.page) = Wf := ⟨_, rfl⟩;have zR : Bx Wf (N + 1) #[.slice lo n.ps.length lc, .slice ko n.kids.length kc, .int .i64 n.page] 95 := by rw [<- hWf];have := ((xR3.set 0 (.slice lo n.ps.length lc)).set 1 (.slice ko n.kids.length kc)).set 2 (.int .i64 n.page);simpa using this
  have zB : Below w.heap.size w Wf := by rw [<- hWf]; exact zaa (zaa (zaa hB3 hNw) hNw) hNw
  have hsz : Wf.heap.size = w3.heap.size := by rw [<- hWf]; simp
  have hlR := xR.lt;have hz2 := hb3.size;have zN : NdC Wf (ndC lo lc ko kc n) n := (q7.same (T := fun b => b < Wf.heap.size) (fun b hb => by
   have hne : b ≠ N + 1 := by omega
   rw [<- hWf];exact (Below.heap_setCell _ ⟨N + 1, 2, none⟩ _ _ hne).trans ((Below.heap_setCell _ ⟨N + 1, 1, none⟩ _ _ hne).trans ((Below.heap_setCell _ ⟨N + 1, 0, none⟩ _ _ hne).trans (hb3.block b hb.2)))) (fun b hb => by omega)).c fun b hb => hb
  have HZ := zhI (zaI zR (zaI zB zN));clear cX lX cR lR fR;have cR := xR3.cell;have lR := xR3.lt;have fR := xR3.free;have cZ := xZ.cell;have lZ := xZ.lt;have HWf := zhI hWf;clear hWf zR zB zN q7 hres hb3 hb2 hw3 hZ xR3 hB3 hsz hz2 hlR xX xR hB Hld
  (try simp only [Option.isSome_some])
  go_wp2;rw [HWf.out];have cQ := HZ.out.1.cell;refine bodyPost_ret (v := .tuple #[.agg #[.slice lo n.ps.length lc, .slice ko n.kids.length kc, .int .i64 n.page], .bool true]) (by simp [results, Tryz.results63, go_sem, cQ]) rfl ?_;rw [<- HR.out];refine ⟨HZ.out.2.1, _, _, _, _, _, _, _, rfl, fun n' h => ?_⟩;cases h;exact ⟨rfl, rfl, rfl, HZ.out.2.2⟩
set_option maxRecDepth 100000 in
set_option maxHeartbeats 4000000 in
theorem zif (x : Ix) (v : Value) (w : World) (hx : IxV w v x) {t : Option Nd} (ht : za7 x = some t) :
  Calls Tryz.prog 29 #[v] w fun e w' => ∃ o c, e = .returned (.slice o (zaf t).length c) /\ SlW o (zaf t).length c /\ RowAt (· < w'.heap.size) w' o (kvsC (zaf t)) /\ Below w.heap.size w w' := by
 have hpl := (zbI ht).2.2.1;have hx0 := hx;obtain ⟨po, pc, co, cc, fo, fc, rfl, -, -, -⟩ := hx;have hB := Below.one w (.cells (ixC x.disk po co pc cc x.frm x.til x.ver x.root fo x.free.length fc) 33);have xX := Bx.new w (ixC x.disk po co pc cc x.frm x.til x.ver x.root fo x.free.length fc) 33;have htr := zmD x _ _ (hx0.below hB) ht;have Htr := zhI htr;have cX := xX.cell;have lX := xX.lt;unfold ixC at cX Htr;clear htr ht hx0;go_enter Tryz.func29, Tryz.ntmps29;go_wp2_with fail;refine Htr.out.mono ?_;rintro e w2 ⟨hb2, lo, ln, lc, ko, kn, kc, pg, rfl, hres⟩;have hB2 := btr hB hb2;clear cX lX xX hB Htr hb2;cases t with
 | none => simp only [Option.isSome_none];have hB3 := (hB2.alloc hB2.size (.cells #[.slice lo ln lc, .slice ko kn kc, .int .i64 pg] 95)).alloc (by have := hB2.size; simp; omega) (.cells #[] 77);have HB3 := zhI hB3;clear hres hB3;go_wp2;go_ret;exact ⟨_, _, rfl, .inr ⟨_, rfl, Nat.le_refl _, Nat.zero_le _⟩, RowAt.nil _ _ _, HB3.out⟩
 | some n => obtain ⟨rfl, rfl, rfl, q⟩ := hres n rfl;have hb3 := Below.one w2 (.cells #[.slice lo n.ps.length lc, .slice ko n.kids.length kc, .int .i64 n.page] 95);have xZ := Bx.new w2 #[.slice lo n.ps.length lc, .slice ko n.kids.length kc, .int .i64 n.page] 95;have hp := zic n lo ko lc kc _ (q.stays hb3) (by show (zaf (some n)).length <= 1000000; omega);have hB3 := btr hB2 hb3;unfold ndC at hp;have Hp := zhI hp;have HB3 := zhI hB3;have cZ := xZ.cell;have lZ := xZ.lt;clear hp q hres hb3 xZ hB2 hB3;simp only [Option.isSome_some];go_wp2_with fail;refine Hp.out.mono ?_;rintro e w3 ⟨o, c, rfl, hs, hrow, hb4⟩;have hB4 := zhI (btr HB3.out hb4);clear cZ lZ hb4;go_wp2;go_ret;exact ⟨_, _, rfl, hs, hrow, hB4.out⟩
theorem zmZ {l : List Kv} {key : ByteArray} {k : Nat} (hk : k < l.length) (hb : ∀ j (h : j < l.length), j < k -> l[j].1 ≠ key) (he : l[k].1 = key) : getP l key = (l[k].2, 0) := by
 have : l.find? (fun p => decide (p.1 = key)) = some l[k] := by rw [List.find?_eq_some_iff_getElem];exact ⟨by simpa using he, k, hk, rfl, fun j hj => by simpa using hb j (by omega) hj⟩
 unfold getP;rw [this]
theorem zmK {l : List Kv} {key : ByteArray} (hb : ∀ j (h : j < l.length), l[j].1 ≠ key) : getP l key = (ByteArray.empty, 7) := by
 have : l.find? (fun p => decide (p.1 = key)) = none := by rw [List.find?_eq_none];intro p hp;obtain ⟨j, hj, rfl⟩ := List.getElem_of_mem hp;simpa using hb j hj
 unfold getP;rw [this]
set_option maxRecDepth 100000 in
set_option maxHeartbeats 4000000 in
theorem znk (x : Ix) (v : Value) (key : ByteArray) (w : World) (hx : IxV w v x) :
  Calls Tryz.prog 21 #[v, .string key] w fun e w' => e = .returned (.tuple #[.string (getX x key).1, .int .i64 (getX x key).2]) /\ Below w.heap.size w w' := by
 have hx0 := hx;obtain ⟨po, pc, co, cc, fo, fc, rfl, -, -, -⟩ := hx;have hB := Below.one w (.cells (ixC x.disk po co pc cc x.frm x.til x.ver x.root fo x.free.length fc) 33);have xX := Bx.new w (ixC x.disk po co pc cc x.frm x.til x.ver x.root fo x.free.length fc) 33;have hV := hx0.below hB;obtain ⟨G, hG⟩ : ∃ G, getX x key = G := ⟨_, rfl⟩;rw [hG];have HG := zhI hG;have cX := xX.cell;have lX := xX.lt;unfold ixC at cX;clear hG hx0;cases hv : za7 x with
 | none => have hck := zdj x _ _ hV (er := 1) (by rw [hv]; rfl);have Hck := zhI hck;have HP : Hid (G = (ByteArray.empty, 1)) := zhI (by rw [<- HG.out]; unfold getX; rw [hv]);clear hck hv hV;go_enter Tryz.func21, Tryz.ntmps21;go_wp2_with fail;refine Hck.out.mono ?_;rintro e w2 ⟨rfl, hb2⟩;have hB2 := zhI (btr hB hb2);clear cX lX hb2;go_wp2;go_ret2;exact ⟨by rw [HP.out]; rfl, hB2.out⟩
 | some t =>
  have hck := zdj x _ _ hV (er := 0) (by rw [hv]; rfl);have Hck := zhI hck;have hpl := (zbI hv).2.2.1;have Hpr := fun W hb => zif x _ W (hV.below hb) hv;obtain ⟨l, hl⟩ : ∃ l, zaf t = l := ⟨_, rfl⟩;have HP : Hid (getP l key = G) := zhI (by rw [<- HG.out, <- hl]; unfold getX; rw [hv]);obtain ⟨n, hn⟩ : ∃ n, l.length = n := ⟨_, rfl⟩;rw [hl, hn] at hpl;simp only [hl, hn] at Hpr;have Hpr := zhI Hpr;have Hn := zhI hn;clear hck hv hV hl hn;go_enter Tryz.func21, Tryz.ntmps21;go_wp2_with fail;refine Hck.out.mono ?_;rintro e w2 ⟨rfl, hb2⟩;have xX := xX.belowAll hb2;have hB2 := btr hB hb2;clear cX lX;have cX := xX.cell;have lX := xX.lt;unfold ixC at cX;go_wp2_with fail;refine (Hpr.out _ hb2).mono ?_;rintro e w3 ⟨o, c, rfl, hs, hrow, hb3⟩;have hB3 := btr hB2 hb3;have hnc := (zd0 hs).1;clear cX lX xX hB2 hb2 hb3 Hck Hpr hs hB;go_wp2
  go_loopw [7] (fun i wr => ∃ k : Nat, k <= n /\ i = .int .i64 k /\ Hid (∀ j (h : j < l.length), j < k -> l[j].1 ≠ key) /\ wr = w3) (fun i _ => n - (intOf i).toNat)
  case atStart => exact ⟨0, by omega, rfl, zhI (fun j _ h => by omega), rfl⟩
  case round =>
   obtain ⟨k, hk, rfl, H, rfl⟩ := hrel
   by_cases hlt : k < n
   .
    have hlk : k < l.length := by rw [Hn.out]; exact hlt
    obtain ⟨g, off, rfl, hg, c0, c1⟩ := zfJ hrow hlk;obtain ⟨⟨ky, vl⟩, hkv⟩ : ∃ p, l[k] = p := ⟨_, rfl⟩;rw [hkv] at c0 c1;simp only at c0 c1;cases heq : (ky.toList == key.toList)
    .
     have HN : Hid (∀ j (h : j < l.length), j < k + 1 -> l[j].1 ≠ key) := zhI (fun j hj hj1 => by
      by_cases e : j = k
      . subst e;rw [hkv];intro e;rw [show ky = key from e] at heq;simp at heq
      . exact H.out j hj (by omega))
     clear hkv hrow;go_wp2;go_roundw
     case rel => exact ⟨k + 1, by omega, by go_num, HN, trivial⟩
     case measure => simp [intOf]; omega
    .
     have HE : Hid (G = (vl, 0)) := zhI (by
      rw [<- HP.out, zmZ hlk (fun j h hj => H.out j h hj) (by rw [hkv]; exact zaw (by simpa using heq)), hkv])
     clear hkv hrow;go_wp2;go_ret2;exact ⟨by rw [HE.out]; rfl, hB3⟩
   .
    obtain rfl : k = n := by omega
    have HE : Hid (G = (ByteArray.empty, 7)) := zhI (by
     rw [<- HP.out, zmK fun j h => H.out j h (by rw [Hn.out] at h; exact h)])
    go_wp2;go_ret2;exact ⟨by rw [HE.out]; rfl, hB3⟩
theorem ziW {l : List Kv} {k : Nat} (h : k < l.length) (low high : ByteArray) : scanP (l.take (k + 1)) low high = scanP (l.take k) low high ++ (if inB low high l[k] then [l[k]] else []) := by
 rw [List.take_succ_eq_append_getElem h, zfb]
set_option maxRecDepth 100000 in
set_option maxHeartbeats 4000000 in
theorem zmw (x : Ix) (v : Value) (low high : ByteArray) (w : World) (hx : IxV w v x) :
  Calls Tryz.prog 23 #[v, .string low, .string high] w fun e w' => ∃ o c, e = .returned (.tuple #[.slice o (scanX x low high).1.length c, .int .i64 (scanX x low high).2]) /\
   SlW o (scanX x low high).1.length c /\ KvsAt w' o (scanX x low high).1 /\ Below w.heap.size w w' := by
 obtain ⟨ip, hip, hz0, hz1, hz2⟩ := info_parts zbo;have Hi := zhI (zaI hip (zaI hz0 (zaI hz1 hz2)));clear hip hz0 hz1 hz2;have hx0 := hx;obtain ⟨po, pc, co, cc, fo, fc, rfl, -, -, -⟩ := hx;have hB := Below.one w (.cells (ixC x.disk po co pc cc x.frm x.til x.ver x.root fo x.free.length fc) 33);have xX := Bx.new w (ixC x.disk po co pc cc x.frm x.til x.ver x.root fo x.free.length fc) 33;have hV := hx0.below hB;obtain ⟨G, hG⟩ : ∃ G, scanX x low high = G := ⟨_, rfl⟩;rw [hG];have HG := zhI hG;have cX := xX.cell;have lX := xX.lt;unfold ixC at cX;clear hG hx0;cases hv : za7 x with
 | none => have hck := zdj x _ _ hV (er := 1) (by rw [hv]; rfl);have Hck := zhI hck;have HP : Hid (G = ([], 1)) := zhI (by rw [<- HG.out]; unfold scanX; rw [hv]);clear hck hv hV;go_enter Tryz.func23, Tryz.ntmps23;go_wp2_with fail;refine Hck.out.mono ?_;rintro e w2 ⟨rfl, hb2⟩;have hB2 := zhI (btr hB hb2);clear cX lX hb2;go_wp2;go_ret2;rw [HP.out];exact ⟨_, _, rfl, .inl ⟨rfl, rfl, rfl⟩, KvsAt.nil _ _, hB2.out⟩
 | some t =>
  have hck := zdj x _ _ hV (er := 0) (by rw [hv]; rfl);have Hck := zhI hck;have hpl := (zbI hv).2.2.1;have Hpr := fun W hb => zif x _ W (hV.below hb) hv;obtain ⟨l, hl⟩ : ∃ l, zaf t = l := ⟨_, rfl⟩;have HP : Hid (G = (scanP l low high, 0)) := zhI (by rw [<- HG.out, <- hl]; unfold scanX; rw [hv]);obtain ⟨n, hn⟩ : ∃ n, l.length = n := ⟨_, rfl⟩;rw [hl, hn] at hpl;simp only [hl, hn] at Hpr;have Hpr := zhI Hpr;have Hn := zhI hn;clear hck hv hV hl hn;go_enter Tryz.func23, Tryz.ntmps23;go_wp2_with fail;refine Hck.out.mono ?_;rintro e w2 ⟨rfl, hb2⟩;have xX := xX.belowAll hb2;have hB2 := btr hB hb2;clear cX lX;have cX := xX.cell;have lX := xX.lt;unfold ixC at cX;go_wp2_with fail;refine (Hpr.out _ hb2).mono ?_;rintro e w3 ⟨o, c, rfl, hs, hrow, hb3⟩;have hB3 := btr hB2 hb3;have hnc := (zd0 hs).1;clear cX lX xX hB2 hb2 hb3 Hck Hpr hs hB;go_wp2
  go_loopw [9, 10] (fun v i wr => ∃ (k : Nat) (so : Option Addr) (sc : Nat), k <= n /\ i = .int .i64 k /\ v = .slice so (scanP (l.take k) low high).length sc /\ wr.ownsRow w3.heap.size 77 2 (.slice so (scanP (l.take k) low high).length sc) (scanP (l.take k) low high).length (kvsC (scanP (l.take k) low high)) /\ Below w3.heap.size w3 wr) (fun _ i _ => n - (intOf i).toNat)
  case atStart => exact ⟨0, some ⟨w3.heap.size, 0, none⟩, 0, by omega, rfl, by simp [scanP], by simpa [scanP, kvsC] using zb2 w3 w3.heap.size _ 77 2 rfl (Nat.le_refl _), Below.one _ _⟩
  case round =>
   obtain ⟨k, so, sc, hk, rfl, rfl, hown, hB⟩ := hrel
   by_cases hlt : k < n
   .
    have hlk : k < l.length := by rw [Hn.out]; exact hlt
    obtain ⟨g, off, rfl, hg, c0, c1⟩ := zfJ hrow hlk;have hsn := ziW hlk low high;have hsl := zhg (l.take k) low high;have htk : (l.take k).length <= k := by rw [List.length_take]; omega
    obtain ⟨⟨ky, vl⟩, hkv⟩ : ∃ p, l[k] = p := ⟨_, rfl⟩;rw [hkv] at c0 c1 hsn;simp only at c0 c1;have d0 := (hB.cell hg).trans c0;have d1 := (hB.cell hg).trans c1;have hgl := znL hg hB.size;obtain ⟨L, hL⟩ : ∃ L, scanP (l.take k) low high = L := ⟨_, rfl⟩;rw [hL] at hown hsn hsl |-;obtain ⟨m, hm⟩ : ∃ m, L.length = m := ⟨_, rfl⟩;rw [hm] at hown hsl |-;have Hm := zhI hm;have Hsn := zhI hsn;have hz := hB.size;have Hown := zhI hown;have HB := zhI hB;clear hL hm hsn hkv c0 c1 hg hrow hown hB;cases q1 : kLt ky low with
    | true =>
     have q1' : Go.Op.bytesLess ky.toList low.toList = true := q1;have HE : Hid (scanP (l.take (k + 1)) low high = L) := zhI (by rw [Hsn.out]; simp [inB, q1]);clear q1 Hsn;go_wp2;go_roundw
     case rel => exact ⟨k + 1, so, sc, by omega, by go_num, by rw [HE.out, Hm.out], by rw [HE.out, Hm.out]; exact Hown.out, HB.out⟩
     case measure => simp [intOf]; omega
    | false =>
     have q1' : Go.Op.bytesLess ky.toList low.toList = false := q1
     by_cases q2 : high = ByteArray.empty
     .
      have q2' : high.toList.isEmpty = true := by rw [q2, zfA]; rfl
      have q2a : high.toList = [] := by rw [q2, zfA]
      have HE : Hid (scanP (l.take (k + 1)) low high = L ++ [(ky, vl)]) := zhI (by rw [Hsn.out]; simp [inB, q1, q2]);have hown2 := Hown.out.alloc (.cells #[.string ky, .string vl] 77);have H1c : Hid (∀ u ∈ [Value.string ky, Value.string vl], u.oneCell' = true) := zhI (by intro u hu; simp at hu; rcases hu with rfl | rfl <;> rfl)
      have HRW : Hid (RowAt (· = wr.heap.size) (wr.alloc (.cells #[.string ky, .string vl] 77)) (some ⟨wr.heap.size, 0, none⟩) [.string ky, .string vl]) := zhI (RowAt.bx (Bx.new wr #[.string ky, .string vl] 77));clear q1 q2 Hsn;go_wp2_with (at_builtin; refine zau rfl _ _ 41 rfl w3.heap.size 77 ip _ 2 32 Tryz.underlying41 Hi.out.1 Hi.out.2.1 Hi.out.2.2.1 Hi.out.2.2.2 rfl (by decide) (.slice so m sc) m (kvsC L) rfl hown2 (some ⟨wr.heap.size, 0, none⟩) 1 1 [.string ky, .string vl] rfl (by intro e; cases e) rfl HRW.out H1c.out (by unfold maxLen; omega) (by omega) (by simp; omega) ?_; intro v4 w4 hown4 hg4; obtain ⟨o4, c4, rfl⟩ := zaR hown4);go_roundw
      case rel =>
       have el : (L ++ [(ky, vl)]).length = m + 1 := by rw [zlA, Hm.out]; rfl
       have ek : kvsC (L ++ [(ky, vl)]) = kvsC L ++ [.string ky, .string vl] := by rw [zbP]; rfl
       exact ⟨k + 1, o4, c4, by omega, by go_num, by rw [HE.out, el], by rw [HE.out, el, ek]; exact hown4, Below.grownOwn (HB.out.alloc hz _) hown2 hg4 (by simp; omega)⟩
      case measure => simp [intOf]; omega
     .
      have q2a : ¬ high.toList = [] := fun e => q2 (zaw (e.trans zfA.symm));have q2' : high.toList.isEmpty = false := by rw [List.isEmpty_eq_false_iff]; exact q2a
      cases q3 : kLt ky high with
      | true =>
       have q3' : Go.Op.bytesLess ky.toList high.toList = true := q3;have HE : Hid (scanP (l.take (k + 1)) low high = L ++ [(ky, vl)]) := zhI (by rw [Hsn.out]; simp [inB, q1, q3]);have hown2 := Hown.out.alloc (.cells #[.string ky, .string vl] 77);have H1c : Hid (∀ u ∈ [Value.string ky, Value.string vl], u.oneCell' = true) := zhI (by intro u hu; simp at hu; rcases hu with rfl | rfl <;> rfl)
       have HRW : Hid (RowAt (· = wr.heap.size) (wr.alloc (.cells #[.string ky, .string vl] 77)) (some ⟨wr.heap.size, 0, none⟩) [.string ky, .string vl]) := zhI (RowAt.bx (Bx.new wr #[.string ky, .string vl] 77));clear q1 q3 Hsn;go_wp2_with (at_builtin; refine zau rfl _ _ 41 rfl w3.heap.size 77 ip _ 2 32 Tryz.underlying41 Hi.out.1 Hi.out.2.1 Hi.out.2.2.1 Hi.out.2.2.2 rfl (by decide) (.slice so m sc) m (kvsC L) rfl hown2 (some ⟨wr.heap.size, 0, none⟩) 1 1 [.string ky, .string vl] rfl (by intro e; cases e) rfl HRW.out H1c.out (by unfold maxLen; omega) (by omega) (by simp; omega) ?_; intro v4 w4 hown4 hg4; obtain ⟨o4, c4, rfl⟩ := zaR hown4);go_roundw
       case rel =>
        have el : (L ++ [(ky, vl)]).length = m + 1 := by rw [zlA, Hm.out]; rfl
        have ek : kvsC (L ++ [(ky, vl)]) = kvsC L ++ [.string ky, .string vl] := by rw [zbP]; rfl
        exact ⟨k + 1, o4, c4, by omega, by go_num, by rw [HE.out, el], by rw [HE.out, el, ek]; exact hown4, Below.grownOwn (HB.out.alloc hz _) hown2 hg4 (by simp; omega)⟩
       case measure => simp [intOf]; omega
      | false =>
       have q3' : Go.Op.bytesLess ky.toList high.toList = false := q3;have HE : Hid (scanP (l.take (k + 1)) low high = L) := zhI (by rw [Hsn.out]; simp [inB, q2, q3]);clear q1 q2 q3 Hsn;go_wp2;go_roundw
       case rel => exact ⟨k + 1, so, sc, by omega, by go_num, by rw [HE.out, Hm.out], by rw [HE.out, Hm.out]; exact Hown.out, HB.out⟩
       case measure => simp [intOf]; omega
   .
    obtain rfl : k = n := by omega
    have hfull : l.take k = l := List.take_of_length_le (by rw [Hn.out]; exact Nat.le_refl _);rw [hfull] at hown |-;have Hown := zhI hown;have HBF := zhI (btr hB3 hB);clear hown hB;go_wp2;go_ret2;rw [HP.out];obtain ⟨o', c', e, hs, hrw, -⟩ := zai Hown.out;obtain ⟨rfl, rfl⟩ : so = o' /\ sc = c' := by simpa using e
    exact ⟨_, _, rfl, hs, RowAt.mono hrw fun b hb => hb.2, HBF.out⟩
end Go.Proofs.YtlefmmhlpgmbjaaGreat
namespace Go.Proofs.YtlefmmhlpgmbjaaGreat
set_option maxRecDepth 100000
open Go.RowKit Go.Shelf
def zfd (d : Dsk) : Bool := decide (40 < d.pages.length) || decide (20 < d.cache.length) || d.pages.any (fun s => decide (600 < s.size)) || d.cache.any (fun x => decide (600 < x.data.size))
set_option maxHeartbeats 2000000 in
theorem zlL (d : Dsk) (v : Value) (w : World) {S : Nat -> Prop} (hD : DskR S w v d) :
  Calls Tryz.prog 12 #[v] w fun e w' => e = .returned (.bool (zfd d)) /\ Below w.heap.size w w' := by
 obtain ⟨po, pc, co, cc, rfl, hp, hc, ok⟩ := hD;have ok1 := ok.pages;have ok2 := ok.cache;have oks := ok.strs;have okd := ok.datas;obtain ⟨r, hr⟩ : ∃ r, zfd d = r := ⟨_, rfl⟩;rw [hr];have Hr := zhI hr;clear ok hr;have hbw : Below w.heap.size w (w.alloc (.cells #[.int .i64 d.size, .slice po d.pages.length pc, .slice co d.cache.length cc, .int .i64 d.left] 25)) := Below.one _ _;cases g1 : decide (40 < (d.pages.length : Int));rotate_left
 . have HP : Hid (r = true) := zhI (by rw [<- Hr.out]; unfold zfd; rw [decide_eq_true (by have := of_decide_eq_true g1; omega)]; rfl);go_enter Tryz.func12, Tryz.ntmps12;go_wp2;go_ret;exact ⟨by rw [HP.out]; rfl, hbw⟩
 cases g2 : decide (20 < (d.cache.length : Int));rotate_left
 . have HP : Hid (r = true) := zhI (by rw [<- Hr.out]; unfold zfd; rw [decide_eq_true (p := 20 < d.cache.length) (by have := of_decide_eq_true g2; omega)]; simp);go_enter Tryz.func12, Tryz.ntmps12;go_wp2;go_ret;exact ⟨by rw [HP.out]; rfl, hbw⟩
 have x0 := Bx.new w #[.int .i64 d.size, .slice po d.pages.length pc, .slice co d.cache.length cc, .int .i64 d.left] 25;have hR : Hid (r = (d.pages.any (fun s => decide (600 < s.size)) || d.cache.any (fun x => decide (600 < x.data.size)))) := zhI (by
  rw [<- Hr.out]; unfold zfd;rw [decide_eq_false (by have := of_decide_eq_false g1; omega), decide_eq_false (p := 20 < d.cache.length) (by have := of_decide_eq_false g2; omega)]
  rfl)
 go_enter Tryz.func12, Tryz.ntmps12;go_wp2
 go_loopw [3] (fun i wr => ∃ (k : Nat), k <= d.pages.length /\ i = .int .i64 k /\ Hid (∀ j (h : j < d.pages.length), j < k -> d.pages[j].size <= 600) /\ Below w.heap.size w wr /\ Bx wr w.heap.size #[.int .i64 d.size, .slice po d.pages.length pc, .slice co d.cache.length cc, .int .i64 d.left] 25) (fun i _ => d.pages.length - (intOf i).toNat)
 case atStart => exact ⟨0, Nat.zero_le _, rfl, zhI (fun j _ h => by omega), hbw, x0⟩
 case round =>
  clear x0 hbw;obtain ⟨k, hk, rfl, H, hb, x0⟩ := hrel;have cX := x0.cell;have lX := x0.lt
  by_cases hlt : k < d.pages.length
  .
   obtain ⟨b, off, rfl, hcell0, _⟩ := hp k hlt;have hcell : wr.cell? ⟨b, off + k, none⟩ = some (.string d.pages[k]) := by rw [hb.cell (World.block_lt_of_cell? w _ hcell0)]; exact hcell0
   have HE : Hid (600 < d.pages[k].size -> r = true) := zhI (fun h => by rw [hR.out, List.any_eq_true.2 ⟨_, List.getElem_mem hlt, decide_eq_true h⟩]; rfl)
   have HN : Hid (d.pages[k].size <= 600 -> ∀ j (h : j < d.pages.length), j < k + 1 -> d.pages[j].size <= 600) := zhI (fun hs j hj hj1 => by
    by_cases e : j = k
    . subst e; exact hs
    . exact H.out j hj (by omega))
   obtain ⟨s, hs⟩ : ∃ s, d.pages[k] = s := ⟨_, rfl⟩;rw [hs] at hcell HE HN;clear hcell0 hs;cases g3 : decide (600 < (s.size : Int))
   .
    have HN2 := zhI (HN.out (by have := of_decide_eq_false g3; omega));go_wp2;go_roundw
    case rel => exact ⟨k + 1, by omega, by go_num, HN2, hb, x0⟩
    case measure => simp [intOf]; omega
   . have HP := zhI (HE.out (by have := of_decide_eq_true g3; omega));go_wp2;go_ret;exact ⟨by rw [HP.out]; rfl, hb⟩
  .
   obtain rfl : k = d.pages.length := by omega
   have hR2 : Hid (r = d.cache.any (fun x => decide (600 < x.data.size))) := zhI (by
    rw [hR.out, List.any_eq_false.2]
    . rfl
    .
     intro s hs;obtain ⟨j, hj, rfl⟩ := List.getElem_of_mem hs;have := H.out j hj hj
     simp; omega)
   clear hlt hk H hR;go_wp2;clear cX lX
   go_loopw [4] (fun i wr => ∃ (k : Nat), k <= d.cache.length /\ i = .int .i64 k /\ Hid (∀ j (h : j < d.cache.length), j < k -> d.cache[j].data.size <= 600) /\ Below w.heap.size w wr /\ Bx wr w.heap.size #[.int .i64 d.size, .slice po d.pages.length pc, .slice co d.cache.length cc, .int .i64 d.left] 25) (fun i _ => d.cache.length - (intOf i).toNat)
   case atStart => exact ⟨0, Nat.zero_le _, rfl, zhI (fun j _ h => by omega), hb, x0⟩
   case round =>
    clear x0 hb;obtain ⟨k, hk, rfl, H, hb, x0⟩ := hrel;have cX := x0.cell;have lX := x0.lt
    by_cases hlt : k < d.cache.length
    .
     obtain ⟨b, off, rfl, hcell0, hcell1, _⟩ := hc k hlt;have hcell' : wr.cell? ⟨b, off + k * 2 + 1, none⟩ = some (.string d.cache[k].data) := by rw [hb.cell (World.block_lt_of_cell? w _ hcell1)]; exact hcell1
     have HE : Hid (600 < d.cache[k].data.size -> r = true) := zhI (fun h => by rw [hR2.out, List.any_eq_true.2 ⟨_, List.getElem_mem hlt, decide_eq_true h⟩])
     have HN : Hid (d.cache[k].data.size <= 600 -> ∀ j (h : j < d.cache.length), j < k + 1 -> d.cache[j].data.size <= 600) := zhI (fun hs j hj hj1 => by
      by_cases e : j = k
      . subst e; exact hs
      . exact H.out j hj (by omega))
     obtain ⟨s, hs⟩ : ∃ s, d.cache[k].data = s := ⟨_, rfl⟩;rw [hs] at hcell' HE HN;clear hcell0 hcell1 hs;cases g3 : decide (600 < (s.size : Int))
     .
      have HN2 := zhI (HN.out (by have := of_decide_eq_false g3; omega));go_wp2;go_roundw
      case rel => exact ⟨k + 1, by omega, by go_num, HN2, hb, x0⟩
      case measure => simp [intOf]; omega
     . have HP := zhI (HE.out (by have := of_decide_eq_true g3; omega));go_wp2;go_ret;exact ⟨by rw [HP.out]; rfl, hb⟩
    .
     obtain rfl : k = d.cache.length := by omega
     have HP : Hid (r = false) := zhI (by
      rw [hR2.out, List.any_eq_false.2];intro s hs;obtain ⟨j, hj, rfl⟩ := List.getElem_of_mem hs;have := H.out j hj hj
      simp; omega)
     go_wp2;go_ret;exact ⟨by rw [HP.out]; rfl, hb⟩
end Go.Proofs.YtlefmmhlpgmbjaaGreat
namespace Go.Proofs.YtlefmmhlpgmbjaaGreat
set_option maxRecDepth 100000
open Go.RowKit
end Go.Proofs.YtlefmmhlpgmbjaaGreat
