/- btree.open = readP. Disks and indexes do not lie in a box that holds no string: they keep their values over stores into it. No function of the program is named here. -/
import Derived.Test.YtlefmmhlpgmbjaaGreatS10
import Derived.Laws.Cover1
import Derived.Test.YtlefmmhlpgmbjaaGreatS01
namespace Go.Proofs.YtlefmmhlpgmbjaaGreat
set_option maxRecDepth 100000
open Go.RowKit Go.Shelf
attribute [local go_sem] Oper.semAt_some
def zcg (o : Option (Ix × Option Nd)) (w : World) (e : Ending) (w' : World) : Prop :=
 Below w.heap.size w w' /\ match o with
 | none => e = .returned (.tuple #[.agg ixZ, .pointer none, .bool false])
 | some (x, t) => ∃ v a, e = .returned (.tuple #[v, rootV a, .bool true]) /\ IxT w' v x /\ LiesO w.heap.size w' a /\ ndO a = t
theorem opt_b (o : Option (Nat × Nat)) : ∃ (b : Bool) (V n : Nat), o = if b then some (V, n) else none := by
 cases o with
 | none => exact ⟨false, 0, 0, rfl⟩
 | some p => exact ⟨true, p.1, p.2, rfl⟩
theorem zdp (d : Dsk) (v : Value) (frm til : Int) (k : Nat) (hc : chk d = 0) (hf : fits5 d frm til = true) (hk : k <= 1) (b : Bool) (V n : Nat) (hh : hdrX (pageL d (frm + k)) frm til k = if b then some (V, n) else none) (w : World) (hD : DskV w v d) :
  Calls Tryz.prog 90 #[v, .int .i64 frm, .int .i64 til, .int .i64 (frm + k)] w fun e w' => (∃ x y : Int, e = .returned (.tuple #[.int .i64 x, .int .i64 y, .bool b]) /\ (b = true -> x = V /\ y = n)) /\ Below w.heap.size w w' := by
 cases b with
 | false => refine (zdb d v frm til k w hc hf hk (by simpa using hh) hD).mono ?_;rintro e w' ⟨⟨x, y, rfl⟩, hb⟩;exact ⟨⟨x, y, rfl, by simp⟩, hb⟩
 | true => refine (zdf d v frm til k V n w hc hf hk (by simpa using hh) hD).mono ?_;rintro e w' ⟨rfl, hb⟩;exact ⟨⟨V, n, rfl, by simp⟩, hb⟩
set_option maxRecDepth 100000 in
set_option maxHeartbeats 20000000 in
theorem zku (d : Dsk) (v : Value) (frm til : Int) (w : World) (hc : chk d = 0) (hf : fits5 d frm til = true) (hD : DskV w v d) :
  Calls Tryz.prog 53 #[v, .int .i64 frm, .int .i64 til] w (zcg (readP d frm til) w) := by
 have hD0 := hD;obtain ⟨po, pc, co, cc, rfl⟩ := hD.agg;obtain ⟨f1, f2, f3, f4, f5⟩ := zax hf;have hr := zag (zaq hc).1;obtain ⟨R, hR⟩ : ∃ R, zcg (readP d frm til) w = R := ⟨_, rfl⟩;rw [hR];have HR := zhI hR;obtain ⟨b0, V0, n0, hx0⟩ := opt_b (hdrX (pageL d frm) frm til 0);obtain ⟨b1, V1, n1, hx1⟩ := opt_b (hdrX (pageL d (frm + 1)) frm til 1);have C0 := fun W => zdp d (.agg (dC d po co pc cc)) frm til 0 hc hf (by omega) b0 V0 n0 (by simpa using hx0) W;have C1 := fun W => zdp d (.agg (dC d po co pc cc)) frm til 1 hc hf (by omega) b1 V1 n1 (by simpa using hx1) W;rw [show frm + ((0 : Nat) : Int) = frm by simp] at C0;rw [show frm + ((1 : Nat) : Int) = frm + 1 by simp] at C1;have HC0 := zhI C0;have HC1 := zhI C1;have Hx0 := zhI hx0;have Hx1 := zhI hx1;obtain ⟨N, hN⟩ : ∃ N, w.heap.size = N := ⟨_, rfl⟩;obtain ⟨W0, hW0⟩ : ∃ W0, (((w.alloc (.cells (dC d po co pc cc) 25)).alloc (.cells ixZ 33)).alloc (.cells #[.pointer none] 88)).alloc (.cells #[.bool false] 4) = W0 := ⟨_, rfl⟩;have s0 : OpB w N d po co pc cc W0 := by subst hW0 hN;have HB := (((Below.one w (.cells (dC d po co pc cc) 25)).alloc (by simp) (.cells ixZ 33)).alloc (by simp; omega) (.cells #[.pointer none] 88)).alloc (by simp; omega) (.cells #[.bool false] 4);exact ⟨(((Bx.new w (dC d po co pc cc) 25).alloc _).alloc _).alloc _, ((Bx.newAt _ _ _ _ (by simp)).alloc _).alloc _, (Bx.newAt _ _ _ _ (by simp)).alloc _, Bx.newAt _ _ _ _ (by simp), HB, hD0.same fun b hb => HB.block b hb, rfl, by simp⟩
 have hnx : IntKind.i64.wrap (frm + 1) = frm + 1 := IntWalk.i64_in _ (by omega);have F1 := zhI f1;have hmm := @run_makeMap Tryz.prog;clear hx0 hx1 C0 C1 hR hD f1;obtain ⟨n, hn⟩ : ∃ n, 9 <= n := ⟨9, Nat.le_refl _⟩;refine (callsIn_wide (n := n)).1 ?_;have hro : Fence.wide.round = none := rfl;have h1 : 1 <= n := by omega
 refine callsIn_of_wp_marks Tryz.func53 rfl trivial ?_ hro;simp only [Tryz.ntmps53, List.size_toArray, zlC, List.length_nil, Nat.reduceAdd, Nat.reduceSub, Array.replicate_succ, Array.replicate_zero, List.push_toArray, List.append_toArray, List.nil_append, List.cons_append];have cD := s0.dsk.cell;unfold dC at cD;have lD := s0.dsk.lt;have hV0 := s0.dskv;gi_wp2_with fail;refine ⟨trivial, ?_⟩;refine (callsIn_wide.2 (HC0.out _ hV0)).mono ?_;rintro e w1 ⟨⟨x0, y0, rfl, g0⟩, hb1⟩;clear cD lD hV0;have s1 := s0.next hb1;clear s0 hb1;have cD := s1.dsk.cell;unfold dC at cD;have lD := s1.dsk.lt;have hV1 := s1.dskv;gi_wp2_with fail;refine ⟨trivial, ?_⟩;refine (callsIn_wide.2 (HC1.out _ hV1)).mono ?_;rintro e w2 ⟨⟨x1, y1, rfl, g1⟩, hb2⟩;have s2 := s1.next hb2;clear s1 hb2 cD lD hV1;cases b0
 case' false =>
  cases b1
  case' false =>
   have HP : Hid (readP d frm til = none) := zhI (zhc Hx0.out Hx1.out);clear g0 g1;have X0 := s2.res;have cX := X0.cell;have lX := X0.lt;have fX := X0.free;have P0 := s2.rp;have cP := P0.cell;have lP := P0.lt;have fP := P0.free;have B0 := s2.rb;have cB := B0.cell;have lB := B0.lt;have fB := B0.free;obtain ⟨z1, z2, z3⟩ := zb1 X0 P0 B0 (.int .i64 0) (.slice none 0 0) (.slice none 0 0) (.int .i64 0) (.int .i64 0) (.int .i64 0) (.int .i64 0) (.int .i64 0) (.slice none 0 0) (.pointer none) (.bool false);have HB := zhI (zg5 (v0 := .int .i64 0) (v1 := .slice none 0 0) (v2 := .slice none 0 0) (v3 := .int .i64 0) (v4 := .int .i64 0) (v5 := .int .i64 0) (v6 := .int .i64 0) (v7 := .int .i64 0) (v8 := .slice none 0 0) (p' := .pointer none) (b' := .bool false) s2.below (Nat.le_of_eq hN));have Hz := zhI (zaI z1 (zaI z2 z3));unfold ixZ at cX;clear z1 z2 z3 X0 P0 B0;gi_wp2;have d1 := Hz.out.1.cell;have d2 := Hz.out.2.1.cell;have d3 := Hz.out.2.2.cell;simp only [st9, st8] at d1 d2 d3;refine ⟨.tuple #[.agg ixZ, .pointer none, .bool false], by simp [results, Tryz.f53, go_sem, d1, d2, d3], ?_⟩;rw [<- HR.out];unfold zcg;rw [HP.out];exact ⟨HB.out, rfl⟩
  case' true =>
   obtain ⟨rfl, rfl⟩ := g1 (by trivial);obtain ⟨-, -, q3, q4, q5, q6, -, -⟩ := zbg Hx1.out;have HH := zhI (zcB (d := d) (frm := frm) (til := til) (V := V1) (n := n1) (by unfold headX; rw [Hx0.out, Hx1.out]; rfl) (zcp Hx1.out).1);obtain ⟨V, hV⟩ : ∃ V, V = V1 := ⟨_, rfl⟩;obtain ⟨R0, hR0⟩ : ∃ R, R = n1 := ⟨_, rfl⟩
 case' true =>
  obtain ⟨rfl, rfl⟩ := g0 (by trivial);cases b1
  case' false =>
   obtain ⟨-, -, q3, q4, q5, q6, -, -⟩ := zbg Hx0.out;have HH := zhI (zcB (d := d) (frm := frm) (til := til) (V := V0) (n := n0) (by unfold headX; rw [Hx0.out, Hx1.out]; rfl) (zcp Hx0.out).1);obtain ⟨V, hV⟩ : ∃ V, V = V0 := ⟨_, rfl⟩;obtain ⟨R0, hR0⟩ : ∃ R, R = n0 := ⟨_, rfl⟩
  case' true =>
   obtain ⟨rfl, rfl⟩ := g1 (by trivial)
   by_cases hlt : V0 < V1
   case' pos =>
    obtain ⟨-, -, q3, q4, q5, q6, -, -⟩ := zbg Hx1.out;have HH := zhI (zcB (d := d) (frm := frm) (til := til) (V := V1) (n := n1) (by unfold headX; rw [Hx0.out, Hx1.out]; simp only [if_true, pickH]; rw [if_pos hlt]) (zcp Hx1.out).1);obtain ⟨V, hV⟩ : ∃ V, V = V1 := ⟨_, rfl⟩;obtain ⟨R0, hR0⟩ : ∃ R, R = n1 := ⟨_, rfl⟩
   case' neg =>
    obtain ⟨-, -, q3, q4, q5, q6, -, -⟩ := zbg Hx0.out;have HH := zhI (zcB (d := d) (frm := frm) (til := til) (V := V0) (n := n0) (by unfold headX; rw [Hx0.out, Hx1.out]; simp only [if_true, pickH]; rw [if_neg hlt]) (zcp Hx0.out).1);obtain ⟨V, hV⟩ : ∃ V, V = V0 := ⟨_, rfl⟩;obtain ⟨R0, hR0⟩ : ∃ R, R = n0 := ⟨_, rfl⟩
 all_goals
  subst hV hR0;clear g0 g1;have cD := s2.dsk.cell;unfold dC at cD;have lD := s2.dsk.lt;obtain ⟨M, hM⟩ : ∃ M, w2.heap.size = M := ⟨_, rfl⟩;obtain ⟨W3, hW3⟩ : ∃ W3, ((w2.alloc (.cells (ixC d po co pc cc frm til V R0 none 0 0) 33)).alloc (.map #[] 0)).alloc (.cells (ldC d po co pc cc frm til (M + 1)) 146) = W3 := ⟨_, rfl⟩;have hNM : N + 3 < M := by rw [<- hM]; exact s2.size
  have lDM : N < M := by omega
  have hB3 : Below w2.heap.size w2 W3 := by rw [<- hW3]; exact (((Below.refl _ w2).alloc (Nat.le_refl _) _).alloc (by simp) _).alloc (by simp; omega) _
  have s3 := s2.next hB3;have xX : Bx W3 M (ixC d po co pc cc frm til V R0 none 0 0) 33 := by rw [<- hW3, <- hM]; exact ((Bx.new w2 _ _).alloc _).alloc _
  have xL : Bx W3 (M + 1 + 1) (ldC d po co pc cc frm til (M + 1)) 146 := by rw [<- hW3, <- hM]; exact Bx.newAt _ _ _ _ (by simp)
  have mM : MapI W3 (M + 1) 0 [] := by rw [<- hW3, <- hM];have := MapI.made (w2.alloc (.cells (ixC d po co pc cc frm til V R0 none 0 0) 33));simp only [World.size_alloc] at this;exact this.kept (World.grownBy_alloc _ _ none) (by simp)
  have hLd : LdrAt N W3 (M + 1 + 1) (M + 1) d po co pc cc frm til := ⟨by omega, by omega, xL, by have := s3.val; rw [hN] at this; exact this, by have := s3.size; omega⟩;have hz3 : W3.heap.size = M + 1 + 1 + 1 := by rw [<- hW3, <- hM]; simp
  clear hB3;have S3 := zhI (zaI s3 (zaI xX (zaI xL (zaI mM hLd))));unfold ldC at hW3;clear s2 xX xL mM hLd
  by_cases hR0 : R0 = 0
  .
   have t1 : ((R0 : Int) != 0) = false := by simp [hR0]
   obtain ⟨W4, hW4⟩ : ∃ W4, W4 = W3 := ⟨_, rfl⟩;subst hW4;obtain ⟨u, hu⟩ : ∃ u : List Int, u = [] := ⟨_, rfl⟩;obtain ⟨a, ha⟩ : ∃ a : Option AT, a = none := ⟨_, rfl⟩;obtain ⟨D, hD⟩ : ∃ D : List Kv, D = [] := ⟨_, rfl⟩;have s4 := S3.out.1;have X4 : Hid (Bx W4 M (ixC d po co pc cc frm til V R0 none 0 0) 33 /\ Bx W4 (M + 1 + 1) (ldC d po co pc cc frm til (M + 1)) 146 /\ MapI W4 (M + 1) u.length u) := zhI (by rw [hu]; exact ⟨S3.out.2.1, S3.out.2.2.1, S3.out.2.2.2.1⟩);have HLO : Hid (LiesO (M + 1 + 1 + 1) W4 a) := zhI (fun t h => by rw [ha] at h; cases h);have hDl : D.length <= 1000000 := by rw [hD]; simp
   have HT : Hid (readP d frm til = if ascK D then some (⟨d, frm, til, V, R0, zap frm til u⟩, ndO a) else none) := zhI (by
    rw [HH.out, hD, ha, hu]; unfold treeP; rw [if_pos hR0]; rfl)
   have HD : Hid (zaf (ndO a) = D) := zhI (by rw [hD, ha]; rfl);have Hrv : Hid (rootV a = .pointer none) := zhI (by rw [ha]; rfl);have HR0 := zhI hR0;clear S3 HH hR0 ha hu hD hz3;obtain ⟨Fb, hFb⟩ : ∃ F, W4.heap.size = F := ⟨_, rfl⟩;obtain ⟨W5, hW5⟩ : ∃ W5, (W4.alloc (.cells #[.bool true] 4)).alloc (.cells #[.string ⟨#[]⟩] 9) = W5 := ⟨_, rfl⟩;have hB5 : Below W4.heap.size W4 W5 := by rw [<- hW5]; exact ((Below.refl _ W4).alloc (Nat.le_refl _) _).alloc (by simp) _
   have yf : Bx W5 Fb #[.bool true] 4 := by rw [<- hW5, <- hFb]; exact (Bx.new W4 _ _).alloc _
   have yl : Bx W5 (Fb + 1) #[.string ⟨#[]⟩] 9 := by rw [<- hW5, <- hFb]; exact Bx.newAt _ _ _ _ (by simp)
   have hz5 : W5.heap.size = Fb + 1 + 1 := by rw [<- hW5, <- hFb]; simp
   have Y5 := zhI (zaI yf (zaI yl hB5));have hMF : M + 1 + 1 + 1 <= Fb := by rw [<- hFb]; have := X4.out.2.1.lt; omega
   clear yf yl hB5;have HW5 := zhI hW5;clear hW5;gi_wp2_with fail;refine ⟨trivial, ?_⟩;rw [HW5.out];refine (zc0 _ none _).mono ?_;rintro e W6 ⟨rfl, yr, yw, hb6, hz6⟩;rw [hz5] at yr yw hz6;have hB6 := btr Y5.out.2.2 hb6;have Y6 := zhI (zaI (Y5.out.1.belowAll hb6) (Y5.out.2.1.belowAll hb6));have s6 := s4.next hB6;have X6 := zhI (zaI (X4.out.1.belowAll hB6) (zaI (X4.out.2.1.belowAll hB6) (X4.out.2.2.below hB6)));have HL6 : Hid (LiesO (M + 1 + 1 + 1) W6 a) := zhI (fun t ht => by obtain ⟨q1, q2, q3⟩ := HLO.out t ht; exact ⟨q1.staysAll hB6, q2, q3⟩);have hfp : ∀ x ∈ fpO a, M + 1 + 1 + 1 <= x /\ x < Fb := fun x hx => by
    cases a with
    | none => cases hx
    | some t => rw [<- hFb]; exact (HLO.out t rfl).1.lt x hx
   have Hfp := zhI hfp;have HB6 := zhI hB6;rw [<- Hrv.out] at yr;clear hb6 Y5 HW5 s4 X4 hfp hB6;gi_wp2;refine zca hro h1 (gf := 103) (lb := #[.pointer (some ⟨Fb + 1 + 1, 0, none⟩), .pointer (some ⟨Fb + 1 + 1 + 1, 0, none⟩)]) rfl trivial (enters_of Tryz.func103 (by kernel_rfl) rfl)
    (zbQ (n - 1) (by omega) (M + 1 + 1 + 1) (Fb + 1 + 1) (Fb + 1 + 1 + 1) (fun b => b ∈ fpO a \/ b = Fb + 1 + 1 \/ b = Fb + 1 + 1 + 1) a W6 HL6.out (fun x hx => .inl hx) (.inr (.inl rfl)) (.inr (.inr rfl)) yr yw (by rw [HD.out]; exact hDl))
    (fun b hb => by rcases hb with hb | rfl | rfl; have := Hfp.out b hb; omega; omega; omega) (fun _ => rfl)
    (fun pre W => KeepB [Fb, Fb + 1] W6 W /\ (Bx W Fb #[.bool pre.isEmpty] 4 /\ Bx W (Fb + 1) #[.string (lastK pre)] 9) /\ ascK pre = true)
    (fun c pre W => c = .ret /\ ascK pre = false /\ KeepB [Fb, Fb + 1, N + 1, N + 1 + 1, N + 1 + 1 + 1] W6 W /\ Bx W (N + 1) ixZ 33 /\ Bx W (N + 1 + 1) #[.pointer none] 88 /\ Bx W (N + 1 + 1 + 1) #[.bool false] 4)
    (fun s A B row hs hg hr => ⟨hs.1.grown hg (fun r e => (hr r e).1), ⟨zaD hs.2.1.1 hg (fun r e => (hr r e).2), zaD hs.2.1.2 hg (fun r e => (hr r e).2)⟩, hs.2.2⟩)
    (fun c s A B row hs hg hr => ⟨hs.1, hs.2.1, hs.2.2.1.grown hg (fun r e => (hr r e).1), zaD hs.2.2.2.1 hg (fun r e => (hr r e).2), zaD hs.2.2.2.2.1 hg (fun r e => (hr r e).2), zaD hs.2.2.2.2.2 hg (fun r e => (hr r e).2)⟩)
    ⟨KeepB.refl _ _, ⟨Y6.out.1, Y6.out.2⟩, rfl⟩ (fun s W hs => hs.1.2.2.2.1) 20 (fun x => #[.string x.1, .string x.2]) 77
    ?assign ?body ?done ?stop
   case assign => intro l pre x W K hI hK;simp only [List.zip_toArray, List.zip_cons_cons, List.zip_nil_right, List.size_toArray] at hK |-;gi_wp2;exact hK
   case body =>
    rintro l pre x Bb W hBb ⟨hKB, ⟨b1, b2⟩, hasc⟩ hX hlt;simp only [List.zip_toArray, List.zip_cons_cons, List.zip_nil_right, List.size_toArray];have hsn := zgC pre x;rw [hasc, Bool.true_and] at hsn;have hn1 : ¬ (Fb ∈ fpO a \/ Fb = Fb + 1 + 1 \/ Fb = Fb + 1 + 1 + 1) := by rintro (h | h | h); have := Hfp.out _ h; omega; omega; omega
    have hn2 : ¬ (Fb + 1 ∈ fpO a \/ Fb + 1 = Fb + 1 + 1 \/ Fb + 1 = Fb + 1 + 1 + 1) := by rintro (h | h | h); have := Hfp.out _ h; omega; omega; omega
    have X0 := hKB.bx s6.res (by simp; omega);have P0 := hKB.bx s6.rp (by simp; omega);have B0 := hKB.bx s6.rb (by simp; omega);have HKB := zhI hKB;have c1 := b1.cell 0;have c2 := b2.cell 0;have c3 := hX.cell 0;simp only [List.getElem?_toArray, List.getElem?_cons_zero] at c1 c2 c3;have f1 := b1.free 0;have f2 := b2.free 0;have l1 := b1.lt;have l2 := b2.lt;have l3 := hX.lt;clear hKB;cases hpe : pre.isEmpty
    case' true =>
     rw [hpe] at c1;rw [hpe, Bool.true_or] at hsn;clear hpe
    case' false =>
     rw [hpe] at c1;rw [hpe, Bool.false_or] at hsn;clear hpe;cases hk : kLt (lastK pre) x.1
     case' true =>
      rw [hk] at hsn;have hk' : Go.Op.bytesLess (lastK pre).toList x.1.toList = true := hk;clear hk
     case' false =>
      rw [hk] at hsn;have hk' : Go.Op.bytesLess (lastK pre).toList x.1.toList = false := hk;have cX := X0.cell;have lX := X0.lt;have fX := X0.free;have cP := P0.cell;have lP := P0.lt;have fP := P0.free;have cB := B0.cell;have lB := B0.lt;have fB := B0.free;obtain ⟨z1, z2, z3⟩ := zb1 X0 P0 B0 (.int .i64 0) (.slice none 0 0) (.slice none 0 0) (.int .i64 0) (.int .i64 0) (.int .i64 0) (.int .i64 0) (.int .i64 0) (.slice none 0 0) (.pointer none) (.bool false);have HZ := zhI (zaI z1 (zaI z2 z3));have Hsn := zhI hsn;unfold ixZ at cX;clear hk z1 z2 z3 hsn X0 P0 B0 b1 b2 hn1 hn2 hasc;gi_wp2;exact ⟨(zcE W N _ _ _ _ _ _ _ _ _ _ _).from _, rfl, Hsn.out, (HKB.out.sub (fun b hb => by simp at hb |-; omega)).res (by simp) (by simp) (by simp), HZ.out.1, HZ.out.2.1, HZ.out.2.2⟩
    all_goals
     have HG : Hid (∀ v1 v2 : Value, v1 = .bool false -> v2 = .string x.1 -> KeepsFrom W6.heap.size W ((W.setCell ⟨Fb, 0, none⟩ v1).setCell ⟨Fb + 1, 0, none⟩ v2).drew /\ KeepT (fun b => b ∈ fpO a \/ b = Fb + 1 + 1 \/ b = Fb + 1 + 1 + 1) W ((W.setCell ⟨Fb, 0, none⟩ v1).setCell ⟨Fb + 1, 0, none⟩ v2).drew /\
       (KeepB [Fb, Fb + 1] W6 ((W.setCell ⟨Fb, 0, none⟩ v1).setCell ⟨Fb + 1, 0, none⟩ v2).drew /\ (Bx ((W.setCell ⟨Fb, 0, none⟩ v1).setCell ⟨Fb + 1, 0, none⟩ v2).drew Fb #[.bool (pre ++ [x]).isEmpty] 4 /\ Bx ((W.setCell ⟨Fb, 0, none⟩ v1).setCell ⟨Fb + 1, 0, none⟩ v2).drew (Fb + 1) #[.string (lastK (pre ++ [x]))] 9) /\ ascK (pre ++ [x]) = true)) := zhI (by
      rintro v1 v2 rfl rfl;refine ⟨(((KeepsOthers.setCell _ _ _).trans (KeepsOthers.setCell _ _ _)).trans (KeepsOthers.drew _)).from _, (KeepT.set W (a := ⟨Fb, 0, none⟩) _ hn1).trans (KeepT.set _ (a := ⟨Fb + 1, 0, none⟩) _ hn2), (HKB.out.set (b := Fb) (k := 0) (by simp)).set (b := Fb + 1) (k := 0) (by simp), ⟨?_, ?_⟩, hsn⟩
      . refine Bx.drew ?_;rw [show (pre ++ [x]).isEmpty = false by simp];have := (b1.set 0 (.bool false)).setO (a := ⟨Fb + 1, 0, none⟩) (by simp) (.string x.1);simpa using this
      . refine Bx.drew ?_;have := (b2.setO (a := ⟨Fb, 0, none⟩) (by simp) (.bool false)).set 0 (.string x.1);rw [zcA];simpa using this)
     have HG2 : Hid (∀ v1 v2 : Value, v1 = .bool false -> v2 = .string x.1 -> KeepsFrom W6.heap.size W ((W.setCell ⟨Fb + 1, 0, none⟩ v2).setCell ⟨Fb, 0, none⟩ v1).drew /\ KeepT (fun b => b ∈ fpO a \/ b = Fb + 1 + 1 \/ b = Fb + 1 + 1 + 1) W ((W.setCell ⟨Fb + 1, 0, none⟩ v2).setCell ⟨Fb, 0, none⟩ v1).drew /\
       (KeepB [Fb, Fb + 1] W6 ((W.setCell ⟨Fb + 1, 0, none⟩ v2).setCell ⟨Fb, 0, none⟩ v1).drew /\ (Bx ((W.setCell ⟨Fb + 1, 0, none⟩ v2).setCell ⟨Fb, 0, none⟩ v1).drew Fb #[.bool (pre ++ [x]).isEmpty] 4 /\ Bx ((W.setCell ⟨Fb + 1, 0, none⟩ v2).setCell ⟨Fb, 0, none⟩ v1).drew (Fb + 1) #[.string (lastK (pre ++ [x]))] 9) /\ ascK (pre ++ [x]) = true)) := zhI (by
      rintro v1 v2 rfl rfl;refine ⟨(((KeepsOthers.setCell _ _ _).trans (KeepsOthers.setCell _ _ _)).trans (KeepsOthers.drew _)).from _, (KeepT.set W (a := ⟨Fb + 1, 0, none⟩) _ hn2).trans (KeepT.set _ (a := ⟨Fb, 0, none⟩) _ hn1), (HKB.out.set (b := Fb + 1) (k := 0) (by simp)).set (b := Fb) (k := 0) (by simp), ⟨?_, ?_⟩, hsn⟩
      . refine Bx.drew ?_;rw [show (pre ++ [x]).isEmpty = false by simp];have := (b1.setO (a := ⟨Fb + 1, 0, none⟩) (by simp) (.string x.1)).set 0 (.bool false);simpa using this
      . refine Bx.drew ?_;have := (b2.set 0 (.string x.1)).setO (a := ⟨Fb, 0, none⟩) (by simp) (.bool false);rw [zcA];simpa using this)
     clear hsn hasc X0 P0 B0 b1 b2 hn1 hn2;gi_wp2
     gi_region
     all_goals gi_wp2
     all_goals first | exact HG.out _ _ rfl rfl | exact HG2.out _ _ rfl rfl
   case done =>
    rintro D0 ys W hD1 rfl ⟨hKB, ⟨b1, b2⟩, hasc⟩ hK;rw [HD.out] at hasc;have HTt : Hid (readP d frm til = some (⟨d, frm, til, V, R0, zap frm til u⟩, ndO a)) := zhI (by rw [HT.out, if_pos hasc]);have yM := hKB.bx X6.out.1 (by simp; omega);have yL := hKB.bx X6.out.2.1 (by simp; omega);have X0 := hKB.bx s6.res (by simp; omega);have P0 := hKB.bx s6.rp (by simp; omega);have B0 := hKB.bx s6.rb (by simp; omega);have mW := X6.out.2.2.same (w' := W) (hKB.2.2.2.2 (M + 1) X6.out.2.2.lt (by simp; omega));have hfree := zgf frm til (M + 1) u.length u W mW (by omega) (by omega) (by omega);obtain ⟨fl, hfl⟩ : ∃ fl, zap frm til u = fl := ⟨_, rfl⟩;rw [hfl] at hfree HTt;have Hfree := zhI hfree;have HKB := zhI hKB;have cL := yL.cell;have lL := yL.lt;unfold ldC at cL;have hMW : M + 1 + 1 < W.heap.size := lL;have hK1 := zhI hK;have hK2 := (Array.getElem?_eq_some_iff.1 hK).1;clear hKB b1 b2 hasc mW hfree hfl hK yL;gi_wp2_with fail;refine ⟨trivial, ?_⟩;refine (callsIn_wide.2 Hfree.out).mono ?_;rintro e w7 ⟨fo, fc, rfl, hown, hb7⟩;obtain ⟨fn, hfn⟩ : ∃ fn, fl.length = fn := ⟨_, rfl⟩;rw [hfn] at hown;rw [hfn];have yM7 := yM.belowAll hb7;have X7 := X0.belowAll hb7;have P7 := P0.belowAll hb7;have B7 := B0.belowAll hb7;have cM7 := yM7.cell;have lM7 := yM7.lt;have fM7 := yM7.free;have yM8 := yM7.set 8 (.slice fo fn fc);have cM8 := yM8.cell;have X8 := X7.setO (a := ⟨M, 8, none⟩) (by simp; omega) (.slice fo fn fc);have P8 := P7.setO (a := ⟨M, 8, none⟩) (by simp; omega) (.slice fo fn fc);have B8 := B7.setO (a := ⟨M, 8, none⟩) (by simp; omega) (.slice fo fn fc);have cX := X8.cell;have lX := X8.lt;have fX := X8.free;have cP := P8.cell;have lP := P8.lt;have fP := P8.free;have cB := B8.cell;have lB := B8.lt;have fB := B8.free;obtain ⟨z1, z2, z3⟩ := zb1 X8 P8 B8 (.int .i64 d.size) (.slice po d.pages.length pc) (.slice co d.cache.length cc) (.int .i64 d.left) (.int .i64 frm) (.int .i64 til) (.int .i64 V) (.int .i64 R0) (.slice fo fn fc) ((.pointer none)) (.bool true);have HZ := zhI (zaI z1 (zaI z2 z3));have hK7 : w7.heap[D0]? = some (.deferred (some [])) := (hb7.block D0 hK2).trans hK1.out;have hKr := zhI (((KeepsOthers.setCell w7 ⟨M, 8, none⟩ (.slice fo fn fc)).trans (zcE _ N (.int .i64 d.size) (.slice po d.pages.length pc) (.slice co d.cache.length cc) (.int .i64 d.left) (.int .i64 frm) (.int .i64 til) (.int .i64 V) (.int .i64 R0) (.slice fo fn fc) ((.pointer none)) (.bool true))).same D0 _ hK7 rfl);have HK9 := zhI ((((HKB.out.of_below hb7).sub (L' := [Fb, Fb + 1, M, N + 1, N + 1 + 1, N + 1 + 1 + 1]) (fun b hb => by simp at hb |-; omega)).set (b := M) (k := 8) (v := .slice fo fn fc) (by simp)).res (N := N) (v0 := .int .i64 d.size) (v1 := .slice po d.pages.length pc) (v2 := .slice co d.cache.length cc) (v3 := .int .i64 d.left) (v4 := .int .i64 frm) (v5 := .int .i64 til) (v6 := .int .i64 V) (v7 := .int .i64 R0) (v8 := .slice fo fn fc) (p' := (.pointer none)) (b' := .bool true) (by simp) (by simp) (by simp));have Hown := zhI (zaI hown hb7);have Hfn := zhI hfn;unfold ixZ at cX;simp only [ixC] at cM7;simp only [zsP] at cM8;clear z1 z2 z3 X8 P8 B8 X7 P7 B7 yM7 yM8 hK7 yM X0 P0 B0 hown hb7 hfn;gi_wp2;refine ⟨by simp, .inl ⟨_, _, rfl, run_takeDeferred hKr.out, ?_⟩⟩;have d1 := (zaD HZ.out.1 (grownBy_putObj' _ D0 (.deferred none)) (fun r e => by cases e; exact ⟨_, hKr.out, rfl⟩)).cell;have d2 := (zaD HZ.out.2.1 (grownBy_putObj' _ D0 (.deferred none)) (fun r e => by cases e; exact ⟨_, hKr.out, rfl⟩)).cell;have d3 := (zaD HZ.out.2.2 (grownBy_putObj' _ D0 (.deferred none)) (fun r e => by cases e; exact ⟨_, hKr.out, rfl⟩)).cell;simp only [st9, st8] at d1 d2 d3;refine ⟨.tuple #[.agg (ixC d po co pc cc frm til V R0 fo fn fc), (.pointer none), .bool true], by simp [results, Tryz.f53, go_sem, d1, d2, d3], ?_⟩;rw [<- HR.out];unfold zcg;rw [HTt.out];have h9 := HK9.out.own (l := D0) (o := .deferred none) hD1 rfl;have hB9 := h9.below s6.below s6.below.size (fun b hb => by simp at hb; rw [hN]; omega);refine ⟨hB9, _, a, by rw [Hrv.out], ⟨po, pc, co, cc, fo, fc, by rw [Hfn.out], ?_, ?_, ?_⟩, ?_, rfl⟩
    . exact (hD0.same fun b hb => hB9.block b hb).mono fun b hb => znL hb hB9.size
    .
     obtain ⟨o', c', e', hs', hr', hob'⟩ := zai Hown.out.1;obtain ⟨rfl, rfl⟩ : fo = o' /\ fc = c' := by simpa using e'
     rw [Hfn.out]; exact hs'
    .
     obtain ⟨o', c', e', hs', hr', hob'⟩ := zai Hown.out.1;obtain ⟨rfl, rfl⟩ : fo = o' /\ fc = c' := by simpa using e'
     have hK7r := ((KeepB.refl [M, N + 1, N + 1 + 1, N + 1 + 1 + 1] w7).set (b := M) (k := 8) (v := .slice fo fn fc) (by simp)).res (N := N) (v0 := .int .i64 d.size) (v1 := .slice po d.pages.length pc) (v2 := .slice co d.cache.length cc) (v3 := .int .i64 d.left) (v4 := .int .i64 frm) (v5 := .int .i64 til) (v6 := .int .i64 V) (v7 := .int .i64 R0) (v8 := .slice fo fn fc) (p' := (.pointer none)) (b' := .bool true) (by simp) (by simp) (by simp);refine (IntsT.own Hown.out.1).same fun b cs fz hh he => ?_;have hbb : W.heap.size <= b /\ b < w7.heap.size := Hown.out.1.lt b (by
      cases fo with
      | none => cases he
      | some ad => simp at he; subst he; rfl)
     exact (World.putObj_heap_other (by omega)).trans (hK7r.2.2.2.2 b hbb.2 (by simp; omega))
    .
     intro t ht;obtain ⟨q1, q2, q3⟩ := HL6.out t ht;refine ⟨(q1.keepT (h9.keepT (· ∈ fpO a) fun b hb hm => ?_) (fun x hx => ?_)).down (by rw [hN]; omega), q2, q3⟩
     . have := Hfp.out b hb;simp at hm;omega
     . subst ht;exact hx
   case stop => rintro D0 c pre W hD1 hSp ⟨rfl, hasc, hKB, z1, z2, z3⟩ hK;rw [HD.out] at hSp;have HP : Hid (readP d frm til = none) := zhI (by rw [HT.out, zew hSp hasc]; rfl);gi_wp2;refine ⟨by simp, .inl ⟨_, _, rfl, run_takeDeferred hK, ?_⟩⟩;have d1 := (zaD z1 (grownBy_putObj' _ D0 (.deferred none)) (fun r e => by cases e; exact ⟨_, hK, rfl⟩)).cell;have d2 := (zaD z2 (grownBy_putObj' _ D0 (.deferred none)) (fun r e => by cases e; exact ⟨_, hK, rfl⟩)).cell;have d3 := (zaD z3 (grownBy_putObj' _ D0 (.deferred none)) (fun r e => by cases e; exact ⟨_, hK, rfl⟩)).cell;refine ⟨.tuple #[.agg ixZ, .pointer none, .bool false], by simp [results, Tryz.f53, go_sem, d1, d2, d3], ?_⟩;rw [<- HR.out];unfold zcg;rw [HP.out];have h9 := hKB.own (l := D0) (o := .deferred none) hD1 rfl;exact ⟨h9.below s6.below s6.below.size (fun b hb => by simp at hb; rw [hN]; omega), rfl⟩
  .
   have t1 : ((R0 : Int) != 0) = true := by simp; omega
   have hload := zjB N (M + 1 + 1) (M + 1) d po co pc cc frm til hc hf (fuelX frm til) (by unfold fuelX; omega) true R0 [] W3 S3.out.2.2.2.2 S3.out.2.2.2.1 ⟨List.nodup_nil, fun _ h => by cases h⟩ (by unfold fuelX; simp; omega) ⟨by omega, by omega⟩;have Hload := zhI hload;clear hload;gi_wp2_with fail;refine ⟨trivial, ?_⟩;refine (callsIn_wide.2 Hload.out).mono ?_;rintro e W4 ⟨hg4, hres⟩;have s4 := S3.out.1.grown hg4 (by omega);cases hlp : loadP d frm til (fuelX frm til) true R0 [] with
   | none => rw [hlp] at hres;obtain ⟨v, k, rfl⟩ := hres;have HP : Hid (readP d frm til = none) := zhI (by rw [HH.out]; unfold treeP; rw [if_neg hR0, hlp]);have s2 := s4;clear hlp hg4 s4 Hload S3 hW3 hM s3 hNM lDM hz3 cD lD;have X0 := s2.res;have cX := X0.cell;have lX := X0.lt;have fX := X0.free;have P0 := s2.rp;have cP := P0.cell;have lP := P0.lt;have fP := P0.free;have B0 := s2.rb;have cB := B0.cell;have lB := B0.lt;have fB := B0.free;obtain ⟨z1, z2, z3⟩ := zb1 X0 P0 B0 (.int .i64 0) (.slice none 0 0) (.slice none 0 0) (.int .i64 0) (.int .i64 0) (.int .i64 0) (.int .i64 0) (.int .i64 0) (.slice none 0 0) (.pointer none) (.bool false);have HB := zhI (zg5 (v0 := .int .i64 0) (v1 := .slice none 0 0) (v2 := .slice none 0 0) (v3 := .int .i64 0) (v4 := .int .i64 0) (v5 := .int .i64 0) (v6 := .int .i64 0) (v7 := .int .i64 0) (v8 := .slice none 0 0) (p' := .pointer none) (b' := .bool false) s2.below (Nat.le_of_eq hN));have Hz := zhI (zaI z1 (zaI z2 z3));unfold ixZ at cX;clear z1 z2 z3 X0 P0 B0;gi_wp2;have d1 := Hz.out.1.cell;have d2 := Hz.out.2.1.cell;have d3 := Hz.out.2.2.cell;simp only [st9, st8] at d1 d2 d3;refine ⟨.tuple #[.agg ixZ, .pointer none, .bool false], by simp [results, Tryz.f53, go_sem, d1, d2, d3], ?_⟩;rw [<- HR.out];unfold zcg;rw [HP.out];exact ⟨HB.out, rfl⟩
   | some r =>
    obtain ⟨nd, k, u⟩ := r;rw [hlp] at hres;obtain ⟨t, rfl, htn, htl, htd, htm⟩ := hres;have X4 := zhI (zaI (S3.out.2.1.grown hg4 (by simp)) (zaI (S3.out.2.2.1.grown hg4 (by simp)) htm));obtain ⟨a, ha⟩ : ∃ a, some t = a := ⟨_, rfl⟩;have HLO : Hid (LiesO (M + 1 + 1 + 1) W4 a) := zhI (fun t' h => by rw [<- ha] at h;cases h;exact ⟨by rw [<- hz3]; exact htl, by rw [htn]; exact (zeW _ hlp).wf, htd⟩)
    obtain ⟨D, hD⟩ : ∃ D, zaf (ndO a) = D := ⟨_, rfl⟩;have hDl : D.length <= 1000000 := by have h1 := zej _ hlp;have h2 := (zcH _ hlp ⟨List.nodup_nil, fun _ h => by cases h⟩).1.len (by omega);rw [<- hD, <- ha, ndO, Option.map_some, htn];show nd.prs.length <= 1000000;simp at h1;omega
    have HT : Hid (readP d frm til = if ascK D then some (⟨d, frm, til, V, R0, zap frm til u⟩, ndO a) else none) := zhI (by
     have e : ndO a = some nd := by rw [<- ha, ndO, Option.map_some, htn]
     have e2 : D = nd.prs := by rw [<- hD, e]; rfl
     rw [HH.out, e2, e]; unfold treeP; rw [if_neg hR0, hlp]; simp only;cases ascK nd.prs <;> rfl)
    obtain ⟨p, hp⟩ : ∃ p, some (⟨t.b, 0, none⟩ : Addr) = p := ⟨_, rfl⟩;have hrv : rootV a = .pointer p := by rw [<- ha, <- hp]; rfl
    simp only [AT.ptr, hp];have HD := zhI hD;have Hrv := zhI hrv;clear ha hlp htn htl htd htm hg4 Hload S3 hW3 hM s3 cD lD HH hp hrv hD;obtain ⟨Fb, hFb⟩ : ∃ F, W4.heap.size = F := ⟨_, rfl⟩;obtain ⟨W5, hW5⟩ : ∃ W5, (W4.alloc (.cells #[.bool true] 4)).alloc (.cells #[.string ⟨#[]⟩] 9) = W5 := ⟨_, rfl⟩;have hB5 : Below W4.heap.size W4 W5 := by rw [<- hW5]; exact ((Below.refl _ W4).alloc (Nat.le_refl _) _).alloc (by simp) _
    have yf : Bx W5 Fb #[.bool true] 4 := by rw [<- hW5, <- hFb]; exact (Bx.new W4 _ _).alloc _
    have yl : Bx W5 (Fb + 1) #[.string ⟨#[]⟩] 9 := by rw [<- hW5, <- hFb]; exact Bx.newAt _ _ _ _ (by simp)
    have hz5 : W5.heap.size = Fb + 1 + 1 := by rw [<- hW5, <- hFb]; simp
    have Y5 := zhI (zaI yf (zaI yl hB5));have hMF : M + 1 + 1 + 1 <= Fb := by rw [<- hFb]; have := X4.out.2.1.lt; omega
    clear yf yl hB5;have HW5 := zhI hW5;clear hW5;gi_wp2_with fail;refine ⟨trivial, ?_⟩;rw [HW5.out];refine (zc0 _ p _).mono ?_;rintro e W6 ⟨rfl, yr, yw, hb6, hz6⟩;rw [hz5] at yr yw hz6;have hB6 := btr Y5.out.2.2 hb6;have Y6 := zhI (zaI (Y5.out.1.belowAll hb6) (Y5.out.2.1.belowAll hb6));have s6 := s4.next hB6;have X6 := zhI (zaI (X4.out.1.belowAll hB6) (zaI (X4.out.2.1.belowAll hB6) (X4.out.2.2.below hB6)));have HL6 : Hid (LiesO (M + 1 + 1 + 1) W6 a) := zhI (fun t ht => by obtain ⟨q1, q2, q3⟩ := HLO.out t ht; exact ⟨q1.staysAll hB6, q2, q3⟩);have hfp : ∀ x ∈ fpO a, M + 1 + 1 + 1 <= x /\ x < Fb := fun x hx => by
     cases a with
     | none => cases hx
     | some t => rw [<- hFb]; exact (HLO.out t rfl).1.lt x hx
    have Hfp := zhI hfp;have HB6 := zhI hB6;rw [<- Hrv.out] at yr;clear hb6 Y5 HW5 s4 X4 hfp hB6;gi_wp2;refine zca hro h1 (gf := 103) (lb := #[.pointer (some ⟨Fb + 1 + 1, 0, none⟩), .pointer (some ⟨Fb + 1 + 1 + 1, 0, none⟩)]) rfl trivial (enters_of Tryz.func103 (by kernel_rfl) rfl)
     (zbQ (n - 1) (by omega) (M + 1 + 1 + 1) (Fb + 1 + 1) (Fb + 1 + 1 + 1) (fun b => b ∈ fpO a \/ b = Fb + 1 + 1 \/ b = Fb + 1 + 1 + 1) a W6 HL6.out (fun x hx => .inl hx) (.inr (.inl rfl)) (.inr (.inr rfl)) yr yw (by rw [HD.out]; exact hDl))
     (fun b hb => by rcases hb with hb | rfl | rfl; have := Hfp.out b hb; omega; omega; omega) (fun _ => rfl)
     (fun pre W => KeepB [Fb, Fb + 1] W6 W /\ (Bx W Fb #[.bool pre.isEmpty] 4 /\ Bx W (Fb + 1) #[.string (lastK pre)] 9) /\ ascK pre = true)
     (fun c pre W => c = .ret /\ ascK pre = false /\ KeepB [Fb, Fb + 1, N + 1, N + 1 + 1, N + 1 + 1 + 1] W6 W /\ Bx W (N + 1) ixZ 33 /\ Bx W (N + 1 + 1) #[.pointer none] 88 /\ Bx W (N + 1 + 1 + 1) #[.bool false] 4)
     (fun s A B row hs hg hr => ⟨hs.1.grown hg (fun r e => (hr r e).1), ⟨zaD hs.2.1.1 hg (fun r e => (hr r e).2), zaD hs.2.1.2 hg (fun r e => (hr r e).2)⟩, hs.2.2⟩)
     (fun c s A B row hs hg hr => ⟨hs.1, hs.2.1, hs.2.2.1.grown hg (fun r e => (hr r e).1), zaD hs.2.2.2.1 hg (fun r e => (hr r e).2), zaD hs.2.2.2.2.1 hg (fun r e => (hr r e).2), zaD hs.2.2.2.2.2 hg (fun r e => (hr r e).2)⟩)
     ⟨KeepB.refl _ _, ⟨Y6.out.1, Y6.out.2⟩, rfl⟩ (fun s W hs => hs.1.2.2.2.1) 20 (fun x => #[.string x.1, .string x.2]) 77
     ?assign ?body ?done ?stop
    case assign => intro l pre x W K hI hK;simp only [List.zip_toArray, List.zip_cons_cons, List.zip_nil_right, List.size_toArray] at hK |-;gi_wp2;exact hK
    case body =>
     rintro l pre x Bb W hBb ⟨hKB, ⟨b1, b2⟩, hasc⟩ hX hlt;simp only [List.zip_toArray, List.zip_cons_cons, List.zip_nil_right, List.size_toArray];have hsn := zgC pre x;rw [hasc, Bool.true_and] at hsn;have hn1 : ¬ (Fb ∈ fpO a \/ Fb = Fb + 1 + 1 \/ Fb = Fb + 1 + 1 + 1) := by rintro (h | h | h); have := Hfp.out _ h; omega; omega; omega
     have hn2 : ¬ (Fb + 1 ∈ fpO a \/ Fb + 1 = Fb + 1 + 1 \/ Fb + 1 = Fb + 1 + 1 + 1) := by rintro (h | h | h); have := Hfp.out _ h; omega; omega; omega
     have X0 := hKB.bx s6.res (by simp; omega);have P0 := hKB.bx s6.rp (by simp; omega);have B0 := hKB.bx s6.rb (by simp; omega);have HKB := zhI hKB;have c1 := b1.cell 0;have c2 := b2.cell 0;have c3 := hX.cell 0;simp only [List.getElem?_toArray, List.getElem?_cons_zero] at c1 c2 c3;have f1 := b1.free 0;have f2 := b2.free 0;have l1 := b1.lt;have l2 := b2.lt;have l3 := hX.lt;clear hKB;cases hpe : pre.isEmpty
     case' true =>
      rw [hpe] at c1;rw [hpe, Bool.true_or] at hsn;clear hpe
     case' false =>
      rw [hpe] at c1;rw [hpe, Bool.false_or] at hsn;clear hpe;cases hk : kLt (lastK pre) x.1
      case' true =>
       rw [hk] at hsn;have hk' : Go.Op.bytesLess (lastK pre).toList x.1.toList = true := hk;clear hk
      case' false =>
       rw [hk] at hsn;have hk' : Go.Op.bytesLess (lastK pre).toList x.1.toList = false := hk;have cX := X0.cell;have lX := X0.lt;have fX := X0.free;have cP := P0.cell;have lP := P0.lt;have fP := P0.free;have cB := B0.cell;have lB := B0.lt;have fB := B0.free;obtain ⟨z1, z2, z3⟩ := zb1 X0 P0 B0 (.int .i64 0) (.slice none 0 0) (.slice none 0 0) (.int .i64 0) (.int .i64 0) (.int .i64 0) (.int .i64 0) (.int .i64 0) (.slice none 0 0) (.pointer none) (.bool false);have HZ := zhI (zaI z1 (zaI z2 z3));have Hsn := zhI hsn;unfold ixZ at cX;clear hk z1 z2 z3 hsn X0 P0 B0 b1 b2 hn1 hn2 hasc;gi_wp2;exact ⟨(zcE W N _ _ _ _ _ _ _ _ _ _ _).from _, rfl, Hsn.out, (HKB.out.sub (fun b hb => by simp at hb |-; omega)).res (by simp) (by simp) (by simp), HZ.out.1, HZ.out.2.1, HZ.out.2.2⟩
     all_goals
      have HG : Hid (∀ v1 v2 : Value, v1 = .bool false -> v2 = .string x.1 -> KeepsFrom W6.heap.size W ((W.setCell ⟨Fb, 0, none⟩ v1).setCell ⟨Fb + 1, 0, none⟩ v2).drew /\ KeepT (fun b => b ∈ fpO a \/ b = Fb + 1 + 1 \/ b = Fb + 1 + 1 + 1) W ((W.setCell ⟨Fb, 0, none⟩ v1).setCell ⟨Fb + 1, 0, none⟩ v2).drew /\
        (KeepB [Fb, Fb + 1] W6 ((W.setCell ⟨Fb, 0, none⟩ v1).setCell ⟨Fb + 1, 0, none⟩ v2).drew /\ (Bx ((W.setCell ⟨Fb, 0, none⟩ v1).setCell ⟨Fb + 1, 0, none⟩ v2).drew Fb #[.bool (pre ++ [x]).isEmpty] 4 /\ Bx ((W.setCell ⟨Fb, 0, none⟩ v1).setCell ⟨Fb + 1, 0, none⟩ v2).drew (Fb + 1) #[.string (lastK (pre ++ [x]))] 9) /\ ascK (pre ++ [x]) = true)) := zhI (by
       rintro v1 v2 rfl rfl;refine ⟨(((KeepsOthers.setCell _ _ _).trans (KeepsOthers.setCell _ _ _)).trans (KeepsOthers.drew _)).from _, (KeepT.set W (a := ⟨Fb, 0, none⟩) _ hn1).trans (KeepT.set _ (a := ⟨Fb + 1, 0, none⟩) _ hn2), (HKB.out.set (b := Fb) (k := 0) (by simp)).set (b := Fb + 1) (k := 0) (by simp), ⟨?_, ?_⟩, hsn⟩
       . refine Bx.drew ?_;rw [show (pre ++ [x]).isEmpty = false by simp];have := (b1.set 0 (.bool false)).setO (a := ⟨Fb + 1, 0, none⟩) (by simp) (.string x.1);simpa using this
       . refine Bx.drew ?_;have := (b2.setO (a := ⟨Fb, 0, none⟩) (by simp) (.bool false)).set 0 (.string x.1);rw [zcA];simpa using this)
      have HG2 : Hid (∀ v1 v2 : Value, v1 = .bool false -> v2 = .string x.1 -> KeepsFrom W6.heap.size W ((W.setCell ⟨Fb + 1, 0, none⟩ v2).setCell ⟨Fb, 0, none⟩ v1).drew /\ KeepT (fun b => b ∈ fpO a \/ b = Fb + 1 + 1 \/ b = Fb + 1 + 1 + 1) W ((W.setCell ⟨Fb + 1, 0, none⟩ v2).setCell ⟨Fb, 0, none⟩ v1).drew /\
        (KeepB [Fb, Fb + 1] W6 ((W.setCell ⟨Fb + 1, 0, none⟩ v2).setCell ⟨Fb, 0, none⟩ v1).drew /\ (Bx ((W.setCell ⟨Fb + 1, 0, none⟩ v2).setCell ⟨Fb, 0, none⟩ v1).drew Fb #[.bool (pre ++ [x]).isEmpty] 4 /\ Bx ((W.setCell ⟨Fb + 1, 0, none⟩ v2).setCell ⟨Fb, 0, none⟩ v1).drew (Fb + 1) #[.string (lastK (pre ++ [x]))] 9) /\ ascK (pre ++ [x]) = true)) := zhI (by
       rintro v1 v2 rfl rfl;refine ⟨(((KeepsOthers.setCell _ _ _).trans (KeepsOthers.setCell _ _ _)).trans (KeepsOthers.drew _)).from _, (KeepT.set W (a := ⟨Fb + 1, 0, none⟩) _ hn2).trans (KeepT.set _ (a := ⟨Fb, 0, none⟩) _ hn1), (HKB.out.set (b := Fb + 1) (k := 0) (by simp)).set (b := Fb) (k := 0) (by simp), ⟨?_, ?_⟩, hsn⟩
       . refine Bx.drew ?_;rw [show (pre ++ [x]).isEmpty = false by simp];have := (b1.setO (a := ⟨Fb + 1, 0, none⟩) (by simp) (.string x.1)).set 0 (.bool false);simpa using this
       . refine Bx.drew ?_;have := (b2.set 0 (.string x.1)).setO (a := ⟨Fb, 0, none⟩) (by simp) (.bool false);rw [zcA];simpa using this)
      clear hsn hasc X0 P0 B0 b1 b2 hn1 hn2;gi_wp2
      gi_region
      all_goals gi_wp2
      all_goals first | exact HG.out _ _ rfl rfl | exact HG2.out _ _ rfl rfl
    case done =>
     rintro D0 ys W hD1 rfl ⟨hKB, ⟨b1, b2⟩, hasc⟩ hK;rw [HD.out] at hasc;have HTt : Hid (readP d frm til = some (⟨d, frm, til, V, R0, zap frm til u⟩, ndO a)) := zhI (by rw [HT.out, if_pos hasc]);have yM := hKB.bx X6.out.1 (by simp; omega);have yL := hKB.bx X6.out.2.1 (by simp; omega);have X0 := hKB.bx s6.res (by simp; omega);have P0 := hKB.bx s6.rp (by simp; omega);have B0 := hKB.bx s6.rb (by simp; omega);have mW := X6.out.2.2.same (w' := W) (hKB.2.2.2.2 (M + 1) X6.out.2.2.lt (by simp; omega));have hfree := zgf frm til (M + 1) u.length u W mW (by omega) (by omega) (by omega);obtain ⟨fl, hfl⟩ : ∃ fl, zap frm til u = fl := ⟨_, rfl⟩;rw [hfl] at hfree HTt;have Hfree := zhI hfree;have HKB := zhI hKB;have cL := yL.cell;have lL := yL.lt;unfold ldC at cL;have hMW : M + 1 + 1 < W.heap.size := lL;have hK1 := zhI hK;have hK2 := (Array.getElem?_eq_some_iff.1 hK).1;clear hKB b1 b2 hasc mW hfree hfl hK yL;gi_wp2_with fail;refine ⟨trivial, ?_⟩;refine (callsIn_wide.2 Hfree.out).mono ?_;rintro e w7 ⟨fo, fc, rfl, hown, hb7⟩;obtain ⟨fn, hfn⟩ : ∃ fn, fl.length = fn := ⟨_, rfl⟩;rw [hfn] at hown;rw [hfn];have yM7 := yM.belowAll hb7;have X7 := X0.belowAll hb7;have P7 := P0.belowAll hb7;have B7 := B0.belowAll hb7;have cM7 := yM7.cell;have lM7 := yM7.lt;have fM7 := yM7.free;have yM8 := yM7.set 8 (.slice fo fn fc);have cM8 := yM8.cell;have X8 := X7.setO (a := ⟨M, 8, none⟩) (by simp; omega) (.slice fo fn fc);have P8 := P7.setO (a := ⟨M, 8, none⟩) (by simp; omega) (.slice fo fn fc);have B8 := B7.setO (a := ⟨M, 8, none⟩) (by simp; omega) (.slice fo fn fc);have cX := X8.cell;have lX := X8.lt;have fX := X8.free;have cP := P8.cell;have lP := P8.lt;have fP := P8.free;have cB := B8.cell;have lB := B8.lt;have fB := B8.free;obtain ⟨z1, z2, z3⟩ := zb1 X8 P8 B8 (.int .i64 d.size) (.slice po d.pages.length pc) (.slice co d.cache.length cc) (.int .i64 d.left) (.int .i64 frm) (.int .i64 til) (.int .i64 V) (.int .i64 R0) (.slice fo fn fc) ((.pointer p)) (.bool true);have HZ := zhI (zaI z1 (zaI z2 z3));have hK7 : w7.heap[D0]? = some (.deferred (some [])) := (hb7.block D0 hK2).trans hK1.out;have hKr := zhI (((KeepsOthers.setCell w7 ⟨M, 8, none⟩ (.slice fo fn fc)).trans (zcE _ N (.int .i64 d.size) (.slice po d.pages.length pc) (.slice co d.cache.length cc) (.int .i64 d.left) (.int .i64 frm) (.int .i64 til) (.int .i64 V) (.int .i64 R0) (.slice fo fn fc) ((.pointer p)) (.bool true))).same D0 _ hK7 rfl);have HK9 := zhI ((((HKB.out.of_below hb7).sub (L' := [Fb, Fb + 1, M, N + 1, N + 1 + 1, N + 1 + 1 + 1]) (fun b hb => by simp at hb |-; omega)).set (b := M) (k := 8) (v := .slice fo fn fc) (by simp)).res (N := N) (v0 := .int .i64 d.size) (v1 := .slice po d.pages.length pc) (v2 := .slice co d.cache.length cc) (v3 := .int .i64 d.left) (v4 := .int .i64 frm) (v5 := .int .i64 til) (v6 := .int .i64 V) (v7 := .int .i64 R0) (v8 := .slice fo fn fc) (p' := (.pointer p)) (b' := .bool true) (by simp) (by simp) (by simp));have Hown := zhI (zaI hown hb7);have Hfn := zhI hfn;unfold ixZ at cX;simp only [ixC] at cM7;simp only [zsP] at cM8;clear z1 z2 z3 X8 P8 B8 X7 P7 B7 yM7 yM8 hK7 yM X0 P0 B0 hown hb7 hfn;gi_wp2;refine ⟨by simp, .inl ⟨_, _, rfl, run_takeDeferred hKr.out, ?_⟩⟩;have d1 := (zaD HZ.out.1 (grownBy_putObj' _ D0 (.deferred none)) (fun r e => by cases e; exact ⟨_, hKr.out, rfl⟩)).cell;have d2 := (zaD HZ.out.2.1 (grownBy_putObj' _ D0 (.deferred none)) (fun r e => by cases e; exact ⟨_, hKr.out, rfl⟩)).cell;have d3 := (zaD HZ.out.2.2 (grownBy_putObj' _ D0 (.deferred none)) (fun r e => by cases e; exact ⟨_, hKr.out, rfl⟩)).cell;simp only [st9, st8] at d1 d2 d3;refine ⟨.tuple #[.agg (ixC d po co pc cc frm til V R0 fo fn fc), (.pointer p), .bool true], by simp [results, Tryz.f53, go_sem, d1, d2, d3], ?_⟩;rw [<- HR.out];unfold zcg;rw [HTt.out];have h9 := HK9.out.own (l := D0) (o := .deferred none) hD1 rfl;have hB9 := h9.below s6.below s6.below.size (fun b hb => by simp at hb; rw [hN]; omega);refine ⟨hB9, _, a, by rw [Hrv.out], ⟨po, pc, co, cc, fo, fc, by rw [Hfn.out], ?_, ?_, ?_⟩, ?_, rfl⟩
     . exact (hD0.same fun b hb => hB9.block b hb).mono fun b hb => znL hb hB9.size
     .
      obtain ⟨o', c', e', hs', hr', hob'⟩ := zai Hown.out.1;obtain ⟨rfl, rfl⟩ : fo = o' /\ fc = c' := by simpa using e'
      rw [Hfn.out]; exact hs'
     .
      obtain ⟨o', c', e', hs', hr', hob'⟩ := zai Hown.out.1;obtain ⟨rfl, rfl⟩ : fo = o' /\ fc = c' := by simpa using e'
      have hK7r := ((KeepB.refl [M, N + 1, N + 1 + 1, N + 1 + 1 + 1] w7).set (b := M) (k := 8) (v := .slice fo fn fc) (by simp)).res (N := N) (v0 := .int .i64 d.size) (v1 := .slice po d.pages.length pc) (v2 := .slice co d.cache.length cc) (v3 := .int .i64 d.left) (v4 := .int .i64 frm) (v5 := .int .i64 til) (v6 := .int .i64 V) (v7 := .int .i64 R0) (v8 := .slice fo fn fc) (p' := (.pointer p)) (b' := .bool true) (by simp) (by simp) (by simp);refine (IntsT.own Hown.out.1).same fun b cs fz hh he => ?_;have hbb : W.heap.size <= b /\ b < w7.heap.size := Hown.out.1.lt b (by
       cases fo with
       | none => cases he
       | some ad => simp at he; subst he; rfl)
      exact (World.putObj_heap_other (by omega)).trans (hK7r.2.2.2.2 b hbb.2 (by simp; omega))
     .
      intro t ht;obtain ⟨q1, q2, q3⟩ := HL6.out t ht;refine ⟨(q1.keepT (h9.keepT (· ∈ fpO a) fun b hb hm => ?_) (fun x hx => ?_)).down (by rw [hN]; omega), q2, q3⟩
      . have := Hfp.out b hb;simp at hm;omega
      . subst ht;exact hx
    case stop => rintro D0 c pre W hD1 hSp ⟨rfl, hasc, hKB, z1, z2, z3⟩ hK;rw [HD.out] at hSp;have HP : Hid (readP d frm til = none) := zhI (by rw [HT.out, zew hSp hasc]; rfl);gi_wp2;refine ⟨by simp, .inl ⟨_, _, rfl, run_takeDeferred hK, ?_⟩⟩;have d1 := (zaD z1 (grownBy_putObj' _ D0 (.deferred none)) (fun r e => by cases e; exact ⟨_, hK, rfl⟩)).cell;have d2 := (zaD z2 (grownBy_putObj' _ D0 (.deferred none)) (fun r e => by cases e; exact ⟨_, hK, rfl⟩)).cell;have d3 := (zaD z3 (grownBy_putObj' _ D0 (.deferred none)) (fun r e => by cases e; exact ⟨_, hK, rfl⟩)).cell;refine ⟨.tuple #[.agg ixZ, .pointer none, .bool false], by simp [results, Tryz.f53, go_sem, d1, d2, d3], ?_⟩;rw [<- HR.out];unfold zcg;rw [HP.out];have h9 := hKB.own (l := D0) (o := .deferred none) hD1 rfl;exact ⟨h9.below s6.below s6.below.size (fun b hb => by simp at hb; rw [hN]; omega), rfl⟩
end Go.Proofs.YtlefmmhlpgmbjaaGreat
namespace Go.Proofs.YtlefmmhlpgmbjaaGreat
set_option maxRecDepth 100000
open Go.RowKit
def NoS (cs : Array Value) : Prop := ∀ (k : Nat) (s : ByteArray), cs[k]? ≠ some (.string s)
theorem noS4 {a b : Int} {x y : Value} (hx : ∀ s, x ≠ .string s) (hy : ∀ s, y ≠ .string s) : NoS #[.int .i64 a, x, y, .int .i64 b] := by
 intro k s;rcases k with _ | _ | _ | _ | k <;> simp <;> first | exact hx s | exact hy s | skip
theorem zfl (d : Dsk) (po co : Option Addr) (pc cc : Nat) : NoS (dC d po co pc cc) := noS4 (by simp) (by simp)
abbrev dZ : Array Value := #[.int .i64 0, .slice none 0 0, .slice none 0 0, .int .i64 0]
theorem zjO : NoS dZ := noS4 (by simp) (by simp)
theorem zaS.apart {S : Nat -> Prop} {w : World} {o : Option Addr} {l : List ByteArray} {r : Nat} {cs : Array Value} {t : TypeId} (h : zaS S w o l) (hx : Bx w r cs t) (hn : NoS cs) : zaS (fun b => S b /\ b ≠ r) w o l := by
 intro i hi;obtain ⟨b, off, e, hc, hs⟩ := h i hi;refine ⟨b, off, e, hc, hs, ?_⟩;rintro rfl;rw [hx.cell] at hc;exact hn _ _ hc
theorem PWsAt.apart {S : Nat -> Prop} {w : World} {o : Option Addr} {l : List PW} {r : Nat} {cs : Array Value} {t : TypeId} (h : PWsAt S w o l) (hx : Bx w r cs t) (hn : NoS cs) : PWsAt (fun b => S b /\ b ≠ r) w o l := by
 intro i hi;obtain ⟨b, off, e, hc, hd, hs⟩ := h i hi;refine ⟨b, off, e, hc, hd, hs, ?_⟩;rintro rfl;rw [hx.cell] at hd;exact hn _ _ hd
theorem DskR.apart {S : Nat -> Prop} {w : World} {v : Value} {d : Dsk} {r : Nat} {cs : Array Value} {t : TypeId} (h : DskR S w v d) (hx : Bx w r cs t) (hn : NoS cs) : DskR (fun b => S b /\ b ≠ r) w v d := by
 obtain ⟨po, pc, co, cc, e, hp, hc, ok⟩ := h;exact ⟨po, pc, co, cc, e, hp.apart hx hn, hc.apart hx hn, ok⟩
def Only (r : Nat) (w w' : World) : Prop := w.heap.size <= w'.heap.size /\ ∀ b, b ≠ r -> w'.heap[b]? = w.heap[b]?
theorem Only.refl (r : Nat) (w : World) : Only r w w := ⟨Nat.le_refl _, fun _ _ => rfl⟩
theorem Only.set {r : Nat} {w w' : World} (h : Only r w w') (k : Nat) (v : Value) : Only r w (w'.setCell ⟨r, k, none⟩ v) := ⟨by simpa using h.1, fun b hb => (Below.heap_setCell w' ⟨r, k, none⟩ v b hb).trans (h.2 b hb)⟩
theorem Only.one {r k : Nat} {v : Value} {w : World} : Only r w (w.setCell ⟨r, k, none⟩ v) := (Only.refl r w).set k v
theorem Only.four {r : Nat} {v0 v1 v2 v3 : Value} {w : World} : Only r w ((((w.setCell ⟨r, 0, none⟩ v0).setCell ⟨r, 1, none⟩ v1).setCell ⟨r, 2, none⟩ v2).setCell ⟨r, 3, none⟩ v3) := ((((Only.refl r w).set 0 _).set 1 _).set 2 _).set 3 _
def st4 (w : World) (b : Nat) (v0 v1 v2 v3 : Value) : World := (((w.setCell ⟨b, 0, none⟩ v0).setCell ⟨b, 1, none⟩ v1).setCell ⟨b, 2, none⟩ v2).setCell ⟨b, 3, none⟩ v3
theorem zb5 {w : World} {b : Nat} {v0 v1 v2 v3 : Value} : Only b w (Go.Proofs.YtlefmmhlpgmbjaaGreat.st4 w b v0 v1 v2 v3) := Only.four
theorem Bx.st4 {w : World} {b : Nat} {u0 u1 u2 u3 v0 v1 v2 v3 : Value} {t : TypeId} (h : Bx w b #[u0, u1, u2, u3] t) : Bx (Go.Proofs.YtlefmmhlpgmbjaaGreat.st4 w b v0 v1 v2 v3) b #[v0, v1, v2, v3] t := h.set4
theorem zbb {B b : Nat} {w w' : World} {v0 v1 v2 v3 : Value} (h : Below B w w') (hb : B <= b) : Below B w (Go.Proofs.YtlefmmhlpgmbjaaGreat.st4 w' b v0 v1 v2 v3) := zaB (b := b) h hb
theorem Only.eight {r : Nat} {v0 v1 v2 v3 v4 v5 v6 v7 : Value} {w : World} : Only r w (st8 w r v0 v1 v2 v3 v4 v5 v6 v7) := ((((((((Only.refl r w).set 0 _).set 1 _).set 2 _).set 3 _).set 4 _).set 5 _).set 6 _).set 7 _
theorem DskV.only {w w' : World} {v : Value} {d : Dsk} {r : Nat} {cs : Array Value} {t : TypeId} (h : DskV w v d) (hx : Bx w r cs t) (hn : NoS cs) (ho : Only r w w') : DskV w' v d :=
 ((DskR.apart h hx hn).same (w' := w') (fun b hb => ho.2 b hb.2)).mono (fun _b hb => znL hb.1 ho.1)
theorem noS9 (a b c e f g : Int) (o1 o2 o3 : Option Addr) (n1 n2 n3 c1 c2 c3 : Nat) : NoS #[.int .i64 a, .slice o1 n1 c1, .slice o2 n2 c2, .int .i64 b, .int .i64 c, .int .i64 e, .int .i64 f, .int .i64 g, .slice o3 n3 c3] := by
 intro k s;rcases k with _ | _ | _ | _ | _ | _ | _ | _ | _ | k <;> simp
theorem IntsT.only {w w' : World} {o : Option Addr} {l : List Int} {r : Nat} {cs : Array Value} {t : TypeId} (h : IntsT w o l) (hx : Bx w r cs t) (ht : t ≠ 3) (ho : Only r w w') : IntsT w' o l :=
 h.same fun b cs' fz hh _ => ho.2 b (by
  rintro rfl;unfold Bx at hx;rw [hx] at hh;simp at hh;exact ht hh.2.1)
theorem IxT.only {w w' : World} {v : Value} {x : Ix} {r : Nat} {cs : Array Value} {t : TypeId} (h : IxT w v x) (hx : Bx w r cs t) (hn : NoS cs) (ht : t ≠ 3) (ho : Only r w w') : IxT w' v x := by
 obtain ⟨po, pc, co, cc, fo, fc, rfl, h1, h2, h3⟩ := h;exact ⟨po, pc, co, cc, fo, fc, rfl, h1.only hx hn ho, h2, h3.only hx ht ho⟩
theorem Only.nine {r : Nat} {v0 v1 v2 v3 v4 v5 v6 v7 v8 : Value} {w : World} : Only r w (st9 w r v0 v1 v2 v3 v4 v5 v6 v7 v8) := (Only.eight).set 8 v8
theorem Bx.only {w w' : World} {r b : Nat} {cs : Array Value} {t : TypeId} (h : Bx w b cs t) (ho : Only r w w') (hb : b ≠ r) : Bx w' b cs t := (ho.2 b hb).trans h
end Go.Proofs.YtlefmmhlpgmbjaaGreat
