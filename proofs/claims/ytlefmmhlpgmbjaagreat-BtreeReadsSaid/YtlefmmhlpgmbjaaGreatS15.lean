/- btree.Format = fmtX. Lazy, from the operation k on: what stands ahead of it has yielded already. (*node).put at a leaf. Plain: footprints of a node whose children change. -/
import Derived.Test.YtlefmmhlpgmbjaaGreatS12
import Derived.Test.YtlefmmhlpgmbjaaGreatS04
import Derived.Test.YtlefmmhlpgmbjaaGreatS14
import Derived.Test.YtlefmmhlpgmbjaaGreatS01
namespace Go.Proofs.YtlefmmhlpgmbjaaGreat
set_option maxRecDepth 100000
open Go.RowKit Go.Shelf
def annDE (d : Dsk) (er : Int) : Ann := ⟨fun r => .tuple #[r.x 0, .int .i64 er], fun r W => DskV W (r.x 0) d⟩
theorem lz_de {f : FuncId} {args : Array Value} {d : Dsk} {er : Int} {W : World} (h : Calls Tryz.prog f args W (RetVE W d er)) : Calls Tryz.prog f args W fun e w' => ∃ u, e = .returned u /\ zcL (annDE d er) W u w' := by
 refine h.mono ?_;rintro e w' ⟨v, rfl, hv, hb⟩;exact ⟨_, rfl, hb, fun _ => v, rfl, fun w'' hb' => hv.below hb'⟩
def zdY (n : Nat) (l : List Value) (e : TypeId) : Ann := ⟨fun r => .slice (some ⟨r.lo, 0, none⟩) n n, fun r W => Bx W r.lo l.toArray e⟩
set_option maxRecDepth 100000 in
set_option maxHeartbeats 2000000 in
theorem zkf (d : Dsk) (v : Value) (frm til : Int) (w : World) (hD : DskV w v d) (hc : d.cache.length <= 999990) :
  Calls Tryz.prog 14 #[v, .int .i64 frm, .int .i64 til] w (RetVE w (fmtX d frm til).1 (fmtX d frm til).2) := by
 obtain ⟨R, hR⟩ : ∃ R, fmtX d frm til = R := ⟨_, rfl⟩;rw [hR];have hD0 := hD;obtain ⟨po, pc, co, cc, rfl⟩ := hD.agg;obtain ⟨N, hN⟩ : ∃ N, w.heap.size = N := ⟨_, rfl⟩;obtain ⟨W0, hW0⟩ : ∃ W0, (w.alloc (.cells (dC d po co pc cc) 25)).alloc (.cells dZ 25) = W0 := ⟨_, rfl⟩;have x0 : Bx W0 N (dC d po co pc cc) 25 := by subst hW0 hN; exact (Bx.new w _ _).alloc _
 have x1 : Bx W0 (N + 1) dZ 25 := by subst hW0 hN; exact Bx.newAt _ _ _ _ (by simp)
 have hB0 : Below w.heap.size w W0 := by subst hW0; exact (Below.one w _).alloc (by simp) _
 have hV0 := hD0.below hB0;have hch := zhM d _ W0 hV0 rfl;obtain ⟨ce, hce⟩ : ∃ c, chk d = c := ⟨_, rfl⟩;rw [hce] at hch;have Hch := zhI hch;have Hce := zhI hce;have HD := zhI hD0;have HR0 := zhI hR;have cX := x0.cell;have lX := x0.lt;clear hch hce hD hD0 hR;go_enter Tryz.func14, Tryz.ntmps14;go_wp2_with fail;refine Hch.out.mono ?_;rintro e w1 ⟨rfl, hb1⟩;have y0 := x0.belowAll hb1;have y1 := x1.belowAll hb1;have hB1 := btr hB0 hb1;have hV1 := hV0.below hb1;clear cX lX x0 x1 hW0 hb1 hB0 hV0 Hch;cases hc1 : (ce != 0);rotate_left
 .
  have HR : Hid (R = (zeroD, 1)) := zhI (by
   have : chk d ≠ 0 := by rw [Hce.out]; simpa using hc1
   have e : fitX d frm til = 1 := by unfold fitX; rw [if_pos this]
   rw [<- HR0.out]; unfold fmtX; rw [e]; rfl)
  obtain ⟨Wf, hWf⟩ : ∃ Wf, st4 w1 (N + 1) (.int .i64 0) (.slice none 0 0) (.slice none 0 0) (.int .i64 0) = Wf := ⟨_, rfl⟩;have zR : Bx Wf (N + 1) dZ 25 := by subst hWf; exact y1.st4
  have zB : Below w.heap.size w Wf := by subst hWf; exact zbb hB1 (by omega)
  have HWf := zhI hWf;have ZB := zhI zB;clear zB hWf;have cX := y1.cell;have lX := y1.lt;have fX := y1.free;go_wp2;have HW := HWf.out;unfold st4 at HW;rw [HW];have cZ := zR.cell;refine bodyPost_ret (v := .tuple #[.agg dZ, .int .i64 1]) (by simp [results, Tryz.results14, go_sem, cZ]) rfl ?_;rw [HR.out];exact ⟨_, rfl, zba _, ZB.out⟩
 have hc0 : chk d = 0 := by rw [Hce.out]; simpa using hc1
 have Hc0 := zhI hc0;have cD := y0.cell;have lD := y0.lt;unfold dC at cD;cases hft : fits5 d frm til
 .
  have HR : Hid (R = (zeroD, 2)) := zhI (by
   have e : fitX d frm til = 2 := by unfold fitX; rw [if_neg (by simpa using hc0), if_pos hft]
   rw [<- HR0.out]; unfold fmtX; rw [e]; rfl)
  have hfit := zdA d _ frm til w1 hc0 hft hV1;have Hfit := zhI hfit;clear hfit hc0 hft;go_wp2_with fail;refine Hfit.out.mono ?_;rintro e w2 ⟨rfl, hb2⟩;obtain ⟨w0', hw0'⟩ : ∃ x, x = w1 := ⟨_, rfl⟩;have y1 := y1.belowAll hb2;have hB1 := btr hB1 hb2;clear cD lD y0 hV1 Hfit hb2 hw0' w0';obtain ⟨Wf, hWf⟩ : ∃ Wf, st4 w2 (N + 1) (.int .i64 0) (.slice none 0 0) (.slice none 0 0) (.int .i64 0) = Wf := ⟨_, rfl⟩;have zR : Bx Wf (N + 1) dZ 25 := by subst hWf; exact y1.st4
  have zB : Below w.heap.size w Wf := by subst hWf; exact zbb hB1 (by omega)
  have HWf := zhI hWf;have ZB := zhI zB;clear zB hWf;have cX := y1.cell;have lX := y1.lt;have fX := y1.free;go_wp2;have HW := HWf.out;unfold st4 at HW;rw [HW];have cZ := zR.cell;refine bodyPost_ret (v := .tuple #[.agg dZ, .int .i64 2]) (by simp [results, Tryz.results14, go_sem, cZ]) rfl ?_;rw [HR.out];exact ⟨_, rfl, zba _, ZB.out⟩
 .
  have hfit := zdA d _ frm til w1 hc0 hft hV1;have Hfit := zhI hfit;have hf0 : fitX d frm til = 0 := by unfold fitX; rw [if_neg (by simpa using hc0), if_neg (by simp [hft])]
  obtain ⟨f1, f2, f3, f4, f5⟩ := zax hft;have hr := zag (zaq hc0).1;obtain ⟨Z, hZ⟩ : ∃ Z, bs (padZ []) = Z := ⟨_, rfl⟩;obtain ⟨H, hH⟩ : ∃ H, bs (hdrL 512 1 0) = H := ⟨_, rfl⟩;have hZs : Z.size <= 1000 := by rw [<- hZ, zaj]; simp [padZ]
  have hHs : H.size <= 1000 := by rw [<- hH, zaj]; simp [hdrL, num8]
  obtain ⟨F, er2, hF⟩ : ∃ F er2, perfP d (wrOps [⟨frm, Z⟩, ⟨frm + 1, H⟩]) = (F, er2) := ⟨_, _, rfl⟩;have HR : Hid (R = (F, er2)) := zhI (by rw [<- HR0.out, <- hF, <- hZ, <- hH]; unfold fmtX; rw [if_neg (by simp [hf0])]; rfl);have HF := zhI hF;have hrep := fun W => zf2 W;have hhd : ∀ W, Calls Tryz.prog 47 #[.int .i64 1, .int .i64 0] W fun e w' => e = .returned (.string (bs (hdrL 512 1 0))) /\ Below W.heap.size W w' := fun W => zde 1 0 W;simp only [hZ] at hrep;simp only [hH] at hhd;have Hrep := zhI hrep;have Hhd := zhI hhd;have hf2 : frm <= 2000 := by omega
  have hw1 : wrap64 (frm + 1) = frm + 1 := IntWalk.wrap64_in _ (by omega);clear hfit hc0 hft hf0 hrep hhd hF hZ hH f1 hr HR0;go_wp2_with fail;refine Hfit.out.mono ?_;rintro e w2 ⟨rfl, hb2⟩;have y0 := y0.belowAll hb2;have y1 := y1.belowAll hb2;have hB2 := btr hB1 hb2;have hV2 := zhI (hV1.below hb2);clear cD lD hB1 hV1 Hfit hb2;have c0 := y0.cell;have l0 := y0.lt;unfold dC at c0;have cQ := Lat.cells w2;have HBw : Hid (∀ x : Lat w2, Below w2.heap.size w2 x.w) := zhI (fun x => x.h);go_wp2;refine zal 12 2 #[true, true, true, true, true, true, true, true, true, true, true, true, false, false] (fun i => if i = 2 then some (annK (.string Z)) else if i = 3 then some (annK (.agg #[.int .i64 frm, .string Z])) else if i = 7 then some (annK (.agg #[.int .i64 (frm + 1), .string H])) else if i = 6 then some (annK (.string H)) else if i = 8 then some (zdY 2 [.int .i64 frm, .string Z, .int .i64 (frm + 1), .string H] 80) else if i = 9 then some (annDE F er2) else none) (by kernel_rfl) (by rfl) (by rfl) (by kernel_rfl) ?_;simp only [List.take_succ_cons, List.take_zero];refine LW.block 2 2 (by rfl) (by kernel_rfl) (by kernel_rfl) ?_;simp only [ztP]
  repeat (first | go_big_quiet_skip | (go_big_quiet_want; go_big_quiet_op; go_big_quiet_on))
  refine wpQuiet_nil ?_;refine LW.lzy _ (by rfl) (by rfl) ?_ ?_
  . intro yL _;unfold lzAt;go_simp;exact zaH (Hrep.out _)
  intro _;simp only [Act.put, zsP]
  (try simp only [annK])
  refine LW.lzy _ (by rfl) (by rfl) ?_ ?_
  . intro yL _;exact zaL ((by go_simp))
  intro _;simp only [Act.put, zsP]
  (try simp only [annK])
  refine LW.block 2 6 (by rfl) (by kernel_rfl) (by kernel_rfl) ?_;simp only [ztP]
  repeat (first | go_big_quiet_skip | (go_big_quiet_want; go_big_quiet_op; go_big_quiet_on))
  refine wpQuiet_nil ?_;refine LW.lzy _ (by rfl) (by rfl) ?_ ?_
  . intro yL _;unfold lzAt;go_simp;exact zaH (Hhd.out _)
  intro _;simp only [Act.put, zsP]
  (try simp only [annK])
  refine LW.lzy _ (by rfl) (by rfl) ?_ ?_
  . intro yL _;exact zaL ((by go_simp))
  intro _;simp only [Act.put, zsP]
  (try simp only [annK])
  refine LW.lzy _ (by rfl) (by rfl) ?_ ?_
  . intro yL hf;unfold lzAt;go_simp;exact ⟨Below.one _ _, fun _ => undef, rfl, fun w'' hb => (Bx.new yL.w _ _).belowAll hb⟩
  intro r8;simp only [Act.put, zsP];refine LW.lzy _ (by rfl) (by rfl) ?_ ?_
  .
   intro yL hf;have h8 : Bx yL.w r8.lo #[.int .i64 frm, .string Z, .int .i64 (frm + 1), .string H] 80 := (hf 8 (by decide +kernel)).get (by rfl) (by rfl);unfold lzAt;simp only [zdY];go_simp;have hP := zgk d _ [⟨frm, Z⟩, ⟨frm + 1, H⟩] (some ⟨r8.lo, 0, none⟩) 2 yL.w (hV2.out.below (HBw.out _)) ((PWsAt.of_row (S := fun b => b = r8.lo) (RowAt.bx h8)).mono fun b hb => by rw [hb]; exact h8.lt) (.inr ⟨_, rfl, by simp, by simp [maxLen]⟩) (by intro x hx; simp at hx; rcases hx with rfl | rfl <;> simp <;> omega) (by simp only [zlC, List.length_nil]; omega)
   rw [HF.out] at hP;exact lz_de hP
  intro r9;simp only [Act.put, zsP, annDE];refine LW.block 2 12 (by rfl) (by kernel_rfl) (by kernel_rfl) ?_;simp only [ztP]
  repeat (first | go_big_quiet_skip | (go_big_quiet_want; go_big_quiet_op; go_big_quiet_on))
  refine wpQuiet_nil ?_;refine LW.done ?_;intro w3 hG;have hR9 : DskV w3 (r9.x 0) F := hG.get 9 rfl rfl;have hG2 := hG.below;have hM1 := hR9;obtain ⟨po1, pc1, co1, cc1, e13⟩ := hR9.agg;rw [e13] at hM1 |-;have z1 := y1.belowAll hG2;have hB3 := btr hB2 hG2;obtain ⟨Wf, hWf⟩ : ∃ Wf, st4 w3 (N + 1) (.int .i64 F.size) (.slice po1 F.pages.length pc1) (.slice co1 F.cache.length cc1) (.int .i64 F.left) = Wf := ⟨_, rfl⟩;have zR : Bx Wf (N + 1) (dC F po1 co1 pc1 cc1) 25 := by subst hWf; exact z1.st4
  have zB : Below w.heap.size w Wf := by subst hWf; exact zbb hB3 (by omega)
  have zV : DskV Wf (.agg (dC F po1 co1 pc1 cc1)) F := by subst hWf; exact hM1.only z1 zjO zb5
  have HWf := zhI hWf;have ZB := zhI zB;have ZV := zhI zV;clear hG c0 l0 hG2 zB zV hM1 hB3 hWf;have cX := z1.cell;have lX := z1.lt;have fX := z1.free;refine wpAny_ready (rs := [12]) (by kernel_rfl) (by simp) ?_;refine AllReady.cons rfl (fun K hK => ?_) AllReady.nil;go_simp;refine hK _ _ ?_;clear hK K;refine wpAny_ready (rs := [13]) (by kernel_rfl) (by simp) ?_;refine AllReady.cons rfl (fun K hK => ?_) AllReady.nil;go_simp;refine hK _ _ ?_;clear hK K;refine wpAny_done (by kernel_rfl) ?_ _;go_wp2;have HW := HWf.out;unfold st4 at HW;rw [HW];have cZ := zR.cell;refine bodyPost_ret (v := .tuple #[.agg (dC F po1 co1 pc1 cc1), .int .i64 er2]) (by simp [results, Tryz.results14, go_sem, cZ]) rfl ?_;rw [HR.out];exact ⟨_, rfl, ZV.out, ZB.out⟩
end Go.Proofs.YtlefmmhlpgmbjaaGreat
namespace Go.Proofs.YtlefmmhlpgmbjaaGreat
set_option maxRecDepth 100000
open Go.RowKit
section
variable {P : Program} {ops : Array Oper} {md : Region.Mode} {W0 : World} {an : Anns}
theorem zkq {n i : Nat} {oi : Oper} {S : Option Rec -> Value -> Prop} {L : Array Bool -> Recs -> Act -> Prop} (hi : ops[i]? = some oi) (hsel : ∀ (j : Nat) (o : Oper) cs b, ops[j]? = some o -> o.op ≠ .select cs b)
  (hs : ∀ t, t < ops.size -> n <= t -> (pastB md ops 8 [t]).contains i = true) (hin : i < n) (hdone : ∀ listed ξ a, L listed ξ a -> ∀ j ∈ Region.ready md ops listed, n <= j) :
  ∀ (f : Nat) (listed : Array Bool) (ξ : Recs) (a : Act), Closed md ops n listed ->
   (∀ j oj, ops[j]? = some oj -> j ≠ i -> listed.getD j true = false -> (∀ e ∈ oj.after, Region.binds md e = true -> e.on ≠ i) -> oi.apart ops oj = true) ->
   i ∈ Region.ready md ops listed -> Outs P ops md an W0 i oi ξ a S ->
   (∀ ρ v, S ρ v -> AO P ops md an W0 n L f (listed.setIfInBounds i true) (upr ξ i ρ) (a.put oi.dst v)) -> AO P ops md an W0 n L (f + 1) listed ξ a := by
 intro f;have head : ∀ (listed : Array Bool), Closed md ops n listed -> i ∈ Region.ready md ops listed -> ∀ j ∈ Region.ready md ops listed, j < n := by
  intro listed inv hr j hj;rcases Nat.lt_or_ge j n with h | h
  . exact h
  .
   exfalso;have hlt : j < ops.size := by obtain ⟨_, oj, hoj, _⟩ := mem_ready.1 hj; exact (Array.getElem?_eq_some_iff.1 hoj).1
   rcases zaJ hj inv.closed (hs j hlt h) with h2 | h2
   . omega
   . rw [getD_both (mem_ready.1 hr).1] at h2; cases h2
 induction f with
 | zero =>
  intro listed ξ a inv _ hr hy H;refine ⟨fun h => (by rw [h] at hr; cases hr), fun j hj => ⟨head listed inv hr j hj, fun oj hoj => ?_⟩⟩
  by_cases hji : j = i
  . subst hji;obtain rfl : oj = oi := Option.some.inj (hoj.symm.trans hi);exact ⟨S, hy, H⟩
  . obtain ⟨ρ, v, hs⟩ := hy.some;have := hdone _ _ _ (H ρ v hs) j (ready_mono hj hji);have := head listed inv hr j hj;omega
 | succ f ih =>
  intro listed ξ a inv hfree hr hy H;refine ⟨fun h => (by rw [h] at hr; cases hr), fun j hj => ⟨head listed inv hr j hj, fun oj hoj => ?_⟩⟩
  by_cases hji : j = i
  . subst hji;obtain rfl : oj = oi := Option.some.inj (hoj.symm.trans hi);exact ⟨S, hy, H⟩
  .
   obtain ⟨hjun, oj', hoj', hall⟩ := mem_ready.1 hj;obtain rfl : oj' = oj := Option.some.inj (hoj'.symm.trans hoj);have hun := (mem_ready.1 hr).1;have hnot : ∀ e ∈ oj'.after, Region.binds md e = true -> e.on ≠ i := fun e he hb heq => by have h1 := hall e he hb;rw [heq, getD_both hun] at h1;cases h1
   have hri : zbf md ops i j = false := by
    cases h : zbf md ops i j with
    | false => rfl
    | true =>
     rcases zaJ hr inv.closed h with h2 | h2
     . exact absurd h2 hji
     . rw [getD_both hjun] at h2; cases h2
   have hrj : zbf md ops j i = false := by
    cases h : zbf md ops j i with
    | false => rfl
    | true =>
     rcases zaJ hj inv.closed h with h2 | h2
     . exact absurd h2.symm hji
     . rw [getD_both hun] at h2; cases h2
   have hfree' : ∀ k ok, ops[k]? = some ok -> k ≠ i -> (listed.setIfInBounds j true).getD k true = false ->
     (∀ e ∈ ok.after, Region.binds md e = true -> e.on ≠ i) -> oi.apart ops ok = true := fun k ok hk hki hun hno => by
    refine hfree k ok hk hki ?_ hno
    by_cases hjk : j = k
    . subst hjk; exact hjun
    . rw [getD_set_ne true hjk] at hun; exact hun
   refine (StepK.swap (Ne.symm hji) (hfree j oj' hoj hji hjun hnot) (fun cs b => hsel i oi cs b hi) (fun cs b => hsel j oj' cs b hoj) hri hrj hy fun ρ v hs => ((H ρ v hs).2 j (ready_mono hj hji)).2 oj' hoj).mono ?_;rintro ξ' a' ⟨h1, h2⟩;refine ih (listed.setIfInBounds j true) ξ' a' (inv.set hj) hfree' (ready_mono hr (Ne.symm hji)) h1 fun ρ v hs => ?_;rw [Array.setIfInBounds_comm _ _ hji];exact h2 ρ v hs
theorem zkW {n : Nat} {Lq : Recs -> Act -> Prop} (hsel : Region.noSelect ops = true) (k0 : Nat) (hs : ∀ i, k0 <= i -> i < n -> ∀ t, t < ops.size -> n <= t -> (pastB md ops 8 [t]).contains i = true) (done : Array Bool) (hdn : (Region.ready md ops done).all (fun j => decide (n <= j)) = true) :
  ∀ (l : List Oper) (k : Nat) (listed : Array Bool) (ξ : Recs) (a : Act), (∀ j, j < l.length -> l[j]? = ops[k + j]?) -> k0 <= k -> k + l.length = n -> Closed md ops n listed -> setTo listed l.length k = done ->
  za4 md ops n l.length k listed = true -> LW P ops md an W0 Lq l k ξ a -> AO P ops md an W0 n (fun listed' ξ' a' => listed' = done /\ Lq ξ' a') l.length listed ξ a
 | [], k, listed, ξ, a, _, _, _, _, hd, _, h => ⟨hd, h⟩
 | o :: l, k, listed, ξ, a, hl, hk0, hk, inv, hd, hB, h => by
  have h0 : ops[k]? = some o := by simpa using (hl 0 (by simp)).symm
  simp only [zlC, za4, Bool.and_eq_true] at hB;obtain ⟨⟨hr, hf⟩, hB'⟩ := hB;have hkn : k < n := by simp only [zlC] at hk; omega
  have hr' : k ∈ Region.ready md ops listed := by simpa using hr
  obtain ⟨S, hS, hK⟩ := h;refine zkq h0 (Region.noSelect_spec hsel) (hs k hk0 hkn) hkn (fun listed' _ a' hL j hj => ?_) l.length listed ξ a inv (Region.free_spec h0 hf) hr' hS fun ρ v hs' => ?_
  . rw [hL.1] at hj; exact of_decide_eq_true (List.all_eq_true.1 hdn j hj)
  . exact zkW hsel k0 hs done hdn l (k + 1) _ _ _ (fun j hj => by have := hl (j + 1) (by simp; omega); simpa [Nat.add_assoc, Nat.add_comm 1 j] using this) (by omega) (by simp only [zlC] at hk; omega) (inv.set hr') (by simpa [setTo] using hd) hB' (hK ρ v hs')
def zkk (md : Region.Mode) (ops : Array Oper) (k n : Nat) : Bool := (List.range ops.size).all fun t => decide (t < n) || (List.range n).all fun i => decide (i < k) || (pastB md ops 8 [t]).contains i
def zhS (md : Region.Mode) (ops : Array Oper) (listed : Array Bool) : Bool := decide (listed.size = ops.size) && (List.range ops.size).all fun j => !listed.getD j false || (ops.getD j default).after.all fun e => !Region.binds md e || listed.getD e.on false
theorem zhp {n : Nat} {listed : Array Bool} (h : zhS md ops listed = true) : Closed md ops n listed := by
 simp only [zhS, Bool.and_eq_true, decide_eq_true_eq] at h;refine ⟨h.1, fun j oj hj hl e he hb => ?_⟩;have hlt : j < ops.size := (Array.getElem?_eq_some_iff.1 hj).1;have h1 := List.all_eq_true.1 h.2 j (List.mem_range.2 hlt);have e1 : ops.getD j default = oj := by rw [Array.getD_eq_getD_getElem?, hj]; rfl
 rw [hl, e1] at h1;simp only [Bool.not_true, Bool.false_or] at h1;have h2 := Array.all_eq_true_iff_forall_mem.1 h1 e he;rw [hb] at h2;simpa only [Bool.not_true, Bool.false_or] using h2
def zgM (md : Region.Mode) (ops : Array Oper) (k n : Nat) (listed : Array Bool) : Bool := Region.noSelect ops && zkk md ops k n && zhS md ops listed && za4 md ops n (n - k) k listed
theorem zgh {Q : Exit -> Act -> World -> Prop} {a : Act} {w : World} {l : List Oper} {listed : Array Bool} {fuel : Nat} (k n g : Nat) (done : Array Bool) (an : Anns) (hn : l.length = n + g) (hk : k <= n) (hf : fuel = n - k + g) (hd : setTo listed (n - k) k = done) (hB : zgM md l.toArray k n listed = true) (hw : Below W0.heap.size W0 w)
  (h : LW P l.toArray md an W0 (fun ξ a' => ∀ w', Good an W0 ξ w' -> wpAny P md l.toArray Q g done a' w') ((l.drop k).take (n - k)) k (fun _ => none) a) : wpAny P md l.toArray Q fuel listed a w := by
 simp only [zgM, Bool.and_eq_true] at hB;obtain ⟨⟨⟨hsel, hs⟩, hc⟩, hlex⟩ := hB;have htl : ((l.drop k).take (n - k)).length = n - k := by simp; omega
 have hdn := zbv _ _ _ hlex;have H := zkW (md := md) hsel k (fun i hi hin t ht hnt => by
   have h1 := List.all_eq_true.1 hs t (List.mem_range.2 ht);simp only [Bool.or_eq_true, decide_eq_true_eq] at h1;rcases h1 with h1 | h1
   . omega
   .
    have h2 := List.all_eq_true.1 h1 i (List.mem_range.2 hin);simp only [Bool.or_eq_true, decide_eq_true_eq] at h2;rcases h2 with h2 | h2
    . omega
    . exact h2) _ hdn ((l.drop k).take (n - k)) k listed _ a (fun j hj => by
  have hj' : j < n - k := by rw [htl] at hj; exact hj
  simp [hj']) (Nat.le_refl _) (by rw [htl]; omega) (zhp hc) (by rw [htl]) (by rw [htl]; exact hlex) h
 have := zbB (g := g) (Q' := Q) (w := w) (fun listed ξ a' w' hL hg => ?_) _ _ _ _ H (Good.start an hw)
 . rw [htl] at this;rw [hf];exact this
 . rw [hL.1, hd];exact hL.2 w' hg
theorem zbD {id : Nat} {Q : Exit -> Act -> World -> Prop} {a : Act} {w : World} {o : Oper} {rest : List Oper} (hm : P.follows .mixedOrders = true) (x : Operand) (v : Value) (hop : o.op = .move x) (hgd : o.guard = none) (hv : a.eval x = v)
  (hs : Region.noSelect (o :: rest).toArray = true) (hf : Region.free .any (o :: rest).toArray (Array.replicate (rest.length + 1) false) 0 = true) (hr : (Region.ready .any (o :: rest).toArray (Array.replicate (rest.length + 1) false)).contains 0 = true) (hQ : ∀ c b w, Q (.panic c) (b.put o.dst v) w -> Q (.panic c) b w)
  (h : wpAny P .any (o :: rest).toArray Q rest.length ((Array.replicate (rest.length + 1) false).setIfInBounds 0 true) (a.put o.dst v) w.drew) : (Code.region id (o :: rest).toArray true).wp P Q a w := by
 refine wp_region_any hm ?_;have e : (o :: rest).toArray.size = rest.length + 1 := by simp
 rw [e];refine wpAny_take (i := 0) (oi := o) (v := v) rfl hs hf hr hQ (Or.inl ⟨by simp [Region.wanted, hgd], fun w' => by simp [execOp, hop, hv]⟩) h
end
end Go.Proofs.YtlefmmhlpgmbjaaGreat
namespace Go.Proofs.YtlefmmhlpgmbjaaGreat
set_option maxRecDepth 100000
open Go.RowKit Go.Shelf
def PutR (base : Nat) (x : Kv) (t : AT) (w : World) (e : Ending) (w' : World) : Prop :=
 ∃ t' o, e = .returned (rootV o) /\ Mut base w w' t t' /\ t'.nd.er = (insN x t.nd.er).1 /\ o.map (fun s => s.nd.er) = (insN x t.nd.er).2 /\
  ∀ s, o = some s -> Lies base w' s /\ s.fp.Nodup /\ (∀ y ∈ s.fp, y ∈ t.fp \/ w.heap.size <= y) /\ ∀ y ∈ s.fp, y ∉ t'.fp
theorem zl9 {l : List Kv} {i : Nat} (h : i < l.length) (x : Kv) : kvsC (l.set i x) = ((kvsC l).set (i * 2) (.string x.1)).set (i * 2 + 1) (.string x.2) := by
 induction l generalizing i with
 | nil => simp at h
 | cons p l ih =>
  cases i with
  | zero => rfl
  | succ i =>
   have e1 : kvsC (p :: l) = .string p.1 :: .string p.2 :: kvsC l := rfl;have e2 : (i + 1) * 2 = i * 2 + 1 + 1 := by omega
   have e3 : kvsC (p :: l.set i x) = .string p.1 :: .string p.2 :: kvsC (l.set i x) := rfl;rw [List.set_cons_succ, e3, ih (by simpa using h), e1, e2];rfl
theorem RowO.set2 {w : World} {base n : Nat} {e : TypeId} {g c : Nat} {xs : List Value} (h : RowO w base e 2 (.slice (some ⟨g, 0, none⟩) n c) n xs) {i : Nat} (_hi : i < n) (u v : Value) :
  RowO ((w.setCell ⟨g, i * 2, none⟩ u).setCell ⟨g, i * 2 + 1, none⟩ v) base e 2 (.slice (some ⟨g, 0, none⟩) n c) n ((xs.set (i * 2) u).set (i * 2 + 1) v) := by
 rcases h.2 with ⟨h1, _⟩ | ⟨g', cap, cur, h1, hb, hh, hn, hc, hs, ht⟩
 . cases h1
 .
  obtain ⟨rfl, rfl⟩ : g = g' /\ c = cap := by simpa using h1
  have hx := h.1;rw [setCell_eq_setRow w g (i * 2) cur e (0, 0) u hh];have hh2 := setRow_heap w g cur (cur.setIfInBounds (i * 2) u) e (0, 0) hh;rw [setCell_eq_setRow _ g (i * 2 + 1) _ e (0, 0) v hh2];have hh3 := setRow_heap (w.setRow g (cur.setIfInBounds (i * 2) u)) g _ ((cur.setIfInBounds (i * 2) u).setIfInBounds (i * 2 + 1) v) e (0, 0) hh2;refine RowO.mk' (by rw [List.length_set, List.length_set]; exact hx) hb hh3 hn hc (by simpa using hs) ?_;rw [Array.toList_setIfInBounds, Array.toList_setIfInBounds, List.take_set, List.take_set, ht]
theorem RowO.free {w : World} {base n k : Nat} {e : TypeId} {g c : Nat} {xs : List Value} (h : RowO w base e k (.slice (some ⟨g, 0, none⟩) n c) n xs) (o : Nat) : w.frozen? ⟨g, o, none⟩ = false := by
 rcases h.2 with ⟨h1, _⟩ | ⟨g', cap, cur, h1, hb, hh, _⟩
 . cases h1
 .
  obtain ⟨rfl, rfl⟩ : g = g' /\ c = cap := by simpa using h1
  simp [World.frozen?, hh]
theorem za5 {ps : List Kv} (h : ps.length <= 3) : splitN (lfN ps) = (lfN ps, none) := by
 unfold splitN;rw [if_pos (show (lfN ps).kids = [] from rfl), if_neg (by show ¬ 3 < ps.length; omega)]
theorem zcs {ps : List Kv} (h : 3 < ps.length) : splitN (lfN ps) = (lfN (ps.take 2), some (lfN (ps.drop 2))) := by
 unfold splitN;rw [if_pos (show (lfN ps).kids = [] from rfl), if_pos (show 3 < (lfN ps).ps.length from h)];rfl
theorem RowO.pos {w : World} {base n k : Nat} {e : TypeId} {v : Value} {xs : List Value} (h : RowO w base e k v n xs) (hn : 0 < n) : ∃ g c, v = .slice (some ⟨g, 0, none⟩) n c /\ base <= g /\ g < w.heap.size /\ n <= c /\ c <= maxLen := by
 rcases h.2 with ⟨h1, h2⟩ | ⟨g, cap, cur, h1, hb, hh, hle, hc, _⟩
 . omega
 . exact ⟨g, cap, h1, hb, (Array.getElem?_eq_some_iff.1 hh).1, hle, hc⟩
theorem RowO.cut {w : World} {base n m k : Nat} {e : TypeId} {g c : Nat} {xs : List Value} (h : RowO w base e k (.slice (some ⟨g, 0, none⟩) n c) n xs) (hm : m <= n) : RowO w base e k (.slice (some ⟨g, 0, none⟩) m m) m (xs.take (m * k)) := by
 have hx := h.1;rcases h.2 with ⟨h1, _⟩ | ⟨g', cap, cur, h1, hb, hh, hn, hc, hs, ht⟩
 . cases h1
 .
  obtain ⟨rfl, rfl⟩ : g = g' /\ c = cap := by simpa using h1
  have h2 : m * k <= n * k := Nat.mul_le_mul_right _ hm;have h3 : m * k <= c * k := Nat.mul_le_mul_right _ (by omega);refine RowO.mk' (by rw [List.length_take, hx]; omega) hb hh (Nat.le_refl _) (by omega) (by omega) ?_;rw [<- ht, List.take_take, Nat.min_eq_left h2]
theorem KeepB.growL {L : List Nat} {W A B : World} {row : Option Nat} (h : KeepB L W A) (hg : A.grownBy B row) (hr : ∀ r, row = some r -> r ∈ L \/ W.heap.size <= r) : KeepB L W B :=
 ⟨hg.os.trans h.1, hg.tape.trans h.2.1, hg.output.trans h.2.2.1, znT h.2.2.2.1 hg.size, fun b hb hn => (hg.block b (znL hb h.2.2.2.1) (fun e => by rcases hr b e.symm with h | h; exact hn h; omega)).trans (h.2.2.2.2 b hb hn)⟩
theorem zeh {base : Nat} {w A : World} {b : Nat} {pv pv' kv : Value} {ps ps' : List Kv} {page : Int} (hnd : (b :: (pv.ownBlock.toList ++ (kv.ownBlock.toList ++ AT.fpL []))).Nodup) (hlt : ∀ y ∈ (AT.mk b pv kv ps [] page).fp, y < w.heap.size) (hb : base <= b)
  (hx : Bx A b (nodeC true pv' kv page) 129) (hp : RowO A base 77 2 pv' ps'.length (kvsC ps')) (hk : RowO A base 88 1 kv 0 []) (hv : pv'.ownBlock = pv.ownBlock \/ ∃ M, w.heap.size <= M /\ pv'.ownBlock = some M)
  (hK : KeepB (AT.mk b pv kv ps [] page).fp w A) : Mut base w A (.mk b pv kv ps [] page) (.mk b pv' kv ps' [] page) := by
 refine ⟨rfl, .mk _ _ _ _ _ _ hb hx hp hk (fun _ h => by cases h), ?_, ?_, hK⟩
 .
  rw [AT.fp];rcases hv with h | ⟨M, hM, h⟩
  . rw [h]; exact hnd
  .
   rw [AT.fp] at hlt;have hne : ∀ y ∈ b :: (pv.ownBlock.toList ++ (kv.ownBlock.toList ++ AT.fpL [])), y ≠ M := fun y hy e => by have := hlt y hy; omega
   rw [h];have h1 := List.nodup_cons.1 hnd;refine List.nodup_cons.2 ⟨fun hm => ?_, ?_⟩
   .
    rcases zmA.1 hm with hm | hm
    . simp at hm; exact hne b (by simp) hm
    . exact h1.1 (List.mem_append_right _ hm)
   . have h2 := (List.nodup_append.1 h1.2).2.1;refine List.nodup_append.2 ⟨by simp, h2, ?_⟩;intro x hx y hy e;simp at hx;exact hne y (List.mem_cons_of_mem _ (List.mem_append_right _ hy)) (by rw [<- e]; exact hx)
 .
  intro x hx;rw [AT.fp] at hx |-;rcases zmC.1 hx with h | h
  . exact .inl (by rw [h]; simp)
  .
   rcases zmA.1 h with h | h
   .
    rcases hv with h1 | ⟨M, hM, h1⟩
    . rw [h1] at h; exact .inl (List.mem_cons_of_mem _ (List.mem_append_left _ h))
    . rw [h1] at h; simp at h; exact .inr (by omega)
   . exact .inl (List.mem_cons_of_mem _ (List.mem_append_right _ h))
theorem zlf (l : List Kv) (i : Nat) (x : Kv) : kvsC (l.take i ++ x :: l.drop i) = (kvsC l).take (i * 2) ++ [.string x.1, .string x.2] ++ (kvsC l).drop (i * 2) := by
 induction l generalizing i with
 | nil => simp [kvsC, kvC]
 | cons p l ih =>
  cases i with
  | zero => rfl
  | succ i =>
   have e1 : kvsC (p :: l) = .string p.1 :: .string p.2 :: kvsC l := rfl;have e2 : (i + 1) * 2 = i * 2 + 1 + 1 := by omega
   have e3 : kvsC (p :: (l.take i ++ x :: l.drop i)) = .string p.1 :: .string p.2 :: kvsC (l.take i ++ x :: l.drop i) := rfl;rw [List.take_succ_cons, List.drop_succ_cons, List.cons_append, e3, ih i, e1, e2];rfl
theorem zmH (l : List Kv) {i : Nat} (h : i <= l.length) (x : Kv) : (l.take i ++ x :: l.drop i).length = l.length + 1 := by
 simp; omega
theorem zeJ (l : List Kv) (i : Nat) : kvsC (l.take i) = (kvsC l).take (i * 2) := by
 induction l generalizing i with
 | nil => simp [kvsC]
 | cons p l ih =>
  cases i with
  | zero => simp [kvsC]
  | succ i =>
   have e1 : kvsC (p :: l) = .string p.1 :: .string p.2 :: kvsC l := rfl;have e2 : (i + 1) * 2 = i * 2 + 1 + 1 := by omega
   have e3 : kvsC (p :: l.take i) = .string p.1 :: .string p.2 :: kvsC (l.take i) := rfl;rw [List.take_succ_cons, e3, ih i, e1, e2];rfl
theorem zeI (l : List Kv) (i : Nat) : kvsC (l.drop i) = (kvsC l).drop (i * 2) := by
 induction l generalizing i with
 | nil => simp [kvsC]
 | cons p l ih =>
  cases i with
  | zero => simp
  | succ i =>
   have e1 : kvsC (p :: l) = .string p.1 :: .string p.2 :: kvsC l := rfl;have e2 : (i + 1) * 2 = i * 2 + 1 + 1 := by omega
   rw [List.drop_succ_cons, ih i, e1, e2];rfl
set_option maxRecDepth 100000 in
set_option maxHeartbeats 4000000 in
theorem zhC (base : Nat) (x : Kv) (t : AT) (w : World) (h : Lies base w t) (hnd : t.fp.Nodup) (hk0 : t.kids = []) (h3 : t.ps.length <= 3) (ha : Asc t.ps) (hbw : base <= w.heap.size) :
  Calls Tryz.prog 120 #[t.ptr, kvV x] w (PutR base x t w) := by
 obtain ⟨b, pv, kv, ps, kids, page⟩ := t;simp only [AT.kids, AT.ps] at hk0 h3 ha;subst hk0;obtain ⟨ky, vl⟩ := x;have hx := h.hx;have hp := h.hp;have hk := h.hk;have hbb := h.hb;simp only [AT.b, AT.pv, AT.kv, AT.ps, AT.kids, AT.page, List.isEmpty_nil] at hx hp hk hbb;simp only [AT.ptr, AT.b];obtain ⟨R, hR⟩ : ∃ R, PutR base (ky, vl) (.mk b pv kv ps [] page) w = R := ⟨_, rfl⟩;rw [hR];have HR := zhI hR;have hins : insN (ky, vl) (AT.mk b pv kv ps [] page).nd.er = splitN (lfN (withP ps (ky, vl))) := by rw [zdx (by rw [Nd.er_kids, AT.nd_kids]; rfl), Nd.er_ps, AT.nd_ps]; rfl
 have hwp := zik (ky, vl) ha;have hnd2 : (b :: (pv.ownBlock.toList ++ (kv.ownBlock.toList ++ AT.fpL []))).Nodup := by rw [AT.fp] at hnd; exact hnd
 have hbp : pv.ownBlock ≠ some b := fun e => by have := (List.nodup_cons.1 hnd2).1;rw [e] at this; simp at this
 have hbk : kv.ownBlock ≠ some b := fun e => by have := (List.nodup_cons.1 hnd2).1;rw [e] at this; simp at this
 have hpk : ∀ g, pv.ownBlock = some g -> kv.ownBlock ≠ some g := fun g e e' => by have := (List.nodup_append.1 (List.nodup_cons.1 hnd2).2).2.2 g (by rw [e]; simp) g (by rw [e']; simp);exact this rfl
 obtain ⟨F, hF⟩ : ∃ F, findI ps ky = F := ⟨_, rfl⟩;obtain ⟨fb, hfb⟩ : ∃ F, findB ps ky = F := ⟨_, rfl⟩;have hW0 : Below w.heap.size w (w.alloc (.cells #[.string ky, .string vl] 77)) := Below.one _ _;have hfd := zhF base b true pv kv page ps ky _ (hx.belowAll hW0) (hp.belowAt hW0) ha (by omega);rw [hF, hfb] at hfd;rw [hF] at hwp;simp only at hwp;rw [hfb] at hwp;have Hfd := zhI hfd;have Hins := zhI hins;obtain ⟨N, hN⟩ : ∃ N, w.heap.size = N := ⟨_, rfl⟩;have cX := hx.cell;have lX := hx.lt;have lXN : b < N := by omega
 unfold nodeC at cX;have HX := zhI (zaI hx (zaI hp hk));have xb := Bx.new w #[.string ky, .string vl] 77;have Hxb := zhI xb;have HL := zhI h;clear hR hins hnd hfd h xb hx hp hk;go_enter Tryz.func120, Tryz.ntmps120;go_wp2_with fail;refine Hfd.out.mono ?_;rintro e W ⟨rfl, hb1⟩;have hB1 := btr hW0 hb1;have x1 := HX.out.1.belowAll hB1;have p1 := HX.out.2.1.belowAt hB1;have k1 := HX.out.2.2.belowAt hB1;have xb1 := Hxb.out.belowAll hb1;rw [hN] at xb1;clear cX lX hW0 hb1 Hfd Hxb;have cX := x1.cell;have lX := x1.lt;unfold nodeC at cX;have cB := xb1.cell;have lB := xb1.lt;cases fb with
 | true =>
  rw [if_pos rfl] at hwp;have hFl : F < ps.length := by
   unfold findB at hfb;rw [hF] at hfb;have := of_decide_eq_true hfb;rcases Nat.lt_or_ge F ps.length with h | h
   . exact h
   . rw [List.getElem?_eq_none (by omega)] at this; cases this
  obtain ⟨g, c, rfl, c0, c1, hle, hg⟩ := zb9 p1 hFl;have hgl := (p1.lt g hg).2;have Hwp := zhI hwp;have Hn := zhI hFl;obtain ⟨n, hn⟩ : ∃ n, ps.length = n := ⟨_, rfl⟩;rw [hn] at cX hFl hle;clear hF hfb hwp;go_wp2;have cQ := Lat.cells W;refine zal 7 1 #[true, true, true, true, true, true, true, false] (fun i => if i = 1 then some (annK (.pointer (some ⟨b, 0, none⟩))) else none) (by kernel_rfl) (by rfl) (by rfl) (by kernel_rfl) ?_;simp only [List.take_succ_cons, List.take_zero];refine LW.block 1 1 (by rfl) (by kernel_rfl) (by kernel_rfl) ?_;simp only [ztP]
  repeat (first | go_big_quiet_skip | (go_big_quiet_want; go_big_quiet_op; go_big_quiet_on))
  refine wpQuiet_nil ?_;refine LW.lzy _ (by rfl) (by rfl) ?_ ?_
  . intro yL _;exact zaL ((by rfl))
  intro _;simp only [Act.put, zsP]
  (try simp only [annK])
  refine LW.block 5 7 (by rfl) (by kernel_rfl) (by kernel_rfl) ?_;simp only [ztP]
  repeat (first | go_big_quiet_skip | (go_big_quiet_want; go_big_quiet_op; go_big_quiet_on))
  refine wpQuiet_nil ?_;refine LW.done ?_;intro W2 hG;have hb2 := hG.below;have hB2 := btr hB1 hb2;have x2 := x1.belowAll hb2;have p2 := p1.belowAt hb2;have k2 := k1.belowAt hb2;have d0 : W2.cell? ⟨g, F * 2, none⟩ = some (.string ps[F].1) := by rw [hb2.cell hgl]; exact c0
  have d1 : W2.cell? ⟨g, F * 2 + 1, none⟩ = some (.string ps[F].2) := by rw [hb2.cell hgl]; exact c1
  have f0 := p2.free (F * 2);have f1 := p2.free (F * 2 + 1);have l2 : g < W2.heap.size := znL hgl hb2.size;have hgb : g ≠ b := fun e => hbp (by rw [e]; rfl);have HM : Hid (Mut base w ((W2.setCell ⟨g, F * 2, none⟩ (.string ky)).setCell ⟨g, F * 2 + 1, none⟩ (.string vl)) (.mk b (.slice (some ⟨g, 0, none⟩) ps.length c) kv ps [] page) (.mk b (.slice (some ⟨g, 0, none⟩) ps.length c) kv (ps.set F (ky, vl)) [] page)) := zhI (by
   refine ⟨rfl, ?_, by rw [AT.fp]; exact hnd2, fun y hy => .inl (by rw [AT.fp] at hy |-; exact hy), ?_⟩
   .
    refine .mk _ _ _ _ _ _ hbb ?_ ?_ ?_ (fun _ h => by cases h)
    . exact (x2.setO (a := ⟨g, F * 2, none⟩) (fun e => hgb e.symm) _).setO (a := ⟨g, F * 2 + 1, none⟩) (fun e => hgb e.symm) _
    . rw [List.length_set, zl9 Hn.out];exact p2.set2 Hn.out _ _
    . refine k2.same fun y hy => ?_;have hyg : y ≠ g := fun e => hpk g rfl (by rw [<- e]; exact hy);exact (Below.heap_setCell _ ⟨g, F * 2 + 1, none⟩ _ y hyg).trans (Below.heap_setCell _ ⟨g, F * 2, none⟩ _ y hyg)
   .
    have hgm : g ∈ (AT.mk b (.slice (some ⟨g, 0, none⟩) ps.length c) kv ps [] page).fp := by rw [AT.fp]; simp [Value.ownBlock]
    exact (((KeepB.refl _ w).of_below hB2).set (b := g) (k := F * 2) hgm).set (b := g) (k := F * 2 + 1) hgm)
  clear hG cQ hb2 cX lX c0 c1 x2 p2 k2 hpk;refine wpAny_ready (rs := [7]) (by kernel_rfl) (by simp) ?_;refine AllReady.cons rfl (fun K hK => ?_) AllReady.nil;go_simp;refine hK _ _ ?_;clear hK K;refine wpAny_done (by kernel_rfl) ?_ _;go_wp2;rw [<- HR.out];refine ⟨_, none, rfl, HM.out, ?_, ?_, fun s hs => by cases hs⟩
  . rw [Hins.out, Hwp.out, za5 (by rw [List.length_set]; exact h3), Nd.er_eq, AT.nd_ps, AT.nd_kids]; rfl
  . rw [Hins.out, Hwp.out, za5 (by rw [List.length_set]; exact h3)]; rfl
 | false =>
  rw [if_neg (by decide)] at hwp;have hFle : F <= ps.length := by rw [<- hF]; exact zee _ _
  obtain ⟨q, hq⟩ : ∃ q, ps.take F ++ (ky, vl) :: ps.drop F = q := ⟨_, rfl⟩;have Hql : Hid (q.length = ps.length + 1) := zhI (by rw [<- hq]; exact zmH _ hFle _);have Hqc : Hid (kvsC q = (kvsC ps).take (F * 2) ++ [.string ky, .string vl] ++ (kvsC ps).drop (F * 2)) := zhI (by rw [<- hq]; exact zlf _ _ _);rw [hq] at hwp;have Hwp := zhI hwp;obtain ⟨n, hn⟩ : ∃ n, ps.length = n := ⟨_, rfl⟩;have Hn := zhI hn;have Hlt : Hid (∀ y ∈ (AT.mk b pv kv ps [] page).fp, y < w.heap.size) := zhI (by
   intro y hy;exact ((HL.out.lt y hy).2))
  have Hle := zhI hFle;clear hF hfb hwp hq hn hFle;go_wp2;have cQ := Lat.cells W;refine zbD (by kernel_rfl) (.tmp 0) (.pointer (some ⟨b, 0, none⟩)) rfl rfl rfl (by kernel_rfl) (by kernel_rfl) (by kernel_rfl) (fun _ _ _ h => h) ?_;simp only [Act.put, zsP];refine zgh (W0 := W) 1 8 4 #[true, true, true, true, true, true, true, true, false, false, false, false] (fun i => if i = 2 then some (annK (.pointer (some ⟨b, 0, none⟩))) else if i = 7 then some (zdY 1 [.string ky, .string vl] 77) else none) (by rfl) (by decide) (by rfl) (by rfl) (by kernel_rfl) (Below.refl _ _).drew ?_;simp only [List.drop_succ_cons, List.drop_zero, List.take_succ_cons, List.take_zero];refine LW.block 1 2 (by rfl) (by kernel_rfl) (by kernel_rfl) ?_;simp only [ztP]
  repeat (first | go_big_quiet_skip | (go_big_quiet_want; go_big_quiet_op; go_big_quiet_on))
  refine wpQuiet_nil ?_;refine LW.lzy _ (by rfl) (by rfl) ?_ ?_
  . intro yL _;exact zaL ((by rfl))
  intro _;simp only [Act.put, zsP]
  (try simp only [annK])
  refine LW.block 4 7 (by rfl) (by kernel_rfl) (by kernel_rfl) ?_;simp only [ztP]
  repeat (first | go_big_quiet_skip | (go_big_quiet_want; go_big_quiet_op; go_big_quiet_on))
  refine wpQuiet_nil ?_;refine LW.lzy _ (by rfl) (by rfl) ?_ ?_
  . intro yL hf;unfold lzAt;go_simp;exact ⟨Below.one _ _, fun _ => undef, rfl, fun w'' hb => (Bx.new yL.w _ _).belowAll hb⟩
  intro r7;simp only [Act.put, zsP];refine LW.done ?_;intro W2 hG;have h7 : Bx W2 r7.lo #[.string ky, .string vl] 77 := hG.get 7 rfl rfl;have r7g := (hG.range 7 r7 rfl).1;have hb2 := hG.below;have hB2 := btr hB1 hb2;have x2 := x1.belowAll hb2;have p2 := p1.belowAt hb2;have k2 := k1.belowAt hb2;have hne : pv.ownBlock ≠ some r7.lo := fun e => by have := (p1.lt _ e).2; omega
  have hbN2 : base <= W2.heap.size := by have := hB2.size; omega
  have Hpk := zhI hpk;have hin := zk0 base pv ps.length (kvsC ps) W2 p2 F Hle.out r7.lo [.string ky, .string vl] rfl h7 hne (zb4 _) (by intro u hu; simp at hu; rcases hu with rfl | rfl <;> rfl) (by omega) hbN2
  have Hin := zhI hin;have X2 := zhI (zaI x2 (zaI p2 (zaI k2 hB2)));simp only [zdY];clear hG cQ hb2 cX lX hB2 x2 p2 k2 hin hpk;refine wpAny_ready (rs := [8]) (by kernel_rfl) (by simp) ?_;refine AllReady.cons rfl (fun K hK => ?_) AllReady.nil;go_simp;refine Hin.out.mono ?_;rintro e W3 ⟨v', rfl, hp3, hg3, hv3⟩;refine hK _ _ ?_;clear hK K;simp only [zsP];rw [<- Hqc.out, Hn.out] at hp3;obtain ⟨gv, cv, rfl, hgvb, hgvl, hgvc, hgvm⟩ := hp3.pos (Nat.succ_pos _);have hgb : gv ≠ b := fun e => by
   rcases hv3 with h | h
   . exact hbp (by rw [<- h, <- e]; rfl)
   .
    have h1 : gv = W2.heap.size := by simpa [Value.ownBlock] using h
    have := X2.out.1.lt;omega
  have x3 := X2.out.1.grown hg3 (fun e => hbp e.symm);have k3 := X2.out.2.2.1.same fun y hy => hg3.block y (X2.out.2.2.1.lt y hy).2 (fun e => Hpk.out y e.symm hy);have HK : Hid (KeepB (AT.mk b pv kv ps [] page).fp w W3) := zhI (((KeepB.refl _ w).of_below X2.out.2.2.2).growL hg3 (fun r hr => .inl (by rw [AT.fp, hr]; simp)));have Hv3 : Hid ((Value.slice (some ⟨gv, 0, none⟩) (n + 1) cv).ownBlock = pv.ownBlock \/ ∃ M, w.heap.size <= M /\ (Value.slice (some ⟨gv, 0, none⟩) (n + 1) cv).ownBlock = some M) := zhI (by
   rcases hv3 with h | h
   . exact .inl h
   . exact .inr ⟨_, X2.out.2.2.2.size, h⟩)
  have c3 : W3.cell? ⟨b, 1, none⟩ = some pv := by rw [x3.cell]; rfl
  have f3 : W3.frozen? ⟨b, 1, none⟩ = false := x3.free 1;have x4 : Bx (W3.setCell ⟨b, 1, none⟩ (.slice (some ⟨gv, 0, none⟩) (n + 1) cv)) b (nodeC true (.slice (some ⟨gv, 0, none⟩) (n + 1) cv) kv page) 129 := x3.set 1 _;have p4 : RowO (W3.setCell ⟨b, 1, none⟩ (.slice (some ⟨gv, 0, none⟩) (n + 1) cv)) base 77 2 (.slice (some ⟨gv, 0, none⟩) (n + 1) cv) (n + 1) (kvsC q) := hp3.same fun y hy => by
   have hy' : gv = y := by simpa [Value.ownBlock] using hy
   subst hy';exact Below.heap_setCell _ ⟨b, 1, none⟩ _ _ hgb
  have k4 : RowO (W3.setCell ⟨b, 1, none⟩ (.slice (some ⟨gv, 0, none⟩) (n + 1) cv)) base 88 1 kv 0 [] := k3.same fun y hy => by have hyb : y ≠ b := fun e => hbk (by rw [<- e]; exact hy);exact Below.heap_setCell _ ⟨b, 1, none⟩ _ _ hyb
  have HK4 : Hid (KeepB (AT.mk b pv kv ps [] page).fp w (W3.setCell ⟨b, 1, none⟩ (.slice (some ⟨gv, 0, none⟩) (n + 1) cv))) := zhI (HK.out.set (by rw [AT.fp]; simp));have HX4 := zhI (zaI x4 (zaI p4 k4));clear x4 p4 k4 hv3 hg3 hp3 k3 x3 HK;refine wpAny_ready (rs := [9]) (by kernel_rfl) (by simp) ?_;refine AllReady.cons rfl (fun K hK => ?_) AllReady.nil;go_simp;refine hK _ _ ?_;clear hK K;refine wpAny_ready (rs := [10]) (by kernel_rfl) (by simp) ?_;refine AllReady.cons rfl (fun K hK => ?_) AllReady.nil;go_simp;refine hK _ _ ?_;clear hK K;refine wpAny_ready (rs := [11]) (by kernel_rfl) (by simp) ?_;refine AllReady.cons rfl (fun K hK => ?_) AllReady.nil;go_simp;refine hK _ _ ?_;clear hK K;refine wpAny_done (by kernel_rfl) ?_ _;generalize W3.setCell ⟨b, 1, none⟩ (.slice (some ⟨gv, 0, none⟩) (n + 1) cv) = W4 at *;clear c3 f3 hgvl h7 r7g hne hbN2 cB lB hB1 Hin X2;have cX := HX4.out.1.cell;have lX := HX4.out.1.lt;unfold nodeC at cX
  by_cases hsm : n + 1 <= 3
  .
   go_wp2;rw [<- HR.out];have hM := zeh hnd2 Hlt.out hbb HX4.out.1 (by rw [Hql.out, Hn.out]; exact HX4.out.2.1) HX4.out.2.2 Hv3.out HK4.out;refine ⟨_, none, rfl, hM, ?_, ?_, fun s hs => by cases hs⟩
   . rw [Hins.out, Hwp.out, za5 (by rw [Hql.out, Hn.out]; exact hsm), Nd.er_eq, AT.nd_ps, AT.nd_kids]; rfl
   . rw [Hins.out, Hwp.out, za5 (by rw [Hql.out, Hn.out]; exact hsm)]; rfl
  .
   obtain rfl : n = 3 := by have := Hn.out; omega
   have hcv2 : cv ≠ 2 := by omega
   have Hq4 : Hid (q.length = 4) := zhI (by rw [Hql.out, Hn.out]);have hcl : (kvsC (q.drop 2)).length = 2 * 2 := by rw [zcu, List.length_drop, Hq4.out]
   have hr4 : RowAt (fun g => (Value.slice (some ⟨gv, 0, none⟩) (3 + 1) cv).ownBlock = some g) W4 (some ⟨gv, 4, none⟩) (kvsC (q.drop 2)) := by
    obtain ⟨o, c, h1, -, h2⟩ := HX4.out.2.1.at;obtain ⟨rfl, rfl⟩ : some ⟨gv, 0, none⟩ = o /\ cv = c := by simpa using h1
    have h3 := h2.cut 4 4;rw [show (kvsC q).drop 4 = kvsC (q.drop 2) from (zeI q 2).symm, List.take_of_length_le (by rw [hcl]; exact Nat.le_refl _)] at h3;exact h3
   have Hcl := zhI (zdK W4 ⟨gv, 4, none⟩ 2 (cv - 2) (kvsC (q.drop 2)) hcl hr4 (zb4 _) (by decide));clear hr4;go_wp2_with fail;refine Hcl.out.mono ?_;rintro e W5 ⟨v5, rfl, ho5, hb5⟩;clear Hcl cX lX;obtain ⟨g5, c5, rfl, hg5b, hg5l, -, -⟩ := (RowO.own ho5).pos (by decide);have x5 := HX4.out.1.belowAll hb5;have cX := x5.cell;have lX := x5.lt;unfold nodeC at cX;have f6 : (W5.alloc (.cells #[.bool true, .slice (some ⟨g5, 0, none⟩) 2 c5, .slice none 0 0, .int .i64 0] 129)).frozen? ⟨b, 1, none⟩ = false := (x5.alloc _).free 1;have hbP : b < W5.heap.size := lX;have hgP : gv < W5.heap.size := znL ((HX4.out.2.1.lt gv rfl).2) hb5.size;have hsz := hb5.size;obtain ⟨W6, hW6⟩ : ∃ W6, W5.alloc (.cells #[.bool true, .slice (some ⟨g5, 0, none⟩) 2 c5, .slice none 0 0, .int .i64 0] 129) = W6 := ⟨_, rfl⟩;have hB6 : Below W5.heap.size W5 W6 := by rw [<- hW6]; exact Below.one _ _
   have hP6 : Bx W6 W5.heap.size #[.bool true, .slice (some ⟨g5, 0, none⟩) 2 c5, .slice none 0 0, .int .i64 0] 129 := by rw [<- hW6]; exact Bx.new W5 _ _
   have x6 := x5.belowAll hB6;have p6 := (HX4.out.2.1.belowAt hb5).belowAt hB6;have k6 := (HX4.out.2.2.belowAt hb5).belowAt hB6;have o6 := (RowO.own (zaE ho5 (znT hbw HK4.out.2.2.2.1))).belowAt hB6;have hK6 := (HK4.out.of_below hb5).of_below hB6;have hlt4 : ∀ y ∈ (AT.mk b (.slice (some ⟨gv, 0, none⟩) 2 2) kv (q.take 2) [] page).fp, y < W4.heap.size := by
    intro y hy;rw [AT.fp] at hy;rcases zmC.1 hy with h | h
    . rw [h]; exact HX4.out.1.lt
    .
     rcases zmA.1 h with h | h
     .
      have h' : y = gv := by simpa [Value.ownBlock] using h
      rw [h']; exact (HX4.out.2.1.lt gv rfl).2
     .
      rcases zmA.1 h with h | h
      . exact (HX4.out.2.2.lt y (by simpa using h)).2
      . simp [AT.fpL] at h
   have h6b : W5.heap.size ≠ b := fun e => by omega
   have h5b : g5 ≠ b := fun e => by have := HX4.out.1.lt; omega
   have x7 : Bx (W6.setCell ⟨b, 1, none⟩ (.slice (some ⟨gv, 0, none⟩) 2 2)) b (nodeC true (.slice (some ⟨gv, 0, none⟩) 2 2) kv page) 129 := x6.set 1 _;have p7 : RowO (W6.setCell ⟨b, 1, none⟩ (.slice (some ⟨gv, 0, none⟩) 2 2)) base 77 2 (.slice (some ⟨gv, 0, none⟩) 2 2) (q.take 2).length (kvsC (q.take 2)) := by
    rw [show (q.take 2).length = 2 by rw [List.length_take, Hq4.out]; rfl, zeJ];refine (p6.cut (m := 2) (by decide)).same fun y hy => ?_;have hy' : gv = y := by simpa [Value.ownBlock] using hy
    subst hy';exact Below.heap_setCell _ ⟨b, 1, none⟩ _ _ hgb
   have k7 : RowO (W6.setCell ⟨b, 1, none⟩ (.slice (some ⟨gv, 0, none⟩) 2 2)) base 88 1 kv 0 [] := k6.same fun y hy => by have hyb : y ≠ b := fun e => hbk (by rw [<- e]; exact hy);exact Below.heap_setCell _ ⟨b, 1, none⟩ _ _ hyb
   have o7 : RowO (W6.setCell ⟨b, 1, none⟩ (.slice (some ⟨gv, 0, none⟩) 2 2)) base 77 2 (.slice (some ⟨g5, 0, none⟩) 2 c5) (q.drop 2).length (kvsC (q.drop 2)) := by
    rw [show (q.drop 2).length = 2 by rw [List.length_drop, Hq4.out]];refine o6.same fun y hy => ?_;have hy' : g5 = y := by simpa [Value.ownBlock] using hy
    subst hy';exact Below.heap_setCell _ ⟨b, 1, none⟩ _ _ h5b
   have hP7 : Bx (W6.setCell ⟨b, 1, none⟩ (.slice (some ⟨gv, 0, none⟩) 2 2)) W5.heap.size (nodeC true (.slice (some ⟨g5, 0, none⟩) 2 c5) (.slice none 0 0) 0) 129 := hP6.setO (a := ⟨b, 1, none⟩) h6b _;have hK7 : KeepB (AT.mk b pv kv ps [] page).fp w (W6.setCell ⟨b, 1, none⟩ (.slice (some ⟨gv, 0, none⟩) 2 2)) := hK6.set (by rw [AT.fp]; simp);have hM := zeh hnd2 Hlt.out hbb x7 p7 k7 Hv3.out hK7;have hz0 : w.heap.size <= W4.heap.size := HK4.out.2.2.2.1;have HF := zhI (zaI hM (zaI hP7 (zaI o7 hlt4)));have HW6 := zhI hW6;have Hsz := zhI hsz;clear x6 p6 k6 o6 hK6 hlt4 x7 p7 k7 o7 hP7 hK7 hM hP6 hB6 hW6 hsz hgP hbP x5;go_wp2;rw [<- World.setCell_alloc_past _ _ _ _ lX, HW6.out, <- HR.out];have hsz := Hsz.out;obtain ⟨hM, hP7, o7, hlt4⟩ := HF.out;refine ⟨_, some (.mk W5.heap.size (.slice (some ⟨g5, 0, none⟩) 2 c5) (.slice none 0 0) (q.drop 2) [] 0), rfl, hM, ?_, ?_, ?_⟩
   . rw [Hins.out, Hwp.out, zcs (by rw [Hq4.out]; decide), Nd.er_eq, AT.nd_ps, AT.nd_kids]; rfl
   . rw [Hins.out, Hwp.out, zcs (by rw [Hq4.out]; decide)];simp only [Option.map_some];rw [Nd.er_eq, AT.nd_ps, AT.nd_kids]; rfl
   .
    intro s hs;cases hs;have hfp : ∀ y ∈ (AT.mk W5.heap.size (.slice (some ⟨g5, 0, none⟩) 2 c5) (.slice none 0 0) (q.drop 2) [] 0).fp, y = W5.heap.size \/ y = g5 := by intro y hy;rw [AT.fp] at hy;simpa [Value.ownBlock, AT.fpL] using hy
    refine ⟨.mk _ _ _ _ _ _ (by omega) hP7 o7 ⟨rfl, .inl ⟨rfl, rfl⟩⟩ (fun _ h => by cases h), ?_, ?_, ?_⟩
    . rw [AT.fp];simp [Value.ownBlock, AT.fpL];omega
    . intro y hy;rcases hfp y hy with h | h <;> right <;> omega
    . intro y hy hy2;have h4 := hlt4 y hy2;rcases hfp y hy with h | h <;> omega
theorem zaQ (a b : List AT) : AT.fpL (a ++ b) = AT.fpL a ++ AT.fpL b := by
 simp [AT.fpL_eq]
theorem za1 (c : AT) (l : List AT) : AT.fpL (c :: l) = c.fp ++ AT.fpL l := rfl
theorem zaZ {b : Nat} {P K L : List Nat} : (b :: (P ++ (K ++ L))).Nodup ↔ (P.Nodup /\ K.Nodup /\ L.Nodup) /\ (b ∉ P /\ b ∉ K /\ b ∉ L) /\ (∀ x ∈ P, x ∉ K) /\ (∀ x ∈ P, x ∉ L) /\ (∀ x ∈ K, x ∉ L) := by
 simp only [List.nodup_cons, List.nodup_append, zmA, not_or];constructor
 . rintro ⟨⟨h1, h2, h3⟩, h4, ⟨h5, h6, h7⟩, h8⟩;exact ⟨⟨h4, h5, h6⟩, ⟨h1, h2, h3⟩, fun x hx hk => h8 x hx x (.inl hk) rfl, fun x hx hk => h8 x hx x (.inr hk) rfl, fun x hx hk => h7 x hx x hk rfl⟩
 .
  rintro ⟨⟨h4, h5, h6⟩, ⟨h1, h2, h3⟩, h7, h8, h9⟩;refine ⟨⟨h1, h2, h3⟩, h4, ⟨h5, h6, fun x hx y hy e => h9 x hx (e ▸ hy)⟩, fun x hx y hy e => ?_⟩;subst e;rcases hy with hy | hy
  . exact h7 x hx hy
  . exact h8 x hx hy
theorem zgb {l1 l2 X : List AT} {c : AT} {z : Nat} (hnd : (AT.fpL (l1 ++ c :: l2)).Nodup) (hlt : ∀ y ∈ AT.fpL (l1 ++ c :: l2), y < z) (hX : (AT.fpL X).Nodup) (hXs : ∀ y ∈ AT.fpL X, y ∈ c.fp \/ z <= y) :
  (AT.fpL (l1 ++ (X ++ l2))).Nodup /\ ∀ y ∈ AT.fpL (l1 ++ (X ++ l2)), y ∈ AT.fpL (l1 ++ c :: l2) \/ z <= y := by
 simp only [zaQ, za1, List.nodup_append, zmA] at hnd hlt |-;obtain ⟨h1, ⟨h2, h3, h4⟩, h5⟩ := hnd;refine ⟨⟨h1, ⟨hX, h3, ?_⟩, ?_⟩, ?_⟩
 .
  intro x hx y hy e;rcases hXs x hx with h | h
  . exact h4 x h y hy e
  . have := hlt y (.inr (.inr hy)); omega
 .
  intro x hx y hy e;rcases hy with hy | hy
  .
   rcases hXs y hy with h | h
   . exact h5 x hx y (.inl h) e
   . have := hlt x (.inl hx); omega
  . exact h5 x hx y (.inr hy) e
 .
  intro y hy;rcases hy with h | h | h
  . exact .inl (.inl h)
  .
   rcases hXs y h with h | h
   . exact .inl (.inr (.inl h))
   . exact .inr h
  . exact .inl (.inr (.inr h))
theorem zco {base : Nat} {w A : World} {b : Nat} {pv kv kv' : Value} {ps : List Kv} {kids kids' : List AT} {page : Int} (hnd : (AT.mk b pv kv ps kids page).fp.Nodup) (hlt : ∀ y ∈ (AT.mk b pv kv ps kids page).fp, y < w.heap.size) (hb : base <= b) (hne : kids' ≠ [])
  (hx : Bx A b (nodeC false pv kv' page) 129) (hp : RowO A base 77 2 pv ps.length (kvsC ps)) (hk : RowO A base 88 1 kv' kids'.length (kids'.map AT.ptr)) (hc : ∀ c ∈ kids', Lies base A c)
  (hv : kv'.ownBlock = kv.ownBlock \/ ∃ M, w.heap.size <= M /\ kv'.ownBlock = some M /\ M ∉ AT.fpL kids') (hkn : (AT.fpL kids').Nodup) (hks : ∀ y ∈ AT.fpL kids', y ∈ AT.fpL kids \/ w.heap.size <= y)
  (hK : KeepB (AT.mk b pv kv ps kids page).fp w A) : Mut base w A (.mk b pv kv ps kids page) (.mk b pv kv' ps kids' page) := by
 have hem : kids'.isEmpty = false := by cases kids' <;> simp_all
 have hbl := hlt b (by rw [AT.fp]; simp);rw [AT.fp] at hnd;obtain ⟨⟨n1, n2, n3⟩, ⟨m1, m2, m3⟩, d1, d2, d3⟩ := zaZ.1 hnd;have hPl : ∀ y ∈ pv.ownBlock.toList, y < w.heap.size := fun y hy => hlt y (by rw [AT.fp]; exact List.mem_cons_of_mem _ (List.mem_append_left _ hy));have hKl : ∀ y ∈ kv.ownBlock.toList, y < w.heap.size := fun y hy => hlt y (by rw [AT.fp]; exact List.mem_cons_of_mem _ (List.mem_append_right _ (List.mem_append_left _ hy)));refine ⟨rfl, .mk _ _ _ _ _ _ hb (by rw [hem]; exact hx) hp hk hc, ?_, ?_, hK⟩
 .
  rw [AT.fp];have hbL : b ∉ AT.fpL kids' := fun h => by
   rcases hks b h with h | h
   . exact m3 h
   . omega
  have hPL : ∀ x ∈ pv.ownBlock.toList, x ∉ AT.fpL kids' := fun x hx h => by
   rcases hks x h with h | h
   . exact d2 x hx h
   . have := hPl x hx; omega
  refine zaZ.2 ⟨⟨n1, ?_, hkn⟩, ⟨m1, ?_, hbL⟩, ?_, hPL, ?_⟩
  . cases kv'.ownBlock <;> simp
  .
   rcases hv with h | ⟨M, hM, h, hn⟩
   . rw [h]; exact m2
   . rw [h]; simp; omega
  .
   rcases hv with h | ⟨M, hM, h, hn⟩
   . rw [h]; exact d1
   . rw [h]; intro x hx; have := hPl x hx; simp; omega
  .
   rcases hv with h | ⟨M, hM, h, hn⟩
   .
    rw [h];intro x hx hm;rcases hks x hm with h | h
    . exact d3 x hx h
    . have := hKl x hx; omega
   . rw [h]; intro x hx; simp at hx; rw [hx]; exact hn
 .
  intro x hx;rw [AT.fp] at hx |-;rcases zmC.1 hx with h | h
  . exact .inl (by rw [h]; simp)
  .
   rcases zmA.1 h with h | h
   . exact .inl (List.mem_cons_of_mem _ (List.mem_append_left _ h))
   .
    rcases zmA.1 h with h | h
    .
     rcases hv with h1 | ⟨M, hM, h1, _⟩
     . rw [h1] at h; exact .inl (List.mem_cons_of_mem _ (List.mem_append_right _ (List.mem_append_left _ h)))
     . rw [h1] at h; simp at h; exact .inr (by omega)
    .
     rcases hks x h with h | h
     . exact .inl (List.mem_cons_of_mem _ (List.mem_append_right _ (List.mem_append_right _ h)))
     . exact .inr h
theorem RowO.keepB {L : List Nat} {w w' : World} {base k n : Nat} {e : TypeId} {v : Value} {xs : List Value} (h : RowO w base e k v n xs) (hK : KeepB L w w') (hv : ∀ g, v.ownBlock = some g -> g ∉ L) : RowO w' base e k v n xs :=
 h.same fun g hg => hK.2.2.2.2 g (h.lt g hg).2 (hv g hg)
theorem zdI (l : List AT) {i : Nat} (h : i < l.length) : l = l.take i ++ l[i] :: l.drop (i + 1) := by
 rw [List.getElem_cons_drop, List.take_append_drop]
theorem zbG {l : List Nd} (h0 : l ≠ []) (h : l.length <= 8) : splitN (inN l) = (inN l, none) := by
 unfold splitN;rw [if_neg (show ¬ (inN l).kids = [] from h0), if_neg (show ¬ 8 < (inN l).kids.length by show ¬ 8 < l.length; omega)]
theorem zbz {l : List Nd} (h0 : l ≠ []) (h : 8 < l.length) : splitN (inN l) = (inN (l.take 5), some (inN (l.drop 5))) := by
 unfold splitN;rw [if_neg (show ¬ (inN l).kids = [] from h0), if_pos (show 8 < (inN l).kids.length from h)];rfl
theorem Asc.kid {n : Nd} (h : Asc n.prs) {k : Nd} (hk : k ∈ n.kids) : Asc k.prs := by
 have hne : n.kids ≠ [] := List.ne_nil_of_mem hk;rw [Nd.prs_inner hne] at h;refine h.sub ?_;exact (List.sublist_flatten_of_mem (List.mem_map.2 ⟨k, hk, rfl⟩))
end Go.Proofs.YtlefmmhlpgmbjaaGreat
