/- quiltref42.load. -/
import Derived.Test.YtlefmmhlpgmbjaaGreatS08
import Derived.Test.YtlefmmhlpgmbjaaGreatS09
import Derived.Test.YtlefmmhlpgmbjaaGreatS21
import Derived.Test.YtlefmmhlpgmbjaaGreatS01
namespace Go.Proofs.YtlefmmhlpgmbjaaGreat
set_option maxRecDepth 100000
open Go.RowKit
def zcO (B0 : Nat) (uv : Value) (o : Option (Nd × List Int)) (w : World) (e : Ending) (w' : World) : Prop :=
 w.grownBy w' uv.ownBlock /\ ∃ po pn pc ko kn kc pg uo un uc, e = .returned (.tuple #[.agg #[.slice po pn pc, .slice ko kn kc, .int .i64 pg], .slice uo un uc, .bool o.isSome]) /\
  ∀ n u, o = some (n, u) -> w'.ownsRow B0 3 1 (.slice uo un uc) u.length (intsV u) /\ ((Value.slice uo un uc).ownBlock = uv.ownBlock \/ ∀ b, (Value.slice uo un uc).ownBlock = some b -> w.heap.size <= b) /\
   NdS (fun b => w.heap.size <= b /\ b < w'.heap.size /\ (Value.slice uo un uc).ownBlock ≠ some b) w' [.slice po pn pc, .slice ko kn kc, .int .i64 pg] n
def ziJ (B0 : Nat) (d : Dsk) (frm til : Int) (f : Nat) : Prop := ∀ (page : Int) (used : List Int) (v : Value) (uo : Option Addr) (uc : Nat) (w : World), DskR (· < B0) w v d -> B0 <= w.heap.size -> w.ownsRow B0 3 1 (.slice uo used.length uc) used.length (intsV used) ->
 zaV frm til used -> (til - frm - 2).toNat < f + used.length -> PgOk page ->
 Calls Tryz.prog 55 #[v, .int .i64 frm, .int .i64 til, .int .i64 page, .slice uo used.length uc] w (zcO B0 (.slice uo used.length uc) (loadR d frm til f page used) w)
structure KidF (B0 : Nat) (wr : World) (uv : Option Nat) (kb : Nat) (bx : Array Value) (kc : List Value) (v : Value) (o : Option (Nd × List Int)) (W : World) : Prop where
 g : wr.grownBy W uv
 k1 : wr.heap.size <= kb
 k2 : Bx W kb bx 95
 res : ∀ n u, o = some (n, u) -> W.ownsRow B0 3 1 v u.length (intsV u) /\ (v.ownBlock = uv \/ ∀ b, v.ownBlock = some b -> wr.heap.size <= b) /\ v.ownBlock ≠ some kb /\ NdS (fun b => wr.heap.size <= b /\ b < W.heap.size /\ b ≠ kb /\ v.ownBlock ≠ some b) W kc n
theorem KidF.put {B0 : Nat} {wr : World} {uv : Option Nat} {kb : Nat} {z0 z1 z2 c0 c1 c2 : Value} {kc : List Value} {v : Value} {o : Option (Nd × List Int)} {W : World} (h : KidF B0 wr uv kb #[z0, z1, z2] kc v o W) :
  KidF B0 wr uv kb #[c0, c1, c2] kc v o (((W.setCell ⟨kb, 0, none⟩ c0).setCell ⟨kb, 1, none⟩ c1).setCell ⟨kb, 2, none⟩ c2) := by
 have hk := h.k1;have zB : Below wr.heap.size W (((W.setCell ⟨kb, 0, none⟩ c0).setCell ⟨kb, 1, none⟩ c1).setCell ⟨kb, 2, none⟩ c2) := zaa (zaa (zaa (Below.refl _ _) hk) hk) hk;have hs : ∀ b, b ≠ kb -> (((W.setCell ⟨kb, 0, none⟩ c0).setCell ⟨kb, 1, none⟩ c1).setCell ⟨kb, 2, none⟩ c2).heap[b]? = W.heap[b]? := fun b hb =>
  (Below.heap_setCell _ ⟨kb, 2, none⟩ _ _ hb).trans ((Below.heap_setCell _ ⟨kb, 1, none⟩ _ _ hb).trans (Below.heap_setCell _ ⟨kb, 0, none⟩ _ _ hb))
 refine ⟨⟨zB.os.trans h.g.os, zB.tape.trans h.g.tape, zB.output.trans h.g.output, znT h.g.size zB.size, fun j hj hn => (zB.block j hj).trans (h.g.block j hj hn)⟩, hk, ?_, fun n u e => ?_⟩
 . have := ((h.k2.set 0 c0).set 1 c1).set 2 c2;simpa using this
 . obtain ⟨r1, r2, r3, r4⟩ := h.res n u e;refine ⟨zac (a := ⟨kb, 2, none⟩) (zac (a := ⟨kb, 1, none⟩) (zac (a := ⟨kb, 0, none⟩) r1 r3 _) r3 _) r3 _, r2, r3, r4.same (fun b hb => hs b hb.2.2.1) fun b hb => ⟨hb.1, by simpa using hb.2.1, hb.2.2⟩⟩
theorem KidF.late {B0 : Nat} {wr W5 Wd : World} {uv : Option Nat} {kc : List Value} {v : Value} {o : Option (Nd × List Int)} {z : Array Value} (hb : Below wr.heap.size wr W5) (hg : W5.grownBy Wd uv)
  (hr : ∀ n u, o = some (n, u) -> Wd.ownsRow B0 3 1 v u.length (intsV u) /\ (v.ownBlock = uv \/ ∀ b, v.ownBlock = some b -> W5.heap.size <= b) /\ NdS (fun b => W5.heap.size <= b /\ b < Wd.heap.size /\ v.ownBlock ≠ some b) Wd kc n) :
  KidF B0 wr uv Wd.heap.size z kc v o (Wd.alloc (.cells z 95)) := by
 have hz := hb.size;refine ⟨((grownBy_below hb (Nat.le_refl _) _).trans hg).trans (World.grownBy_alloc _ _ _), znT hz hg.size, Bx.new _ _ _, fun n u e => ?_⟩;obtain ⟨r1, r2, r3⟩ := hr n u e;refine ⟨r1.alloc _, r2.imp id fun h b hb' => znT hz (h b hb'), fun e => by have := (r1.lt _ e).2; omega, r3.same (fun b hb' => Below.heap_alloc _ _ b hb'.2.1) fun b hb' => ⟨by omega, by simp; omega, by omega, hb'.2.2⟩⟩
theorem KidF.early {B0 : Nat} {wr W5 Wd : World} {uv : Option Nat} {kc : List Value} {v : Value} {o : Option (Nd × List Int)} {z : Array Value} (hb : Below wr.heap.size wr W5) (huv : ∀ b, uv = some b -> b < wr.heap.size) (hg : (W5.alloc (.cells z 95)).grownBy Wd uv)
  (hr : ∀ n u, o = some (n, u) -> Wd.ownsRow B0 3 1 v u.length (intsV u) /\ (v.ownBlock = uv \/ ∀ b, v.ownBlock = some b -> (W5.alloc (.cells z 95)).heap.size <= b) /\ NdS (fun b => (W5.alloc (.cells z 95)).heap.size <= b /\ b < Wd.heap.size /\ v.ownBlock ≠ some b) Wd kc n) :
  KidF B0 wr uv W5.heap.size z kc v o Wd := by
 have hz := hb.size;have hs : (W5.alloc (.cells z 95)).heap.size = W5.heap.size + 1 := by simp
 rw [hs] at hr;refine ⟨((grownBy_below hb (Nat.le_refl _) _).trans (World.grownBy_alloc _ _ _)).trans hg, hz, (Bx.new W5 z 95).grown hg (fun e => by have := huv _ e.symm; omega), fun n u e => ?_⟩;obtain ⟨r1, r2, r3⟩ := hr n u e;refine ⟨r1, r2.imp id fun h b hb' => by have := h b hb'; omega, fun e => ?_, r3.same (fun b _ => rfl) fun b hb' => ⟨by omega, hb'.2.1, by omega, hb'.2.2⟩⟩;rcases r2 with h | h
 . have := huv _ (h.symm.trans e); omega
 . have := h _ e; omega
theorem zfj {frm til : Int} {g : Int -> List Int -> Option (Nd × List Int)} (hg : ∀ p u n u', g p u = some (n, u') -> zaV frm til u -> zaV frm til u' /\ u.length <= u'.length) :
  ∀ {l : List Int} {u u' : List Int} {ns : List Nd}, kidsW g l u = some (ns, u') -> zaV frm til u -> zaV frm til u' /\ u.length <= u'.length
 | [], _, _, _, h, hu => by simp only [kidsW, Option.some.injEq, Prod.mk.injEq] at h;obtain ⟨-, rfl⟩ := h;exact ⟨hu, Nat.le_refl _⟩
 | p :: r, u, u', ns, h, hu => by
  rw [kidsW] at h;split at h
  . cases h
  .
   rename_i n u1 hx
   obtain ⟨⟨m, u2⟩, hm, e⟩ := Option.map_eq_some_iff.1 h;simp only [Prod.mk.injEq] at e;obtain ⟨rfl, rfl⟩ := e;obtain ⟨a1, a2⟩ := hg _ _ _ _ hx hu;obtain ⟨b1, b2⟩ := zfj hg hm a1;exact ⟨b1, by omega⟩
theorem zb0 {d : Dsk} {frm til : Int} : ∀ (f : Nat) {page : Int} {used u : List Int} {n : Nd}, loadR d frm til f page used = some (n, u) -> zaV frm til used -> zaV frm til u /\ used.length < u.length
 | 0, _, _, _, _, h, _ => by cases h
 | f + 1, page, used, u, n, h, hu => by
  rw [loadR] at h;split at h
  . cases h
  .
   rename_i hp
   have hu2 := hu.snoc (page := page) (by omega) (by omega) fun hm => hp (.inr (.inr hm));split at h
   .
    split at h
    . cases h
    .
     split at h
     . cases h
     .
      split at h
      . simp only [Option.some.injEq, Prod.mk.injEq] at h;obtain ⟨-, rfl⟩ := h;exact ⟨hu2, by simp⟩
      . cases h
   .
    split at h
    . cases h
    .
     split at h
     . cases h
     .
      rename_i kids u1 hk
      split at h
      .
       simp only [Option.some.injEq, Prod.mk.injEq] at h;obtain ⟨-, rfl⟩ := h;obtain ⟨a1, a2⟩ := zfj (fun p u n u' hg hu' => by have := zb0 f hg hu';exact ⟨this.1, by omega⟩) hk hu2
       refine ⟨a1, ?_⟩;rw [zlA] at a2;simp at a2;omega
      . cases h
theorem zlM : (Tryz.prog.info? 95).map (fun i => (i.zero, i.size, i.bytes)) = some (some (.agg #[.slice none 0 0, .slice none 0 0, .int .i64 0]), 3, 56) := by kernel_rfl
theorem zc6 {w : World} {b b' : Nat} {e e' : TypeId} {m m' : Nat} {v v' : Value} {n n' : Nat} {xs xs' : List Value} (h : w.ownsRow b e m v n xs) (k : w.ownsRow b' e' m' v' n' xs') (hne : e ≠ e') : ∀ g, v.ownBlock = some g -> v'.ownBlock ≠ some g := by
 intro g hv hv';rcases h.2 with ⟨rfl, _⟩ | ⟨a, cap, cur, rfl, _, ha, _⟩
 . simp [Value.ownBlock] at hv
 .
  rcases k.2 with ⟨rfl, _⟩ | ⟨a', cap', cur', rfl, _, ha', _⟩
  . simp [Value.ownBlock] at hv'
  . simp [Value.ownBlock] at hv hv';subst hv hv';rw [ha] at ha';simp at ha';exact hne ha'.2
theorem zeq {w wr W : World} {uv vv : Option Nat} (hG : w.grownBy wr uv) (hg : wr.grownBy W vv) (hv : vv = uv \/ ∀ b, vv = some b -> w.heap.size <= b) : w.grownBy W uv := by
 refine ⟨hg.os.trans hG.os, hg.tape.trans hG.tape, hg.output.trans hG.output, znT hG.size hg.size, fun j hj hn => (hg.block j (znL hj hG.size) fun e => ?_).trans (hG.block j hj hn)⟩;rcases hv with h | h
 . exact hn (e.trans h)
 . have := h j e.symm; omega
theorem zjf {d : Dsk} {frm til : Int} : ∀ {f : Nat} {page : Int} {used u : List Int} {n : Nd}, loadR d frm til f page used = some (n, u) -> n.page = page /\ frm + 2 <= page /\ page < til
 | 0, _, _, _, _, h => by cases h
 | f + 1, page, used, u, n, h => by
  rw [loadR] at h;split at h
  . cases h
  .
   rename_i hp
   refine ⟨?_, by omega, by omega⟩;split at h
   .
    split at h
    . cases h
    .
     split at h
     . cases h
     .
      split at h
      . simp only [Option.some.injEq, Prod.mk.injEq] at h;obtain ⟨rfl, -⟩ := h;rfl
      . cases h
   .
    split at h
    . cases h
    .
     split at h
     . cases h
     .
      split at h
      . simp only [Option.some.injEq, Prod.mk.injEq] at h;obtain ⟨rfl, -⟩ := h;rfl
      . cases h
section
variable (B0 : Nat) (d : Dsk) (frm til : Int)
theorem zgx : ziJ B0 d frm til 0 := by
 intro page used v uo uc w hD hB hU hu hf hp
 by_cases hft : frm + 2 <= til
 . have := hu.len hft; omega
 .
  have : used = [] := by
   cases used with
   | nil => rfl
   | cons x l => have := hu.2 x (by simp); omega
  subst this;simp at hf
set_option maxHeartbeats 8000000 in
theorem zgR (f : Nat) (ih : ziJ B0 d frm til f) (hc : chk d = 0) (hfit : fits5 d frm til = true) (hfu : f <= 1000000) : ziJ B0 d frm til (f + 1) := by
 intro page used v uo uc w hD hB hU hu hf hp;obtain ⟨f1, f2, f3, f4, f5⟩ := zax hfit;have hr := zag (zaq hc).1;obtain ⟨R, hR⟩ : ∃ R, zcO B0 (.slice uo used.length uc) (loadR d frm til (f + 1) page used) w = R := ⟨_, rfl⟩;rw [hR];have HR := zhI hR;have HD := zhI hD;have HU := zhI hU;have Hih := zhI ih;obtain ⟨po, pc, co, cc, rfl⟩ := DskV.agg (hD.mono fun b h => znL h hB);have hsl : SlW uo used.length uc /\ zas (fun b => B0 <= b /\ b < w.heap.size) w uo used := by
  obtain ⟨o', c', e, hs, hrow, -⟩ := zai hU;obtain ⟨rfl, rfl⟩ : uo = o' /\ uc = c' := by simpa using e
  exact ⟨hs, zas.of_row hrow⟩
 have hul : used.length <= 1000000 := by
  by_cases hft : frm + 2 <= til
  . have := hu.len hft; omega
  .
   cases used with
   | nil => simp
   | cons x l => have := hu.2 x (by simp); omega
 have hhas : ∀ W, Below w.heap.size w W -> Calls Tryz.prog 94 #[.slice uo used.length uc, .int .i64 page] W fun e w' => e = .returned (.bool (decide (page ∈ used))) /\ w' = W := fun W hb =>
  zmp uo uc used page W (S := fun b => B0 <= b /\ b < w.heap.size) hsl.1 hul (hsl.2.same fun b h => hb.block b h.2)
 obtain ⟨bm, hbm⟩ : ∃ b, decide (page ∈ used) = b := ⟨_, rfl⟩;rw [hbm] at hhas;have Hhas := zhI hhas;have Hu := zhI hu;have Hul := zhI hul;obtain ⟨nu, hnu⟩ : ∃ n, used.length = n := ⟨_, rfl⟩;rw [hnu] at Hhas HU HR hf;have Hnu := zhI hnu;rw [hnu] at hul |-;clear hR hD hU ih hu hsl hhas hnu;obtain ⟨N, hN⟩ : ∃ N, w.heap.size = N := ⟨_, rfl⟩;cases g1 : decide (page < frm + 2);rotate_left
 .
  have g1' := of_decide_eq_true g1;have HP : Hid (loadR d frm til (f + 1) page used = none) := zhI (by rw [loadR, if_pos (.inl g1')]);go_enter Tryz.func55, Tryz.ntmps55;go_upto_region 1 with fail
  obtain ⟨W0, hW0⟩ : ∃ W0, (w.alloc (.cells #[.int .i64 512, .slice po d.pages.length pc, .slice co d.cache.length cc, .int .i64 d.left] 25)).alloc (.cells #[.slice none 0 0, .slice none 0 0, .int .i64 0] 95) = W0 := ⟨_, rfl⟩;rw [hW0];have hB0 : Below w.heap.size w W0 := by subst hW0; exact (Below.one w _).alloc (by simp) _
  have xD : Bx W0 N #[.int .i64 512, .slice po d.pages.length pc, .slice co d.cache.length cc, .int .i64 d.left] 25 := by subst hW0 hN; exact (Bx.new w _ _).alloc _
  have xR : Bx W0 (N + 1) #[.slice none 0 0, .slice none 0 0, .int .i64 0] 95 := by subst hW0 hN; exact Bx.newAt _ _ _ _ (by simp)
  clear hW0;have HB0 := zhI hB0;have cR := xR.cell;have lR := xR.lt;have fR := xR.free;clear hB0;go_wp2_with fail;refine bodyPost_ret (v := .tuple #[.agg #[.slice none 0 0, .slice none 0 0, .int .i64 0], .slice none 0 0, .bool false]) (by simp [results, Tryz.results55, go_sem, cR]) rfl ?_;rw [<- HR.out];unfold zcO;rw [HP.out];exact ⟨grownBy_below (zaa (zaa (zaa HB0.out (by omega)) (by omega)) (by omega)) (Nat.le_refl _) _, _, _, _, _, _, _, _, _, _, _, rfl, fun n u h => by cases h⟩
 have g1' := of_decide_eq_false g1;cases g2 : decide (til <= page);rotate_left
 .
  have g2' := of_decide_eq_true g2;have HP : Hid (loadR d frm til (f + 1) page used = none) := zhI (by rw [loadR, if_pos (.inr (.inl g2'))]);go_enter Tryz.func55, Tryz.ntmps55;go_upto_region 1 with fail
  obtain ⟨W0, hW0⟩ : ∃ W0, (w.alloc (.cells #[.int .i64 512, .slice po d.pages.length pc, .slice co d.cache.length cc, .int .i64 d.left] 25)).alloc (.cells #[.slice none 0 0, .slice none 0 0, .int .i64 0] 95) = W0 := ⟨_, rfl⟩;rw [hW0];have hB0 : Below w.heap.size w W0 := by subst hW0; exact (Below.one w _).alloc (by simp) _
  have xD : Bx W0 N #[.int .i64 512, .slice po d.pages.length pc, .slice co d.cache.length cc, .int .i64 d.left] 25 := by subst hW0 hN; exact (Bx.new w _ _).alloc _
  have xR : Bx W0 (N + 1) #[.slice none 0 0, .slice none 0 0, .int .i64 0] 95 := by subst hW0 hN; exact Bx.newAt _ _ _ _ (by simp)
  clear hW0;have HB0 := zhI hB0;have cR := xR.cell;have lR := xR.lt;have fR := xR.free;clear hB0;go_wp2_with fail;refine bodyPost_ret (v := .tuple #[.agg #[.slice none 0 0, .slice none 0 0, .int .i64 0], .slice none 0 0, .bool false]) (by simp [results, Tryz.results55, go_sem, cR]) rfl ?_;rw [<- HR.out];unfold zcO;rw [HP.out];exact ⟨grownBy_below (zaa (zaa (zaa HB0.out (by omega)) (by omega)) (by omega)) (Nat.le_refl _) _, _, _, _, _, _, _, _, _, _, _, rfl, fun n u h => by cases h⟩
 have g2' := of_decide_eq_false g2;cases bm with
 | true =>
  have g3' := of_decide_eq_true hbm;have HP : Hid (loadR d frm til (f + 1) page used = none) := zhI (by rw [loadR, if_pos (.inr (.inr g3'))]);clear hbm g3';go_enter Tryz.func55, Tryz.ntmps55;go_upto_region 1 with fail
  obtain ⟨W0, hW0⟩ : ∃ W0, (w.alloc (.cells #[.int .i64 512, .slice po d.pages.length pc, .slice co d.cache.length cc, .int .i64 d.left] 25)).alloc (.cells #[.slice none 0 0, .slice none 0 0, .int .i64 0] 95) = W0 := ⟨_, rfl⟩;rw [hW0];have hB0 : Below w.heap.size w W0 := by subst hW0; exact (Below.one w _).alloc (by simp) _
  have xD : Bx W0 N #[.int .i64 512, .slice po d.pages.length pc, .slice co d.cache.length cc, .int .i64 d.left] 25 := by subst hW0 hN; exact (Bx.new w _ _).alloc _
  have xR : Bx W0 (N + 1) #[.slice none 0 0, .slice none 0 0, .int .i64 0] 95 := by subst hW0 hN; exact Bx.newAt _ _ _ _ (by simp)
  clear hW0;have HB0 := zhI hB0;have cR := xR.cell;have lR := xR.lt;have fR := xR.free;clear hB0;go_wp2_with fail;refine (Hhas.out _ HB0.out).mono ?_;rintro e W2 ⟨rfl, rfl⟩;go_wp2;refine bodyPost_ret (v := .tuple #[.agg #[.slice none 0 0, .slice none 0 0, .int .i64 0], .slice none 0 0, .bool false]) (by simp [results, Tryz.results55, go_sem, cR]) rfl ?_;rw [<- HR.out];unfold zcO;rw [HP.out];exact ⟨grownBy_below (zaa (zaa (zaa HB0.out (by omega)) (by omega)) (by omega)) (Nat.le_refl _) _, _, _, _, _, _, _, _, _, _, _, rfl, fun n u h => by cases h⟩
 | false =>
  have g3' := of_decide_eq_false hbm;clear hbm;have hl := zdy hc f1 (i := page) (by omega) (by omega);have hrd := zcz hc (i := page) (by omega) (by omega);have hul2 := Hu.out.len (by omega);have hu2 := Hu.out.snoc (page := page) (by omega) (by omega) g3';obtain ⟨L, hL⟩ : ∃ L, pageL d page = L := ⟨_, rfl⟩;rw [hL] at hl hrd;obtain ⟨s, hs⟩ : ∃ s, bs L = s := ⟨_, rfl⟩;rw [hs] at hrd;have hz : s.size = 512 := by rw [<- hs, zaj, hl]
  obtain ⟨ii, hi, hz0, hz1, hz2⟩ := info_parts zf5;have Hi := zhI (zaI hi (zaI hz0 (zaI hz1 hz2)));clear hi hz0 hz1 hz2;have hP0 : loadR d frm til (f + 1) page used = (if L.getD 0 0 = 76 then
   if (L.getD 1 0).toNat < 1 \/ 3 < (L.getD 1 0).toNat then none
   else match leafP (L.getD 1 0).toNat (L.drop 2) with
    | none => none
    | some ps => if padZ (encLf ps) = L then some (.mk ps [] page, used ++ [page]) else none
   else if L.getD 0 0 ≠ 78 \/ (L.getD 1 0).toNat < 2 \/ 8 < (L.getD 1 0).toNat then none
   else match kidsW (loadR d frm til f) (zar (L.drop 2) (L.getD 1 0).toNat) (used ++ [page]) with
    | none => none
    | some (kids, u) => if padZ (encIn kids) = L then some (.mk [] kids page, u) else none) := by
   rw [loadR, if_neg (fun h => h.elim (fun h => by omega) (fun h => h.elim (fun h => by omega) g3')), hL];rfl
  have HP0 := zhI hP0;have hsg : ∀ (i : Nat) (h : i < s.size), s[i].toNat = (L.getD i 0).toNat := fun i h => by
   subst hs;have h' : i < L.length := by omega
   rw [zep _ _ h', List.getD_eq_getElem?_getD, List.getElem?_eq_getElem h']; rfl
  obtain ⟨a0, ha0⟩ : ∃ n, (L.getD 0 0).toNat = n := ⟨_, rfl⟩;obtain ⟨a1, ha1⟩ : ∃ n, (L.getD 1 0).toNat = n := ⟨_, rfl⟩;have e0 : (s[0]'(by omega)).toNat = a0 := by rw [hsg, ha0]
  have e1 : (s[1]'(by omega)).toNat = a1 := by rw [hsg, ha1]
  have b0 : a0 < 256 := by rw [<- ha0]; exact UInt8.toNat_lt _
  have b1 : a1 < 256 := by rw [<- ha1]; exact UInt8.toNat_lt _
  have Ha0 := zhI ha0;have Ha1 := zhI ha1;have hlf : ∀ W, Calls Tryz.prog 95 #[.string s] W (zjs (leafX L) W) := fun W => hs ▸ zmP L W hl;have Hlf := zhI hlf;clear hP0 hsg ha0 ha1 hlf;have HL := zhI (zaI hL (zaI hs hl));have Hu2 := zhI hu2;have Hg3 := zhI g3';clear hu2 g3' hL hs hl;rw [f1] at HD;have hre : ∀ W vv, DskV W vv d -> Calls Tryz.prog 92 #[vv, .int .i64 page] W fun e w' => e = .returned (.tuple #[.string s, .int .i64 0]) /\ Below W.heap.size W w' := fun W vv h => by have := zdM d vv page W h;rw [hrd] at this;exact this
  have Hre := zhI hre;clear hre hrd;have hnu : nu <= 1000000 := hul;go_enter Tryz.func55, Tryz.ntmps55;go_upto_region 1 with fail
  obtain ⟨W0, hW0⟩ : ∃ W0, (w.alloc (.cells #[.int .i64 512, .slice po d.pages.length pc, .slice co d.cache.length cc, .int .i64 d.left] 25)).alloc (.cells #[.slice none 0 0, .slice none 0 0, .int .i64 0] 95) = W0 := ⟨_, rfl⟩;rw [hW0];have hB0 : Below w.heap.size w W0 := by subst hW0; exact (Below.one w _).alloc (by simp) _
  have xD : Bx W0 N #[.int .i64 512, .slice po d.pages.length pc, .slice co d.cache.length cc, .int .i64 d.left] 25 := by subst hW0 hN; exact (Bx.new w _ _).alloc _
  have xR : Bx W0 (N + 1) #[.slice none 0 0, .slice none 0 0, .int .i64 0] 95 := by subst hW0 hN; exact Bx.newAt _ _ _ _ (by simp)
  clear hW0;have HB0 := zhI hB0;have cR := xR.cell;have lR := xR.lt;have fR := xR.free;clear hB0;go_wp2_with fail;refine (Hhas.out _ HB0.out).mono ?_;rintro e W2 ⟨rfl, rfl⟩;go_upto_region 3 with fail
  have hz := HB0.out.size;have hown0 := zae HU.out HB0.out;have hown2 := hown0.alloc (.cells #[.int .i64 page] 3);have xDa := xD.alloc (.cells #[.int .i64 page] 3);have xRa := xR.alloc (.cells #[.int .i64 page] 3);have H1c : Hid (∀ u ∈ [Value.int .i64 page], u.oneCell' = true) := zhI (by intro u hu; simp at hu; subst hu; rfl);have HRW := zhI (Bx.new W2 #[.int .i64 page] 3);have hB2 : Below w.heap.size w (W2.alloc (.cells #[.int .i64 page] 3)) := HB0.out.alloc hz _;have hD2 : DskR (· < B0) (W2.alloc (.cells #[.int .i64 page] 3)) _ d := HD.out.same (Same.of_below hB2 fun b h => znL h hB);have HX := zhI (zaI xDa (zaI xRa (zaI hown2 (zaI hD2 hB2))));clear cR lR fR xD xR hown0 hown2 xDa xRa hD2 hB2;go_wp2_with (at_builtin; refine wpList_append_own_at _ rfl _ _ 31 rfl B0 3 ii _ 1 8 Tryz.underlying31 Hi.out.1 Hi.out.2.1 Hi.out.2.2.1 Hi.out.2.2.2 rfl (by decide) (.slice uo nu uc) nu (intsV used) rfl HX.out.2.2.1 ⟨W2.heap.size, 0, none⟩ 1 1 [.int .i64 page] rfl rfl (zdh HRW.out) H1c.out (by unfold maxLen; omega) (by omega) (by simp; omega) ?_; intro v3 w3 hown3 hg3 _ hv3; obtain ⟨o3, c3, rfl⟩ := zaR hown3; have xD3 := HX.out.1.grown hg3 (fun e => zab HX.out.2.2.1 HX.out.1 (by decide) e.symm); have cD := xD3.cell; have lD := xD3.lt);have hg4 : w.grownBy w3 (Value.slice uo nu uc).ownBlock := (grownBy_below HX.out.2.2.2.2 (Nat.le_refl _) _).trans hg3;have hD3 := HX.out.2.2.2.1.same (w' := w3) fun b (hb : b < B0) => hg3.block b (by simp; omega) fun e => by have := (HX.out.2.2.1.lt b e.symm).1; omega
  have hB3 : B0 <= w3.heap.size := znT hB hg4.size;refine (Hre.out _ _ (DskR.mono hD3 fun b (hb : b < B0) => znL hb hB3)).mono ?_;rintro e W4 ⟨rfl, hb4⟩;have xR3 := HX.out.2.1.grown hg3 (fun e => zab HX.out.2.2.1 HX.out.2.1 (by decide) e.symm);have hv4 : (Value.slice o3 (nu + 1) c3).ownBlock = (Value.slice uo nu uc).ownBlock \/ ∀ b, (Value.slice o3 (nu + 1) c3).ownBlock = some b -> w.heap.size <= b := by
   rcases hv3 with e | e
   . exact .inl e
   . refine .inr fun b hb => ?_;rw [e] at hb;simp at hb;omega
  have HY := zhI (zaI (xD3.belowAll hb4) (zaI (xR3.belowAll hb4) (zaI (zae hown3 hb4) (zaI (hD3.same (Same.of_below hb4 fun b h => znL h hB3)) (zaI (World.grownBy.trans hg4 (grownBy_below hb4 (Nat.le_refl _) _)) hv4)))));clear hg4 hD3 hB3 xR3 hv4 hb4 xD3 cD lD hown3 hg3 hv3;have cR := HY.out.2.1.cell;have lR := HY.out.2.1.lt;have fR := HY.out.2.1.free;have cD := HY.out.1.cell;have lD := HY.out.1.lt;go_upto_region 5 with fail
  cases q0 : decide (a0 = 76);rotate_left
  .
   have q0' := of_decide_eq_true q0;have hA : L.getD 0 0 = 76 := UInt8.toNat_inj.1 (by rw [Ha0.out, q0']; rfl);have HP : Hid (loadR d frm til (f + 1) page used = (leafX L).map fun ps => (.mk ps [] page, used ++ [page])) := zhI (by
    rw [HP0.out, if_pos hA];unfold leafX
    by_cases h : (L.getD 1 0).toNat < 1 \/ 3 < (L.getD 1 0).toNat
    . rw [if_pos h, if_pos h]; rfl
    .
     rw [if_neg h, if_neg h];cases leafP (L.getD 1 0).toNat (L.drop 2) with
     | none => rfl
     | some ps => simp only; split <;> rfl)
   have z0 : ((a0 : Int) == 76) = true := by simp; omega
   clear q0 q0' hA;go_wp2_with fail;refine (Hlf.out _).mono ?_;rintro e W5 ⟨hb5, qo, qn, qc, rfl, hn5⟩;obtain ⟨bo, hbo⟩ : ∃ y, (leafX L).isSome = y := ⟨_, rfl⟩;rw [hbo];have xR5 := HY.out.2.1.belowAll hb5;have H5 := zhI (zaI hb5 (zaI hn5 (zaI hbo xR5)));clear cR lR fR cD lD;have cR := xR5.cell;have lR := xR5.lt;have fR := xR5.free;clear hb5 hn5 hbo xR5;go_wp2;obtain ⟨Wf, hWf⟩ : ∃ Wf, (((W5.setCell ⟨N + 1, 0, none⟩ (.slice qo qn qc)).setCell ⟨N + 1, 1, none⟩ (.slice none 0 0)).setCell ⟨N + 1, 2, none⟩ (.int .i64 page)).alloc (.cells #[.slice qo qn qc, .slice none 0 0, .int .i64 page] 95) = Wf := ⟨_, rfl⟩;rw [hWf];have hz5 := H5.out.1.size;have hz4 := HY.out.2.2.2.2.1.size;have hlt4 := HY.out.2.1.lt;have zR : Bx Wf (N + 1) #[.slice qo qn qc, .slice none 0 0, .int .i64 page] 95 := by rw [<- hWf];refine Bx.alloc ?_ _;have := ((H5.out.2.2.2.set 0 (.slice qo qn qc)).set 1 (.slice none 0 0)).set 2 (.int .i64 page);simpa using this
   have hne : (Value.slice o3 (nu + 1) c3).ownBlock ≠ some (N + 1) := zab HY.out.2.2.1 HY.out.2.1 (by decide);have zO : Wf.ownsRow B0 3 1 (.slice o3 (nu + 1) c3) (nu + 1) (intsV used ++ [.int .i64 page]) := by rw [<- hWf];exact (zac (a := ⟨N + 1, 2, none⟩) (zac (a := ⟨N + 1, 1, none⟩) (zac (a := ⟨N + 1, 0, none⟩) (zae HY.out.2.2.1 H5.out.1) hne _) hne _) hne _).alloc _
   have zB : Below w.heap.size W5 Wf := by rw [<- hWf];exact (zaa (zaa (zaa (Below.refl _ _) (by omega)) (by omega)) (by omega)).alloc (by simp; omega) _
   have zS : ∀ b, W4.heap.size <= b /\ b < W5.heap.size -> Wf.heap[b]? = W5.heap[b]? := by intro b hb;rw [<- hWf];refine (Below.heap_alloc _ _ b (by simp; omega)).trans ?_;exact (((Same.refl (fun x => x = b) W5).set (a := ⟨N + 1, 0, none⟩) (by show ¬ N + 1 = b; omega) _).set (a := ⟨N + 1, 1, none⟩) (by show ¬ N + 1 = b; omega) _).set (a := ⟨N + 1, 2, none⟩) (by show ¬ N + 1 = b; omega) _ b rfl
   have cZ := zR.cell;refine bodyPost_ret (v := .tuple #[.agg #[.slice qo qn qc, .slice none 0 0, .int .i64 page], .slice o3 (nu + 1) c3, .bool bo]) (by simp [results, Tryz.results55, go_sem, cZ]) rfl ?_;rw [<- HR.out, HP.out];have hG5 := World.grownBy.trans HY.out.2.2.2.2.1 (grownBy_below H5.out.1 (Nat.le_refl _) _);refine ⟨⟨zB.os.trans hG5.os, zB.tape.trans hG5.tape, zB.output.trans hG5.output, znT hG5.size zB.size, fun j hj hn => (zB.block j hj).trans (hG5.block j hj hn)⟩, _, _, _, _, _, _, _, _, _, _, by rw [<- H5.out.2.2.1, Option.isSome_map], ?_⟩;intro n u h;obtain ⟨ps, hx, he⟩ := Option.map_eq_some_iff.1 h;cases he;have el : (used ++ [page]).length = nu + 1 := by rw [zlA, Hnu.out]; rfl
   have ev : intsV (used ++ [page]) = intsV used ++ [.int .i64 page] := by simp [intsV]
   refine ⟨by rw [el, ev]; exact zO, HY.out.2.2.2.2.2, ?_⟩;have hn := H5.out.2.1 ps hx;obtain ⟨qo', qc', ko', kc', e⟩ := hn.cells;simp only [ndC, Nd.ps, Nd.kids, Nd.page, List.length_nil, List.cons.injEq, Value.slice.injEq, and_true, true_and] at e;obtain ⟨⟨rfl, rfl, rfl⟩, rfl, rfl⟩ := e;exact NdS.same zS (fun b hb => ⟨by omega, by have := zB.size; omega, fun e => by have := (HY.out.2.2.1.lt b e).2; omega⟩) (NdS.page (po := qo) (pc := qc) (ko := none) (kc := 0) (ps := ps) (kids := []) (page := 0) hn page)
  have q0' := of_decide_eq_false q0;have hA : ¬ L.getD 0 0 = 76 := fun h => q0' (by rw [<- Ha0.out, h]; rfl);have z0 : ((a0 : Int) == 76) = false := by simp; omega
  clear q0;cases q1 : decide (a0 = 78)
  .
   have q1' := of_decide_eq_false q1;have HP : Hid (loadR d frm til (f + 1) page used = none) := zhI (by
    rw [HP0.out, if_neg hA, if_pos (.inl (fun h => q1' (by rw [<- Ha0.out, h]; rfl)))])
   have z1 : ((a0 : Int) != 78) = true := by simp; omega
   clear q1;go_wp2;refine bodyPost_ret (v := .tuple #[.agg #[.slice none 0 0, .slice none 0 0, .int .i64 0], .slice none 0 0, .bool false]) (by simp [results, Tryz.results55, go_sem, cR]) rfl ?_;rw [<- HR.out];unfold zcO;rw [HP.out];have zB := zaa (b := N + 1) (k := 2) (v := .int .i64 0) (zaa (b := N + 1) (k := 1) (v := .slice none 0 0) (zaa (b := N + 1) (k := 0) (v := .slice none 0 0) (Below.refl w.heap.size W4) (by omega)) (by omega)) (by omega);have hG5 := HY.out.2.2.2.2.1;exact ⟨⟨zB.os.trans hG5.os, zB.tape.trans hG5.tape, zB.output.trans hG5.output, znT hG5.size zB.size, fun j hj hn => (zB.block j hj).trans (hG5.block j hj hn)⟩, _, _, _, _, _, _, _, _, _, _, rfl, fun n u h => by cases h⟩
  have q1' := of_decide_eq_true q1;have z1 : ((a0 : Int) != 78) = false := by simp; omega
  clear q1
  by_cases t1 : a1 < 2
  .
   have HP : Hid (loadR d frm til (f + 1) page used = none) := zhI (by
    rw [HP0.out, if_neg hA, Ha1.out, if_pos (.inr (.inl t1))])
   go_wp2;refine bodyPost_ret (v := .tuple #[.agg #[.slice none 0 0, .slice none 0 0, .int .i64 0], .slice none 0 0, .bool false]) (by simp [results, Tryz.results55, go_sem, cR]) rfl ?_;rw [<- HR.out];unfold zcO;rw [HP.out];have zB := zaa (b := N + 1) (k := 2) (v := .int .i64 0) (zaa (b := N + 1) (k := 1) (v := .slice none 0 0) (zaa (b := N + 1) (k := 0) (v := .slice none 0 0) (Below.refl w.heap.size W4) (by omega)) (by omega)) (by omega);have hG5 := HY.out.2.2.2.2.1;exact ⟨⟨zB.os.trans hG5.os, zB.tape.trans hG5.tape, zB.output.trans hG5.output, znT hG5.size zB.size, fun j hj hn => (zB.block j hj).trans (hG5.block j hj hn)⟩, _, _, _, _, _, _, _, _, _, _, rfl, fun n u h => by cases h⟩
  by_cases t2 : 8 < a1
  .
   have HP : Hid (loadR d frm til (f + 1) page used = none) := zhI (by
    rw [HP0.out, if_neg hA, Ha1.out, if_pos (.inr (.inr t2))])
   go_wp2;refine bodyPost_ret (v := .tuple #[.agg #[.slice none 0 0, .slice none 0 0, .int .i64 0], .slice none 0 0, .bool false]) (by simp [results, Tryz.results55, go_sem, cR]) rfl ?_;rw [<- HR.out];unfold zcO;rw [HP.out];have zB := zaa (b := N + 1) (k := 2) (v := .int .i64 0) (zaa (b := N + 1) (k := 1) (v := .slice none 0 0) (zaa (b := N + 1) (k := 0) (v := .slice none 0 0) (Below.refl w.heap.size W4) (by omega)) (by omega)) (by omega);have hG5 := HY.out.2.2.2.2.1;exact ⟨⟨zB.os.trans hG5.os, zB.tape.trans hG5.tape, zB.output.trans hG5.output, znT hG5.size zB.size, fun j hj hn => (zB.block j hj).trans (hG5.block j hj hn)⟩, _, _, _, _, _, _, _, _, _, _, rfl, fun n u h => by cases h⟩
  go_upto_region 13 with fail
  obtain ⟨M, hM⟩ : ∃ M, W4.heap.size = M := ⟨_, rfl⟩;rw [hM];have HM := zhI hM;have xDM := HY.out.1.alloc (.cells #[.slice none 0 0, .slice none 0 0, .int .i64 page] 95);have el : (used ++ [page]).length = nu + 1 := by rw [zlA, Hnu.out]; rfl
  go_loopw [4, 18] (fun uv i wr => ∃ (j : Nat) (ns : List Nd) (KC : List (List Value)) (ko : Option Addr) (kc : Nat) (u : List Int) (vo : Option Addr) (vc : Nat), j <= a1 /\ i = .int .i64 j /\ uv = .slice vo u.length vc /\
   Hid (kidsW (loadR d frm til f) (zar (L.drop 2) a1) (used ++ [page]) = (kidsW (loadR d frm til f) ((zar (L.drop 2) a1).drop j) u).map (fun x => (ns ++ x.1, x.2)) /\ ns.length = j /\ KC.length = j) /\ zaV frm til u /\ nu + 1 <= u.length /\
   Bx wr N #[.int .i64 512, .slice po d.pages.length pc, .slice co d.cache.length cc, .int .i64 d.left] 25 /\ Bx wr (N + 1) #[.slice none 0 0, .slice none 0 0, .int .i64 0] 95 /\
   Bx wr M #[.slice none 0 0, .slice ko j kc, .int .i64 page] 95 /\ wr.ownsRow (M + 1) 95 3 (.slice ko j kc) j KC.flatten /\ wr.ownsRow B0 3 1 (.slice vo u.length vc) u.length (intsV u) /\
   w.grownBy wr (Value.slice uo nu uc).ownBlock /\ ((Value.slice vo u.length vc).ownBlock = (Value.slice uo nu uc).ownBlock \/ ∀ b, (Value.slice vo u.length vc).ownBlock = some b -> w.heap.size <= b) /\ M < wr.heap.size /\
   Hid (DskR (· < B0) wr (.agg #[.int .i64 512, .slice po d.pages.length pc, .slice co d.cache.length cc, .int .i64 d.left]) d /\ ∀ (i : Nat) (h : i < KC.length) (h' : i < ns.length), NdS (fun b => w.heap.size <= b /\ b < wr.heap.size /\ b ≠ N /\ b ≠ N + 1 /\ b ≠ M /\ (Value.slice ko j kc).ownBlock ≠ some b /\ (Value.slice vo u.length vc).ownBlock ≠ some b) wr (KC[i]'h) (ns[i]'h'))) (fun _ i _ => a1 - (intOf i).toNat)
  case atStart =>
   refine ⟨0, [], [], none, 0, used ++ [page], o3, c3, by omega, rfl, by rw [el], zhI ⟨by simp, rfl, rfl⟩, Hu2.out, by omega, xDM, HY.out.2.1.alloc _, ?_, World.ownsRow_nil _ _ _ _, ?_, ?_, ?_, ?_, ?_⟩
   . rw [<- HM.out]; exact Bx.new W4 _ _
   . rw [el]; exact (by simpa [intsV] using HY.out.2.2.1.alloc (.cells #[.slice none 0 0, .slice none 0 0, .int .i64 page] 95))
   . exact World.grownBy.trans HY.out.2.2.2.2.1 (World.grownBy_alloc W4 _ _)
   . rw [el]; exact HY.out.2.2.2.2.2
   . rw [<- HM.out]; simp
   . refine zhI ⟨HY.out.2.2.2.1.same (Same.of_below (B := W4.heap.size) ((Below.refl _ _).alloc (Nat.le_refl _) _) fun b h => znL h (znT hB HY.out.2.2.2.2.1.size)), fun i h => by simp at h⟩
  case round =>
   obtain ⟨j, ns, KC, ko, kc, u, vo, vc, hj, rfl, rfl, H, huu, hul3, xD4, xR4, xM, hK, hV, hG, hv, hMz, HT⟩ := hrel;clear cR lR fR cD lD
   by_cases hlt : j < a1
   .
    have cD := xD4.cell;have lD := xD4.lt;obtain ⟨q, hq⟩ : ∃ q, 2 * j = q := ⟨_, rfl⟩;obtain ⟨p1, hp1⟩ : ∃ n, (L.getD (q + 2) 0).toNat = n := ⟨_, rfl⟩;obtain ⟨p2, hp2⟩ : ∃ n, (L.getD (q + 3) 0).toNat = n := ⟨_, rfl⟩;have b1 : p1 < 256 := by rw [<- hp1]; exact UInt8.toNat_lt _
    have b2 : p2 < 256 := by rw [<- hp2]; exact UInt8.toNat_lt _
    have hql : q + 3 < s.size := by omega
    have hql2 : q + 2 < s.size := by omega
    have hsg : ∀ (i : Nat) (h : i < s.size), s[i].toNat = (L.getD i 0).toNat := fun i h => by
     obtain ⟨-, hs, hl⟩ := HL.out;subst hs;have h' : i < L.length := by omega
     rw [zep _ _ h', List.getD_eq_getElem?_getD, List.getElem?_eq_getElem h']; rfl
    have k1 : (s[q + 2]'hql2).toNat = p1 := by rw [hsg, hp1]
    have k2 : (s[q + 3]'hql).toNat = p2 := by rw [hsg, hp2]
    have hpg : kidPg (L.drop 2) j = ((p1 * 256 + p2 : Nat) : Int) := by unfold kidPg;rw [<- hp1, <- hp2, <- hq];simp only [List.getD_eq_getElem?_getD, List.getElem?_drop];rw [show 2 + 2 * j = 2 * j + 2 by omega, show 2 + (2 * j + 1) = 2 * j + 3 by omega]
    have Hpg := zhI hpg;obtain ⟨pgn, hpgn⟩ : ∃ n : Nat, p1 * 256 + p2 = n := ⟨_, rfl⟩;rw [hpgn] at Hpg;have hpb : pgn < 65536 := by omega
    have v5 : IntKind.i64.wrap (2 * (j : Int)) = (q : Int) := by rw [IntWalk.i64_in _ (by omega)]; omega
    have v6 : IntKind.i64.wrap (2 + (q : Int)) = (q : Int) + 2 := by rw [IntWalk.i64_in _ (by omega)]; omega
    have v13 : IntKind.i64.wrap (3 + (q : Int)) = (q : Int) + 3 := by rw [IntWalk.i64_in _ (by omega)]; omega
    have v9 : IntKind.i64.wrap ((p1 : Int) * 256) = (p1 : Int) * 256 := by rw [IntWalk.i64_in _ (by omega)]
    have v16 : IntKind.i64.wrap ((p1 : Int) * 256 + (p2 : Int)) = (pgn : Int) := by rw [IntWalk.i64_in _ (by omega)]; omega
    have v8 : IntKind.i64.wrap (p1 : Int) = (p1 : Int) := IntWalk.i64_in _ (by omega);have v15 : IntKind.i64.wrap (p2 : Int) = (p2 : Int) := IntWalk.i64_in _ (by omega);have i1 : ∀ h : ((q : Int) + 2).toNat < s.size, s[((q : Int) + 2).toNat].toNat = p1 := fun h => by rw [<- k1]; congr 1
    have i2 : ∀ h : ((q : Int) + 3).toNat < s.size, s[((q : Int) + 3).toNat].toNat = p2 := fun h => by rw [<- k2]; congr 1
    clear hsg hpg hp1 hp2;have cD := xD4.cell;have lD := xD4.lt;go_upto_region 15 with fail
    refine zah #[false, false, false, false, false, false, false, false, false, false, false, false, false, false, false, false, false, false, false, false, false, false, false, false, false, false, false] 27 (by kernel_rfl) (by rfl) rfl ?_;have hb5 := (Below.refl wr.heap.size wr).drew;obtain ⟨W5, hW5⟩ : ∃ W5, wr.drew = W5 := ⟨_, rfl⟩;rw [hW5] at hb5 |-;have xD5 := xD4.belowAll hb5;clear cD lD;have cD := xD5.cell;have lD := xD5.lt;have huv : ∀ b, (Value.slice vo u.length vc).ownBlock = some b -> b < wr.heap.size := fun b h => (hV.lt b h).2;have hfl : (til - frm - 2).toNat < f + u.length := by omega
    have hB5 : B0 <= wr.heap.size := znT hB hG.size;obtain ⟨ol, hol⟩ : ∃ o, loadR d frm til f pgn u = o := ⟨_, rfl⟩;have Hol := zhI hol;have hcl : ∀ W, Below wr.heap.size wr W -> Calls Tryz.prog 55 #[.agg #[.int .i64 512, .slice po d.pages.length pc, .slice co d.cache.length cc, .int .i64 d.left], .int .i64 frm, .int .i64 til, .int .i64 pgn, .slice vo u.length vc] W (zcO B0 (.slice vo u.length vc) ol W) := fun W hb => hol ▸
     Hih.out pgn u _ vo vc W (HT.out.1.same (Same.of_below hb fun b h => znL h hB5)) (znT hB5 hb.size) (zae hV hb) huu hfl ⟨by omega, by omega⟩
    have Hcl := zhI hcl;have Hb5 := zhI hb5;clear hcl hb5 hW5 hol;refine wpAny_take (i := 1) (v := (.int .i64 frm)) rfl (by kernel_rfl) (by kernel_rfl) (by kernel_rfl) (fun _ _ _ h => h) (Or.inl ⟨by rfl, fun w => by first | rfl | (go_simp; try with_reducible rfl)⟩) ?_;simp only [zgP, Act.put, zsP];refine wpAny_take (i := 2) (v := (.int .i64 til)) rfl (by kernel_rfl) (by kernel_rfl) (by kernel_rfl) (fun _ _ _ h => h) (Or.inl ⟨by rfl, fun w => by first | rfl | (go_simp; try with_reducible rfl)⟩) ?_;simp only [zgP, Act.put, zsP];refine wpAny_take (i := 3) (v := (.string s)) rfl (by kernel_rfl) (by kernel_rfl) (by kernel_rfl) (fun _ _ _ h => h) (Or.inl ⟨by rfl, fun w => by first | rfl | (go_simp; try with_reducible rfl)⟩) ?_;simp only [zgP, Act.put, zsP];refine wpAny_take (i := 4) (v := (.int .i64 j)) rfl (by kernel_rfl) (by kernel_rfl) (by kernel_rfl) (fun _ _ _ h => h) (Or.inl ⟨by rfl, fun w => by first | rfl | (go_simp; try with_reducible rfl)⟩) ?_;simp only [zgP, Act.put, zsP];refine wpAny_take (i := 5) (v := (.int .i64 q)) rfl (by kernel_rfl) (by kernel_rfl) (by kernel_rfl) (fun _ _ _ h => h) (Or.inl ⟨by rfl, fun w => by go_simp; skip⟩) ?_;simp only [zgP, Act.put, zsP];refine wpAny_take (i := 6) (v := (.int .i64 ((q : Int) + 2))) rfl (by kernel_rfl) (by kernel_rfl) (by kernel_rfl) (fun _ _ _ h => h) (Or.inl ⟨by rfl, fun w => by go_simp; skip⟩) ?_;simp only [zgP, Act.put, zsP];refine wpAny_take (i := 7) (v := (.int .u8 p1)) rfl (by kernel_rfl) (by kernel_rfl) (by kernel_rfl) (fun _ _ _ h => h) (Or.inl ⟨by rfl, fun w => by go_simp; (intro h; exact absurd (h (by omega)) (by omega))⟩) ?_;simp only [zgP, Act.put, zsP];refine wpAny_take (i := 8) (v := (.int .i64 p1)) rfl (by kernel_rfl) (by kernel_rfl) (by kernel_rfl) (fun _ _ _ h => h) (Or.inl ⟨by rfl, fun w => by go_simp; skip⟩) ?_;simp only [zgP, Act.put, zsP];refine wpAny_take (i := 9) (v := (.int .i64 ((p1 : Int) * 256))) rfl (by kernel_rfl) (by kernel_rfl) (by kernel_rfl) (fun _ _ _ h => h) (Or.inl ⟨by rfl, fun w => by go_simp; skip⟩) ?_;simp only [zgP, Act.put, zsP];refine wpAny_take (i := 10) (v := (.string s)) rfl (by kernel_rfl) (by kernel_rfl) (by kernel_rfl) (fun _ _ _ h => h) (Or.inl ⟨by rfl, fun w => by first | rfl | (go_simp; try with_reducible rfl)⟩) ?_;simp only [zgP, Act.put, zsP];refine wpAny_take (i := 11) (v := (.int .i64 j)) rfl (by kernel_rfl) (by kernel_rfl) (by kernel_rfl) (fun _ _ _ h => h) (Or.inl ⟨by rfl, fun w => by first | rfl | (go_simp; try with_reducible rfl)⟩) ?_;simp only [zgP, Act.put, zsP];refine wpAny_take (i := 12) (v := (.int .i64 q)) rfl (by kernel_rfl) (by kernel_rfl) (by kernel_rfl) (fun _ _ _ h => h) (Or.inl ⟨by rfl, fun w => by go_simp; skip⟩) ?_;simp only [zgP, Act.put, zsP];refine wpAny_take (i := 13) (v := (.int .i64 ((q : Int) + 3))) rfl (by kernel_rfl) (by kernel_rfl) (by kernel_rfl) (fun _ _ _ h => h) (Or.inl ⟨by rfl, fun w => by go_simp; skip⟩) ?_;simp only [zgP, Act.put, zsP];refine wpAny_take (i := 14) (v := (.int .u8 p2)) rfl (by kernel_rfl) (by kernel_rfl) (by kernel_rfl) (fun _ _ _ h => h) (Or.inl ⟨by rfl, fun w => by go_simp; (intro h; exact absurd (h (by omega)) (by omega))⟩) ?_;simp only [zgP, Act.put, zsP];refine wpAny_take (i := 15) (v := (.int .i64 p2)) rfl (by kernel_rfl) (by kernel_rfl) (by kernel_rfl) (fun _ _ _ h => h) (Or.inl ⟨by rfl, fun w => by go_simp; skip⟩) ?_;simp only [zgP, Act.put, zsP];refine wpAny_take (i := 16) (v := (.int .i64 pgn)) rfl (by kernel_rfl) (by kernel_rfl) (by kernel_rfl) (fun _ _ _ h => h) (Or.inl ⟨by rfl, fun w => by go_simp; skip⟩) ?_;simp only [zgP, Act.put, zsP];refine wpAny_take (i := 17) (v := (.slice vo u.length vc)) rfl (by kernel_rfl) (by kernel_rfl) (by kernel_rfl) (fun _ _ _ h => h) (Or.inl ⟨by rfl, fun w => by first | rfl | (go_simp; try with_reducible rfl)⟩) ?_;simp only [zgP, Act.put, zsP];refine wpAny_ready (rs := [0, 23]) (by kernel_rfl) (by simp) ?_;refine AllReady.cons rfl (fun K hK => ?_) (AllReady.cons rfl (fun K hK => ?_) AllReady.nil)
    focus
     go_simp;refine hK _ _ ?_;clear hK K;simp only [List.setIfInBounds_toArray, List.set_cons_zero];refine wpAny_ready (rs := [18, 23]) (by kernel_rfl) (by simp) ?_;refine AllReady.cons rfl (fun K hK => ?_) (AllReady.cons rfl (fun K hK => ?_) AllReady.nil)
     focus
      go_simp;refine (Hcl.out _ Hb5.out).mono ?_;rintro e W7 ⟨hg7, k0, n0, c0, k1', n1, c1, pg1, vo1, vn1, vc1, rfl, hr7⟩;refine hK _ _ ?_;clear hK K;simp only [zsP];refine wpAny_take (i := 19) (v := ?_) rfl (by kernel_rfl) (by kernel_rfl) (by kernel_rfl) (fun _ _ _ h => h) (Or.inl ⟨by rfl, ?_⟩) ?_;rotate_left
      . intro w; go_simp; try with_reducible rfl
      simp only [Act.put, zsP];refine wpAny_take (i := 20) (v := ?_) rfl (by kernel_rfl) (by kernel_rfl) (by kernel_rfl) (fun _ _ _ h => h) (Or.inl ⟨by rfl, ?_⟩) ?_;rotate_left
      . intro w; go_simp; try with_reducible rfl
      simp only [Act.put, zsP];refine wpAny_take (i := 21) (v := ?_) rfl (by kernel_rfl) (by kernel_rfl) (by kernel_rfl) (fun _ _ _ h => h) (Or.inl ⟨by rfl, ?_⟩) ?_;rotate_left
      . intro w; go_simp; try with_reducible rfl
      simp only [Act.put, zsP];refine wpAny_take (i := 22) (v := ?_) rfl (by kernel_rfl) (by kernel_rfl) (by kernel_rfl) (fun _ _ _ h => h) (Or.inl ⟨by rfl, ?_⟩) ?_;rotate_left
      . intro w; go_simp; try with_reducible rfl
      simp only [Act.put, zsP];refine wpAny_ready (rs := [23]) (by kernel_rfl) (by simp) ?_;refine AllReady.cons rfl (fun K hK => ?_) AllReady.nil;go_simp;refine hK _ _ ?_;clear hK K;simp only [zsP];have KF : KidF B0 wr (Value.slice vo u.length vc).ownBlock W7.heap.size #[.slice none 0 0, .slice none 0 0, .int .i64 0] [.slice k0 n0 c0, .slice k1' n1 c1, .int .i64 pg1] (.slice vo1 vn1 vc1) ol _ := KidF.late Hb5.out hg7 hr7;obtain ⟨W6, hW6⟩ : ∃ W6, W7.alloc (.cells #[.slice none 0 0, .slice none 0 0, .int .i64 0] 95) = W6 := ⟨_, rfl⟩;rw [hW6] at KF |-;obtain ⟨kb, hkb⟩ : ∃ k, W7.heap.size = k := ⟨_, rfl⟩;rw [hkb] at KF |-;clear hkb hW6;have hk2 := KF.k2;have ck := hk2.cell;have lk := hk2.lt;have fk := hk2.free;have KF := zhI KF;clear hk2 hg7 hr7 cD lD;refine wpAny_ready (rs := [24]) (by kernel_rfl) (by simp) ?_;refine AllReady.cons rfl (fun K hK => ?_) AllReady.nil;go_simp;refine hK _ _ ?_;clear hK K;obtain ⟨W8, hW8⟩ : ∃ W8, ((W6.setCell ⟨kb, 0, none⟩ (.slice k0 n0 c0)).setCell ⟨kb, 1, none⟩ (.slice k1' n1 c1)).setCell ⟨kb, 2, none⟩ (.int .i64 pg1) = W8 := ⟨_, rfl⟩;rw [hW8];have K8 := zhI (hW8 ▸ KF.out.put : KidF B0 wr (Value.slice vo u.length vc).ownBlock kb #[.slice k0 n0 c0, .slice k1' n1 c1, .int .i64 pg1] [.slice k0 n0 c0, .slice k1' n1 c1, .int .i64 pg1] (.slice vo1 vn1 vc1) ol W8);clear hW8 ck lk fk KF;refine wpAny_ready (rs := [25]) (by kernel_rfl) (by simp) ?_;refine AllReady.cons rfl (fun K hK => ?_) AllReady.nil;go_simp;refine hK _ _ ?_;clear hK K;refine wpAny_ready (rs := [26]) (by kernel_rfl) (by simp) ?_;refine AllReady.cons rfl (fun K hK => ?_) AllReady.nil;go_simp;refine hK _ _ ?_;clear hK K;refine wpAny_done (by kernel_rfl) ?_ _
     rotate_left
     focus
      go_simp;refine hK _ _ ?_;clear hK K;simp only [zsP];refine wpAny_ready (rs := [18]) (by kernel_rfl) (by simp) ?_;refine AllReady.cons rfl (fun K hK => ?_) AllReady.nil;have hb6 : Below wr.heap.size wr (W5.alloc (.cells #[.slice none 0 0, .slice none 0 0, .int .i64 0] 95)) := Hb5.out.alloc Hb5.out.size _;go_simp;refine (Hcl.out _ hb6).mono ?_;rintro e W7 ⟨hg7, k0, n0, c0, k1', n1, c1, pg1, vo1, vn1, vc1, rfl, hr7⟩;refine hK _ _ ?_;clear hK K;simp only [zsP];refine wpAny_take (i := 19) (v := ?_) rfl (by kernel_rfl) (by kernel_rfl) (by kernel_rfl) (fun _ _ _ h => h) (Or.inl ⟨by rfl, ?_⟩) ?_;rotate_left
      . intro w; go_simp; try with_reducible rfl
      simp only [Act.put, zsP];refine wpAny_take (i := 20) (v := ?_) rfl (by kernel_rfl) (by kernel_rfl) (by kernel_rfl) (fun _ _ _ h => h) (Or.inl ⟨by rfl, ?_⟩) ?_;rotate_left
      . intro w; go_simp; try with_reducible rfl
      simp only [Act.put, zsP];refine wpAny_take (i := 21) (v := ?_) rfl (by kernel_rfl) (by kernel_rfl) (by kernel_rfl) (fun _ _ _ h => h) (Or.inl ⟨by rfl, ?_⟩) ?_;rotate_left
      . intro w; go_simp; try with_reducible rfl
      simp only [Act.put, zsP];refine wpAny_take (i := 22) (v := ?_) rfl (by kernel_rfl) (by kernel_rfl) (by kernel_rfl) (fun _ _ _ h => h) (Or.inl ⟨by rfl, ?_⟩) ?_;rotate_left
      . intro w; go_simp; try with_reducible rfl
      simp only [Act.put, zsP];have KF : KidF B0 wr (Value.slice vo u.length vc).ownBlock W5.heap.size #[.slice none 0 0, .slice none 0 0, .int .i64 0] [.slice k0 n0 c0, .slice k1' n1 c1, .int .i64 pg1] (.slice vo1 vn1 vc1) ol W7 := KidF.early Hb5.out huv hg7 hr7;obtain ⟨W6, rfl⟩ : ∃ W6, W6 = W7 := ⟨_, rfl⟩;obtain ⟨kb, hkb⟩ : ∃ k, W5.heap.size = k := ⟨_, rfl⟩;rw [hkb] at KF |-;clear hkb;have hk2 := KF.k2;have ck := hk2.cell;have lk := hk2.lt;have fk := hk2.free;have KF := zhI KF;clear hk2 hg7 hr7 cD lD;refine wpAny_ready (rs := [24]) (by kernel_rfl) (by simp) ?_;refine AllReady.cons rfl (fun K hK => ?_) AllReady.nil;go_simp;refine hK _ _ ?_;clear hK K;obtain ⟨W8, hW8⟩ : ∃ W8, ((W6.setCell ⟨kb, 0, none⟩ (.slice k0 n0 c0)).setCell ⟨kb, 1, none⟩ (.slice k1' n1 c1)).setCell ⟨kb, 2, none⟩ (.int .i64 pg1) = W8 := ⟨_, rfl⟩;rw [hW8];have K8 := zhI (hW8 ▸ KF.out.put : KidF B0 wr (Value.slice vo u.length vc).ownBlock kb #[.slice k0 n0 c0, .slice k1' n1 c1, .int .i64 pg1] [.slice k0 n0 c0, .slice k1' n1 c1, .int .i64 pg1] (.slice vo1 vn1 vc1) ol W8);clear hW8 ck lk fk KF;refine wpAny_ready (rs := [25]) (by kernel_rfl) (by simp) ?_;refine AllReady.cons rfl (fun K hK => ?_) AllReady.nil;go_simp;refine hK _ _ ?_;clear hK K;refine wpAny_ready (rs := [26]) (by kernel_rfl) (by simp) ?_;refine AllReady.cons rfl (fun K hK => ?_) AllReady.nil;go_simp;refine hK _ _ ?_;clear hK K;refine wpAny_done (by kernel_rfl) ?_ _
    rotate_left 2
    focus
     go_simp;refine hK _ _ ?_;clear hK K;simp only [zsP];refine wpAny_ready (rs := [0]) (by kernel_rfl) (by simp) ?_;refine AllReady.cons rfl (fun K hK => ?_) AllReady.nil;go_simp;refine hK _ _ ?_;clear hK K;simp only [List.setIfInBounds_toArray, List.set_cons_zero];refine wpAny_ready (rs := [18]) (by kernel_rfl) (by simp) ?_;refine AllReady.cons rfl (fun K hK => ?_) AllReady.nil;have hb6 : Below wr.heap.size wr (W5.alloc (.cells #[.slice none 0 0, .slice none 0 0, .int .i64 0] 95)) := Hb5.out.alloc Hb5.out.size _;go_simp;refine (Hcl.out _ hb6).mono ?_;rintro e W7 ⟨hg7, k0, n0, c0, k1', n1, c1, pg1, vo1, vn1, vc1, rfl, hr7⟩;refine hK _ _ ?_;clear hK K;simp only [zsP];refine wpAny_take (i := 19) (v := ?_) rfl (by kernel_rfl) (by kernel_rfl) (by kernel_rfl) (fun _ _ _ h => h) (Or.inl ⟨by rfl, ?_⟩) ?_;rotate_left
     . intro w; go_simp; try with_reducible rfl
     simp only [Act.put, zsP];refine wpAny_take (i := 20) (v := ?_) rfl (by kernel_rfl) (by kernel_rfl) (by kernel_rfl) (fun _ _ _ h => h) (Or.inl ⟨by rfl, ?_⟩) ?_;rotate_left
     . intro w; go_simp; try with_reducible rfl
     simp only [Act.put, zsP];refine wpAny_take (i := 21) (v := ?_) rfl (by kernel_rfl) (by kernel_rfl) (by kernel_rfl) (fun _ _ _ h => h) (Or.inl ⟨by rfl, ?_⟩) ?_;rotate_left
     . intro w; go_simp; try with_reducible rfl
     simp only [Act.put, zsP];refine wpAny_take (i := 22) (v := ?_) rfl (by kernel_rfl) (by kernel_rfl) (by kernel_rfl) (fun _ _ _ h => h) (Or.inl ⟨by rfl, ?_⟩) ?_;rotate_left
     . intro w; go_simp; try with_reducible rfl
     simp only [Act.put, zsP];have KF : KidF B0 wr (Value.slice vo u.length vc).ownBlock W5.heap.size #[.slice none 0 0, .slice none 0 0, .int .i64 0] [.slice k0 n0 c0, .slice k1' n1 c1, .int .i64 pg1] (.slice vo1 vn1 vc1) ol W7 := KidF.early Hb5.out huv hg7 hr7;obtain ⟨W6, rfl⟩ : ∃ W6, W6 = W7 := ⟨_, rfl⟩;obtain ⟨kb, hkb⟩ : ∃ k, W5.heap.size = k := ⟨_, rfl⟩;rw [hkb] at KF |-;clear hkb;have hk2 := KF.k2;have ck := hk2.cell;have lk := hk2.lt;have fk := hk2.free;have KF := zhI KF;clear hk2 hg7 hr7 cD lD;refine wpAny_ready (rs := [24]) (by kernel_rfl) (by simp) ?_;refine AllReady.cons rfl (fun K hK => ?_) AllReady.nil;go_simp;refine hK _ _ ?_;clear hK K;obtain ⟨W8, hW8⟩ : ∃ W8, ((W6.setCell ⟨kb, 0, none⟩ (.slice k0 n0 c0)).setCell ⟨kb, 1, none⟩ (.slice k1' n1 c1)).setCell ⟨kb, 2, none⟩ (.int .i64 pg1) = W8 := ⟨_, rfl⟩;rw [hW8];have K8 := zhI (hW8 ▸ KF.out.put : KidF B0 wr (Value.slice vo u.length vc).ownBlock kb #[.slice k0 n0 c0, .slice k1' n1 c1, .int .i64 pg1] [.slice k0 n0 c0, .slice k1' n1 c1, .int .i64 pg1] (.slice vo1 vn1 vc1) ol W8);clear hW8 ck lk fk KF;refine wpAny_ready (rs := [25]) (by kernel_rfl) (by simp) ?_;refine AllReady.cons rfl (fun K hK => ?_) AllReady.nil;go_simp;refine hK _ _ ?_;clear hK K;refine wpAny_ready (rs := [26]) (by kernel_rfl) (by simp) ?_;refine AllReady.cons rfl (fun K hK => ?_) AllReady.nil;go_simp;refine hK _ _ ?_;clear hK K;refine wpAny_done (by kernel_rfl) ?_ _
    all_goals
     have hg8 := K8.out.g;have xD8 := xD4.grown hg8 (fun e => zab hV xD4 (by decide) e.symm);have xR8 := xR4.grown hg8 (fun e => zab hV xR4 (by decide) e.symm);have xM8 := xM.grown hg8 (fun e => zab hV xM (by decide) e.symm);have hG8 := zeq hG hg8 hv;have H8 := zhI (zaI xD8 (zaI xR8 (zaI xM8 hG8)));clear cD lD hg8 xD8 xR8 xM8 hG8 xD5;have cR := H8.out.2.1.cell;have lR := H8.out.2.1.lt;have fR := H8.out.2.1.free;cases ol with
     | none =>
      have HP : Hid (loadR d frm til (f + 1) page used = none) := zhI (by
       rw [HP0.out, if_neg hA, Ha1.out, if_neg (by rintro (h | h | h); exact h (UInt8.toNat_inj.1 (by rw [Ha0.out, q1']; rfl)); exact t1 h; exact t2 h), H.out.1, zbH hlt, Hpg.out, kidsW, Hol.out]
       rfl)
      simp only [Option.isSome_none];go_wp2;refine bodyPost_ret (v := .tuple #[.agg #[.slice none 0 0, .slice none 0 0, .int .i64 0], .slice none 0 0, .bool false]) (by simp [results, Tryz.results55, go_sem, cR]) rfl ?_;rw [<- HR.out];unfold zcO;rw [HP.out];have zB := zaa (b := N + 1) (k := 2) (v := .int .i64 0) (zaa (b := N + 1) (k := 1) (v := .slice none 0 0) (zaa (b := N + 1) (k := 0) (v := .slice none 0 0) (Below.refl w.heap.size W8) (by omega)) (by omega)) (by omega);have hG5 := H8.out.2.2.2;exact ⟨⟨zB.os.trans hG5.os, zB.tape.trans hG5.tape, zB.output.trans hG5.output, znT hG5.size zB.size, fun j hj hn => (zB.block j hj).trans (hG5.block j hj hn)⟩, _, _, _, _, _, _, _, _, _, _, rfl, fun n u h => by cases h⟩
     | some r =>
      obtain ⟨nd, u1⟩ := r;obtain ⟨r1, r2, r3, r4⟩ := K8.out.res nd u1 rfl;obtain ⟨o', c', e', hs1, -, -⟩ := zai r1;simp only [Value.slice.injEq] at e';obtain ⟨rfl, rfl, rfl⟩ := e';obtain ⟨hu1, hul1⟩ := zb0 f Hol.out huu;have hne2 : (Value.slice ko j kc).ownBlock = none \/ (Value.slice ko j kc).ownBlock ≠ (Value.slice vo u.length vc).ownBlock := by
       cases hk : (Value.slice ko j kc).ownBlock with
       | none => exact .inl rfl
       | some g => exact .inr (fun e => zc6 hK hV (by decide) g hk e.symm)
      have hK8 := hK.kept K8.out.g hne2;have hk2 := K8.out.k2;have H2 : Hid (kidsW (loadR d frm til f) (zar (L.drop 2) a1) (used ++ [page]) = (kidsW (loadR d frm til f) ((zar (L.drop 2) a1).drop (j + 1)) u1).map (fun x => ((ns ++ [nd]) ++ x.1, x.2)) /\ (ns ++ [nd]).length = j + 1 /\ (KC ++ [[Value.slice k0 n0 c0, .slice k1' n1 c1, .int .i64 pg1]]).length = j + 1) := zhI ⟨by
       rw [H.out.1, zbH hlt, Hpg.out, kidsW, Hol.out];simp only [Option.map_map];congr 1;funext y
       simp, by rw [zlA, H.out.2.1]; rfl, by rw [zlA, H.out.2.2]; rfl⟩
      obtain ⟨nn, hni, hnz0, hnz1, hnz2⟩ := info_parts zlM;have Hn := zhI (zaI hni (zaI hnz0 (zaI hnz1 hnz2)));have hKa := hK8.alloc (.cells #[.slice k0 n0 c0, .slice k1' n1 c1, .int .i64 pg1] 95);have xMa := H8.out.2.2.1.alloc (.cells #[.slice k0 n0 c0, .slice k1' n1 c1, .int .i64 pg1] 95);have H1n : Hid (∀ u ∈ [Value.slice k0 n0 c0, .slice k1' n1 c1, .int .i64 pg1], u.oneCell' = true) := zhI (by intro u hu; simp at hu; rcases hu with rfl | rfl | rfl <;> rfl)
      have HRW := zhI (Bx.new W8 #[.slice k0 n0 c0, .slice k1' n1 c1, .int .i64 pg1] 95);have HKa := zhI (zaI hKa xMa);have R8 := zhI (zaI r1 (zaI r2 (zaI r3 r4)));have hMW : M < W8.heap.size := H8.out.2.2.1.lt;clear hni hnz0 hnz1 hnz2 r1 r2 r3 r4 hne2 hs1 hKa xMa cR lR fR;have cM := H8.out.2.2.1.cell;have lM := H8.out.2.2.1.lt;have ck := hk2.cell;have lk := hk2.lt;clear hk2 hK8;go_wp2_with (at_builtin; refine wpList_append_own_at _ rfl _ _ 93 rfl (M + 1) 95 nn _ 3 56 Tryz.underlying93 Hn.out.1 Hn.out.2.1 Hn.out.2.2.1 Hn.out.2.2.2 rfl (by decide) (.slice ko j kc) j KC.flatten rfl HKa.out.1 ⟨W8.heap.size, 0, none⟩ 1 1 [.slice k0 n0 c0, .slice k1' n1 c1, .int .i64 pg1] rfl rfl (zdh HRW.out) H1n.out (by unfold maxLen; omega) (by omega) (by simp; omega) ?_; intro v9 w9 hown9 hg9 _ hv9; obtain ⟨o9, c9, rfl⟩ := zaR hown9; have xM9 := HKa.out.2.grown hg9 (fun e => by have := (HKa.out.1.lt M e.symm).1; omega); have cM9 := xM9.cell; have lM9 := xM9.lt; have fM9 := xM9.free);go_roundw
      case rel =>
       obtain ⟨xD8, xR8, xM8, hG8⟩ := H8.out;obtain ⟨r1, r2, r3, r4⟩ := R8.out;have hb1 := Below.one W8 (.cells #[.slice k0 n0 c0, .slice k1' n1 c1, .int .i64 pg1] 95);have hgl := HKa.out.1.lt;have hwM : w.heap.size <= M := by rw [<- HM.out]; exact HY.out.2.2.2.2.1.size
       have hNM : N + 1 < M := by rw [<- HM.out]; exact HY.out.2.1.lt
       have hg9' : W8.grownBy w9 (Value.slice ko j kc).ownBlock := (grownBy_below hb1 (Nat.le_refl _) _).trans hg9;have hor : (Value.slice vo1 u1.length vc1).ownBlock = none \/ (Value.slice vo1 u1.length vc1).ownBlock ≠ (Value.slice ko j kc).ownBlock := by
        cases hk : (Value.slice vo1 u1.length vc1).ownBlock with
        | none => exact .inl rfl
        | some g => exact .inr (fun e => zc6 (r1.alloc (.cells #[.slice k0 n0 c0, .slice k1' n1 c1, .int .i64 pg1] 95)) HKa.out.1 (by decide) g hk e.symm)
       have hvo : (Value.slice vo1 u1.length vc1).ownBlock = (Value.slice uo nu uc).ownBlock \/ ∀ b, (Value.slice vo1 u1.length vc1).ownBlock = some b -> w.heap.size <= b := by
        rcases r2 with h | h
        . rw [h]; exact hv
        . exact .inr fun b hb => znT hG.size (h b hb)
       have hgw := zeq hG8 hg9' (.inr fun b hb => by have := (hgl b hb).1; omega);have zB : Below w.heap.size w9 (w9.setCell ⟨M, 1, none⟩ (.slice o9 (j + 1) c9)) := zaa (Below.refl _ _) hwM;refine ⟨j + 1, ns ++ [nd], KC ++ [[Value.slice k0 n0 c0, .slice k1' n1 c1, .int .i64 pg1]], o9, c9, u1, vo1, vc1, by omega, by go_num, rfl, H2, hu1, by omega, ?_, ?_, ?_, ?_, ?_, ?_, hvo, ?_, ?_⟩
       . exact ((xD8.alloc _).grown hg9 (fun e => by have := (hgl N e.symm).1; omega)).setO (a := ⟨M, 1, none⟩) (by simp; omega) _
       . exact ((xR8.alloc _).grown hg9 (fun e => by have := (hgl (N + 1) e.symm).1; omega)).setO (a := ⟨M, 1, none⟩) (by simp; omega) _
       . exact xM9.set 1 _
       . rw [List.flatten_append];exact zac hown9 (a := ⟨M, 1, none⟩) (fun e => by have := (hown9.lt M e).1; omega) _
       . exact zac ((r1.alloc _).kept hg9 hor) (a := ⟨M, 1, none⟩) (zab r1 xM8 (by decide)) _
       . exact ⟨zB.os.trans hgw.os, zB.tape.trans hgw.tape, zB.output.trans hgw.output, znT hgw.size zB.size, fun j hj hn => (zB.block j hj).trans (hgw.block j hj hn)⟩
       . have := hg9'.size; simp; omega
       .
        have hW8 := K8.out.g.size;have hkept : ∀ b, b < wr.heap.size -> (Value.slice vo u.length vc).ownBlock ≠ some b -> b ≠ M -> (Value.slice ko j kc).ownBlock ≠ some b -> (w9.setCell ⟨M, 1, none⟩ (.slice o9 (j + 1) c9)).heap[b]? = wr.heap[b]? := fun b h1 h2 h3 h4 =>
         (Below.heap_setCell _ ⟨M, 1, none⟩ _ _ h3).trans ((hg9'.block b (by omega) (fun e => h4 e.symm)).trans (K8.out.g.block b h1 (fun e => h2 e.symm)))
        have hkept2 : ∀ b, wr.heap.size <= b -> b < W8.heap.size -> (w9.setCell ⟨M, 1, none⟩ (.slice o9 (j + 1) c9)).heap[b]? = W8.heap[b]? := fun b h1 h2 =>
         (Below.heap_setCell _ ⟨M, 1, none⟩ _ _ (show b ≠ M by omega)).trans (hg9'.block b h2 (fun e => by have := (hK.lt b e.symm).2; omega))
        have hs9 : (w9.setCell ⟨M, 1, none⟩ (.slice o9 (j + 1) c9)).heap.size = w9.heap.size := by simp
        have h9s := hg9'.size;have hgz : (W8.alloc (.cells #[.slice k0 n0 c0, .slice k1' n1 c1, .int .i64 pg1] 95)).heap.size = W8.heap.size + 1 := by simp
        have ho9 : ∀ b, (Value.slice o9 (j + 1) c9).ownBlock = some b -> (Value.slice ko j kc).ownBlock = some b \/ W8.heap.size <= b := by
         intro b hb;rcases hv9 with h | h
         . exact .inl (h ▸ hb)
         . rw [h, hgz] at hb; simp at hb; exact .inr (by omega)
        refine zhI ⟨HT.out.1.same fun b (hb : b < B0) => ?_, fun i h h' => ?_⟩
        .
         have hvb : (Value.slice vo u.length vc).ownBlock ≠ some b := fun e => by have := (hV.lt b e).1; omega
         have hkb' : (Value.slice ko j kc).ownBlock ≠ some b := fun e => by have := (hK.lt b e).1; omega
         exact hkept b (by have := hG.size; omega) hvb (by omega) hkb'
        .
         by_cases hi : i < ns.length
         .
          have hi' : i < KC.length := by have := H.out.2.1; have := H.out.2.2; omega
          rw [List.getElem_append_left hi', List.getElem_append_left hi];refine (HT.out.2 i hi' hi).same (fun b hb => hkept b hb.2.1 hb.2.2.2.2.2.2 hb.2.2.2.2.1 hb.2.2.2.2.2.1) fun b hb => ⟨hb.1, by omega, hb.2.2.1, hb.2.2.2.1, hb.2.2.2.2.1, fun e => ?_, fun e => ?_⟩
          .
           rcases ho9 b e with e | e
           . exact hb.2.2.2.2.2.1 e
           . omega
          .
           rcases r2 with e2 | e2
           . exact hb.2.2.2.2.2.2 (e2 ▸ e)
           . have := e2 b e; omega
         .
          have e1 : i = ns.length := by rw [zlA] at h'; simp at h'; omega
          have e2 : i = KC.length := by rw [e1, H.out.2.1, H.out.2.2]
          rw [List.getElem_append_right (by omega), List.getElem_append_right (by omega)];have e3 : i - KC.length = 0 := by omega
          have e4 : i - ns.length = 0 := by omega
          simp only [e3, e4, List.getElem_cons_zero];have hHs := hG.size;refine r4.same (fun b hb => hkept2 b hb.1 hb.2.1) fun b hb => ⟨by omega, by omega, by omega, by omega, by omega, fun e => ?_, hb.2.2.2⟩;rcases ho9 b e with e | e
          . have := (hK.lt b e).2; omega
          . omega
      case measure => simp [intOf]; omega
   .
    obtain rfl : j = a1 := by omega
    have hk0 : kidsW (loadR d frm til f) (zar (L.drop 2) j) (used ++ [page]) = some (ns, u) := by rw [H.out.1, List.drop_of_length_le (by rw [zdC]; exact Nat.le_refl _), kidsW];simp
    have hnl := H.out.2.1;have hkl := H.out.2.2;obtain ⟨-, hall⟩ := zbW hk0;have henc : EncOk (.mk [] ns page) := .inr ⟨by show 2 <= ns.length; omega, by show ns.length <= 8; omega, fun k hk => by obtain ⟨p, u1, u2, hg⟩ := hall k hk;have hs := zdu f hg;have hp := zjf hg;exact ⟨hs.first, hs.least, by omega, by omega⟩⟩
    have hNM : N + 1 < M := by rw [<- HM.out]; exact HY.out.2.1.lt
    have hwM : w.heap.size <= M := by rw [<- HM.out]; exact HY.out.2.2.2.2.1.size
    have hnd : NdS (fun b => w.heap.size <= b /\ b < wr.heap.size /\ b ≠ N /\ b ≠ N + 1 /\ b ≠ M /\ (Value.slice vo u.length vc).ownBlock ≠ some b) wr [.slice none 0 0, .slice ko j kc, .int .i64 page] (.mk [] ns page) := by
     obtain ⟨o', c', e, hs, hrow, -⟩ := zai hK;obtain ⟨rfl, rfl⟩ : ko = o' /\ kc = c' := by simpa using e
     have hm := NdS.mk (S := fun b => w.heap.size <= b /\ b < wr.heap.size /\ b ≠ N /\ b ≠ N + 1 /\ b ≠ M /\ (Value.slice vo u.length vc).ownBlock ≠ some b) (w := wr) [] ns page none 0 ko kc KC (.inl ⟨rfl, rfl, rfl⟩) (RowAt.nil _ _ _) (by rw [hnl]; exact hs) (by rw [hnl, hkl]) (fun i hi => by obtain ⟨g, off, eg, hc, hg⟩ := hrow i hi;have hne := zc6 hK hV (by decide) g (by rw [eg]; rfl);exact ⟨g, off, eg, hc, by omega, hg.2, by omega, by omega, by omega, hne⟩) (fun i h h' => (HT.out.2 i h' h).same (fun _ _ => rfl) fun b hb => ⟨hb.1, hb.2.1, hb.2.2.1, hb.2.2.2.1, hb.2.2.2.2.1, hb.2.2.2.2.2.2⟩)
     rw [hnl] at hm;exact hm
    have hbyt := fun W (hb : Below wr.heap.size wr W) => zid (.mk [] ns page) none ko 0 kc W (by
     have h1 := (hnd.same (T := fun b => b < wr.heap.size) (fun b hb' => hb.block b hb'.2.1) (fun b hb' => hb'.2.1)).c (w := W) fun b hb' => znL hb' hb.size;unfold ndC;simp only [Nd.ps, Nd.kids, Nd.page, hnl, List.length_nil];exact h1) henc
    obtain ⟨sB, hsB⟩ : ∃ y, bs (encD (.mk [] ns page)) = y := ⟨_, rfl⟩;rw [hsB] at hbyt;simp only [ndC, Nd.ps, Nd.kids, Nd.page, hnl, List.length_nil] at hbyt;have Hbyt := zhI hbyt;obtain ⟨eq1, heq1⟩ : ∃ y, (sB.toList == s.toList) = y := ⟨_, rfl⟩;have HP : Hid (loadR d frm til (f + 1) page used = if eq1 = true then some (.mk [] ns page, u) else none) := zhI (by
     have hencD : encD (.mk [] ns page) = padZ (encIn ns) := by unfold encD encL;rw [if_neg (show ¬ (Nd.mk [] ns page).kids = [] by intro e; have e : ns = [] := e; rw [e] at hnl; simp at hnl; omega)];rfl
     have e : eq1 = decide (padZ (encIn ns) = L) := by
      rw [<- heq1, <- hsB, <- HL.out.2.1, ziO, ziO, hencD]
      by_cases h : padZ (encIn ns) = L
      . rw [decide_eq_true h]; exact beq_iff_eq.2 h
      . rw [decide_eq_false h]; exact beq_eq_false_iff_ne.2 h
     rw [HP0.out, if_neg hA, Ha1.out, if_neg (by rintro (h | h | h); exact h (UInt8.toNat_inj.1 (by rw [Ha0.out, q1']; rfl)); exact t1 h; exact t2 h), hk0, e]
     simp)
    have Hnd := zhI hnd;have HX := zhI (zaI xR4 (zaI hV (zaI hG (zaI xM hv))));have cX := xM.cell;have lX := xM.lt;have cR := xR4.cell;have lR := xR4.lt;have fR := xR4.free;clear hbyt hnd hsB hk0 hnl hkl hall henc xR4 xM hK hV hG hv xD4;go_upto_region 19 with fail
    refine zah #[false, false, false, false, false, false, false, false, false] 9 (by kernel_rfl) (by rfl) rfl ?_;refine wpAny_take (i := 1) (v := (.slice vo u.length vc)) rfl (by kernel_rfl) (by kernel_rfl) (by kernel_rfl) (fun _ _ _ h => h) (Or.inl ⟨by rfl, fun w => by first | rfl | (go_simp; try with_reducible rfl)⟩) ?_;simp only [zgP, Act.put, zsP];refine wpAny_take (i := 4) (v := (.string s)) rfl (by kernel_rfl) (by kernel_rfl) (by kernel_rfl) (fun _ _ _ h => h) (Or.inl ⟨by rfl, fun w => by first | rfl | (go_simp; try with_reducible rfl)⟩) ?_;simp only [zgP, Act.put, zsP];refine wpAny_ready (rs := [0, 2]) (by kernel_rfl) (by simp) ?_;refine AllReady.cons rfl (fun K hK => ?_) (AllReady.cons rfl (fun K hK => ?_) AllReady.nil)
    .
     go_simp;refine hK _ _ ?_;clear hK K;simp only [List.setIfInBounds_toArray, List.set_cons_zero];refine wpAny_ready (rs := [2]) (by kernel_rfl) (by simp) ?_;refine AllReady.cons rfl (fun K hK => ?_) AllReady.nil;go_simp;refine hK _ _ ?_;clear hK K;simp only [zsP];refine wpAny_ready (rs := [3]) (by kernel_rfl) (by simp) ?_;refine AllReady.cons rfl (fun K hK => ?_) AllReady.nil;go_simp;have hdr : Below wr.heap.size wr wr.drew := ⟨rfl, rfl, rfl, Nat.le_refl _, fun _ _ => rfl⟩;refine (Hbyt.out _ hdr).mono ?_;rintro e W2 ⟨rfl, hb2'⟩;have hb2 : Below wr.heap.size wr W2 := hdr.trans hb2';clear hdr hb2';refine hK _ _ ?_;clear hK K;simp only [zsP];refine wpAny_take (i := 5) (v := ?_) rfl (by kernel_rfl) (by kernel_rfl) (by kernel_rfl) (fun _ _ _ h => h) (Or.inl ⟨by rfl, ?_⟩) ?_;rotate_left
     . intro w; go_simp; try with_reducible rfl
     simp only [Act.put, zsP]
     (try rw [heq1])
     clear heq1;have xR2 := HX.out.1.belowAll hb2;have hV2 := zae HX.out.2.1 hb2;have hG2 := World.grownBy.trans HX.out.2.2.1 (grownBy_below hb2 (Nat.le_refl _) _);have HY2 := zhI (zaI xR2 (zaI hV2 (zaI hG2 hb2)));clear cR lR fR cX lX;have cR := xR2.cell;have lR := xR2.lt;have fR := xR2.free;have xM2 := HX.out.2.2.2.1.belowAll hb2;have cX := xM2.cell;have lX := xM2.lt;clear hb2 xR2 hV2 hG2 xM2;refine wpAny_ready (rs := [6]) (by kernel_rfl) (by simp) ?_;refine AllReady.cons rfl (fun K hK => ?_) AllReady.nil;go_simp;refine hK _ _ ?_;clear hK K;refine wpAny_ready (rs := [7]) (by kernel_rfl) (by simp) ?_;refine AllReady.cons rfl (fun K hK => ?_) AllReady.nil;go_simp;refine hK _ _ ?_;clear hK K;refine wpAny_ready (rs := [8]) (by kernel_rfl) (by simp) ?_;refine AllReady.cons rfl (fun K hK => ?_) AllReady.nil;go_simp;refine hK _ _ ?_;clear hK K;refine wpAny_done (by kernel_rfl) ?_ _;obtain ⟨Wf, hWf⟩ : ∃ Wf, ((W2.setCell ⟨N + 1, 0, none⟩ (.slice none 0 0)).setCell ⟨N + 1, 1, none⟩ (.slice ko j kc)).setCell ⟨N + 1, 2, none⟩ (.int .i64 page) = Wf := ⟨_, rfl⟩;have zR : Bx Wf (N + 1) #[.slice none 0 0, .slice ko j kc, .int .i64 page] 95 := by rw [<- hWf];have := ((HY2.out.1.set 0 (.slice none 0 0)).set 1 (.slice ko j kc)).set 2 (.int .i64 page);simpa using this
     have hne : (Value.slice vo u.length vc).ownBlock ≠ some (N + 1) := zab HX.out.2.1 HX.out.1 (by decide);have zO : Wf.ownsRow B0 3 1 (.slice vo u.length vc) u.length (intsV u) := by rw [<- hWf];exact zac (a := ⟨N + 1, 2, none⟩) (zac (a := ⟨N + 1, 1, none⟩) (zac (a := ⟨N + 1, 0, none⟩) HY2.out.2.1 hne _) hne _) hne _
     have zB : Below w.heap.size W2 Wf := by rw [<- hWf]; exact zaa (zaa (zaa (Below.refl _ _) (by omega)) (by omega)) (by omega)
     have zS : ∀ b, b ≠ N + 1 -> Wf.heap[b]? = W2.heap[b]? := fun b hb => by rw [<- hWf];exact (Below.heap_setCell _ ⟨N + 1, 2, none⟩ _ _ hb).trans ((Below.heap_setCell _ ⟨N + 1, 1, none⟩ _ _ hb).trans (Below.heap_setCell _ ⟨N + 1, 0, none⟩ _ _ hb))
     have HZ := zhI (zaI zR (zaI zO (zaI zB zS)));clear cR lR fR cX lX hne zR zO zB zS;rw [hWf];have HWf := zhI hWf;clear hWf;go_wp2;have cZ := HZ.out.1.cell;refine bodyPost_ret (v := .tuple #[.agg #[.slice none 0 0, .slice ko j kc, .int .i64 page], .slice vo u.length vc, .bool eq1]) (by simp [results, Tryz.results55, go_sem, cZ]) rfl ?_;rw [<- HR.out, HP.out];obtain ⟨zR, zO, zB, zS⟩ := HZ.out;obtain ⟨yR, yV, yG, yb⟩ := HY2.out;refine ⟨⟨zB.os.trans yG.os, zB.tape.trans yG.tape, zB.output.trans yG.output, znT yG.size zB.size, fun j hj hn => (zB.block j hj).trans (yG.block j hj hn)⟩, _, _, _, _, _, _, _, _, _, _, by cases eq1 <;> rfl, fun n' u' h => ?_⟩
     cases eq1 with
     | false => cases h
     | true => have h := Option.some.inj h;cases h;refine ⟨zO, HX.out.2.2.2.2, Hnd.out.same (fun b hb => (zS b hb.2.2.2.1).trans (yb.block b hb.2.1)) fun b hb => ⟨hb.1, ?_, hb.2.2.2.2.2⟩⟩;have := yb.size;have := zB.size;omega
    .
     go_simp;refine hK _ _ ?_;clear hK K;simp only [zsP];refine wpAny_ready (rs := [0, 3]) (by kernel_rfl) (by simp) ?_;refine AllReady.cons rfl (fun K hK => ?_) (AllReady.cons rfl (fun K hK => ?_) AllReady.nil)
     .
      go_simp;refine hK _ _ ?_;clear hK K;simp only [List.setIfInBounds_toArray, List.set_cons_zero];refine wpAny_ready (rs := [3]) (by kernel_rfl) (by simp) ?_;refine AllReady.cons rfl (fun K hK => ?_) AllReady.nil;go_simp;have hdr : Below wr.heap.size wr wr.drew := ⟨rfl, rfl, rfl, Nat.le_refl _, fun _ _ => rfl⟩;refine (Hbyt.out _ hdr).mono ?_;rintro e W2 ⟨rfl, hb2'⟩;have hb2 : Below wr.heap.size wr W2 := hdr.trans hb2';clear hdr hb2';refine hK _ _ ?_;clear hK K;simp only [zsP];refine wpAny_take (i := 5) (v := ?_) rfl (by kernel_rfl) (by kernel_rfl) (by kernel_rfl) (fun _ _ _ h => h) (Or.inl ⟨by rfl, ?_⟩) ?_;rotate_left
      . intro w; go_simp; try with_reducible rfl
      simp only [Act.put, zsP]
      (try rw [heq1])
      clear heq1;have xR2 := HX.out.1.belowAll hb2;have hV2 := zae HX.out.2.1 hb2;have hG2 := World.grownBy.trans HX.out.2.2.1 (grownBy_below hb2 (Nat.le_refl _) _);have HY2 := zhI (zaI xR2 (zaI hV2 (zaI hG2 hb2)));clear cR lR fR cX lX;have cR := xR2.cell;have lR := xR2.lt;have fR := xR2.free;have xM2 := HX.out.2.2.2.1.belowAll hb2;have cX := xM2.cell;have lX := xM2.lt;clear hb2 xR2 hV2 hG2 xM2;refine wpAny_ready (rs := [6]) (by kernel_rfl) (by simp) ?_;refine AllReady.cons rfl (fun K hK => ?_) AllReady.nil;go_simp;refine hK _ _ ?_;clear hK K;refine wpAny_ready (rs := [7]) (by kernel_rfl) (by simp) ?_;refine AllReady.cons rfl (fun K hK => ?_) AllReady.nil;go_simp;refine hK _ _ ?_;clear hK K;refine wpAny_ready (rs := [8]) (by kernel_rfl) (by simp) ?_;refine AllReady.cons rfl (fun K hK => ?_) AllReady.nil;go_simp;refine hK _ _ ?_;clear hK K;refine wpAny_done (by kernel_rfl) ?_ _;obtain ⟨Wf, hWf⟩ : ∃ Wf, ((W2.setCell ⟨N + 1, 0, none⟩ (.slice none 0 0)).setCell ⟨N + 1, 1, none⟩ (.slice ko j kc)).setCell ⟨N + 1, 2, none⟩ (.int .i64 page) = Wf := ⟨_, rfl⟩;have zR : Bx Wf (N + 1) #[.slice none 0 0, .slice ko j kc, .int .i64 page] 95 := by rw [<- hWf];have := ((HY2.out.1.set 0 (.slice none 0 0)).set 1 (.slice ko j kc)).set 2 (.int .i64 page);simpa using this
      have hne : (Value.slice vo u.length vc).ownBlock ≠ some (N + 1) := zab HX.out.2.1 HX.out.1 (by decide);have zO : Wf.ownsRow B0 3 1 (.slice vo u.length vc) u.length (intsV u) := by rw [<- hWf];exact zac (a := ⟨N + 1, 2, none⟩) (zac (a := ⟨N + 1, 1, none⟩) (zac (a := ⟨N + 1, 0, none⟩) HY2.out.2.1 hne _) hne _) hne _
      have zB : Below w.heap.size W2 Wf := by rw [<- hWf]; exact zaa (zaa (zaa (Below.refl _ _) (by omega)) (by omega)) (by omega)
      have zS : ∀ b, b ≠ N + 1 -> Wf.heap[b]? = W2.heap[b]? := fun b hb => by rw [<- hWf];exact (Below.heap_setCell _ ⟨N + 1, 2, none⟩ _ _ hb).trans ((Below.heap_setCell _ ⟨N + 1, 1, none⟩ _ _ hb).trans (Below.heap_setCell _ ⟨N + 1, 0, none⟩ _ _ hb))
      have HZ := zhI (zaI zR (zaI zO (zaI zB zS)));clear cR lR fR cX lX hne zR zO zB zS;rw [hWf];have HWf := zhI hWf;clear hWf;go_wp2;have cZ := HZ.out.1.cell;refine bodyPost_ret (v := .tuple #[.agg #[.slice none 0 0, .slice ko j kc, .int .i64 page], .slice vo u.length vc, .bool eq1]) (by simp [results, Tryz.results55, go_sem, cZ]) rfl ?_;rw [<- HR.out, HP.out];obtain ⟨zR, zO, zB, zS⟩ := HZ.out;obtain ⟨yR, yV, yG, yb⟩ := HY2.out;refine ⟨⟨zB.os.trans yG.os, zB.tape.trans yG.tape, zB.output.trans yG.output, znT yG.size zB.size, fun j hj hn => (zB.block j hj).trans (yG.block j hj hn)⟩, _, _, _, _, _, _, _, _, _, _, by cases eq1 <;> rfl, fun n' u' h => ?_⟩
      cases eq1 with
      | false => cases h
      | true => have h := Option.some.inj h;cases h;refine ⟨zO, HX.out.2.2.2.2, Hnd.out.same (fun b hb => (zS b hb.2.2.2.1).trans (yb.block b hb.2.1)) fun b hb => ⟨hb.1, ?_, hb.2.2.2.2.2⟩⟩;have := yb.size;have := zB.size;omega
     .
      go_simp;have hdr : Below wr.heap.size wr wr.drew := ⟨rfl, rfl, rfl, Nat.le_refl _, fun _ _ => rfl⟩;refine (Hbyt.out _ hdr).mono ?_;rintro e W2 ⟨rfl, hb2'⟩;have hb2 : Below wr.heap.size wr W2 := hdr.trans hb2';clear hdr hb2';refine hK _ _ ?_;clear hK K;simp only [zsP];refine wpAny_take (i := 5) (v := ?_) rfl (by kernel_rfl) (by kernel_rfl) (by kernel_rfl) (fun _ _ _ h => h) (Or.inl ⟨by rfl, ?_⟩) ?_;rotate_left
      . intro w; go_simp; try with_reducible rfl
      simp only [Act.put, zsP]
      (try rw [heq1])
      clear heq1;have xR2 := HX.out.1.belowAll hb2;have hV2 := zae HX.out.2.1 hb2;have hG2 := World.grownBy.trans HX.out.2.2.1 (grownBy_below hb2 (Nat.le_refl _) _);have HY2 := zhI (zaI xR2 (zaI hV2 (zaI hG2 hb2)));clear cR lR fR cX lX;have cR := xR2.cell;have lR := xR2.lt;have fR := xR2.free;have xM2 := HX.out.2.2.2.1.belowAll hb2;have cX := xM2.cell;have lX := xM2.lt;clear hb2 xR2 hV2 hG2 xM2;refine wpAny_ready (rs := [0]) (by kernel_rfl) (by simp) ?_;refine AllReady.cons rfl (fun K hK => ?_) AllReady.nil;go_simp;refine hK _ _ ?_;clear hK K;simp only [List.setIfInBounds_toArray, List.set_cons_zero];refine wpAny_ready (rs := [6]) (by kernel_rfl) (by simp) ?_;refine AllReady.cons rfl (fun K hK => ?_) AllReady.nil;go_simp;refine hK _ _ ?_;clear hK K;refine wpAny_ready (rs := [7]) (by kernel_rfl) (by simp) ?_;refine AllReady.cons rfl (fun K hK => ?_) AllReady.nil;go_simp;refine hK _ _ ?_;clear hK K;refine wpAny_ready (rs := [8]) (by kernel_rfl) (by simp) ?_;refine AllReady.cons rfl (fun K hK => ?_) AllReady.nil;go_simp;refine hK _ _ ?_;clear hK K;refine wpAny_done (by kernel_rfl) ?_ _;obtain ⟨Wf, hWf⟩ : ∃ Wf, ((W2.setCell ⟨N + 1, 0, none⟩ (.slice none 0 0)).setCell ⟨N + 1, 1, none⟩ (.slice ko j kc)).setCell ⟨N + 1, 2, none⟩ (.int .i64 page) = Wf := ⟨_, rfl⟩;have zR : Bx Wf (N + 1) #[.slice none 0 0, .slice ko j kc, .int .i64 page] 95 := by rw [<- hWf];have := ((HY2.out.1.set 0 (.slice none 0 0)).set 1 (.slice ko j kc)).set 2 (.int .i64 page);simpa using this
      have hne : (Value.slice vo u.length vc).ownBlock ≠ some (N + 1) := zab HX.out.2.1 HX.out.1 (by decide);have zO : Wf.ownsRow B0 3 1 (.slice vo u.length vc) u.length (intsV u) := by rw [<- hWf];exact zac (a := ⟨N + 1, 2, none⟩) (zac (a := ⟨N + 1, 1, none⟩) (zac (a := ⟨N + 1, 0, none⟩) HY2.out.2.1 hne _) hne _) hne _
      have zB : Below w.heap.size W2 Wf := by rw [<- hWf]; exact zaa (zaa (zaa (Below.refl _ _) (by omega)) (by omega)) (by omega)
      have zS : ∀ b, b ≠ N + 1 -> Wf.heap[b]? = W2.heap[b]? := fun b hb => by rw [<- hWf];exact (Below.heap_setCell _ ⟨N + 1, 2, none⟩ _ _ hb).trans ((Below.heap_setCell _ ⟨N + 1, 1, none⟩ _ _ hb).trans (Below.heap_setCell _ ⟨N + 1, 0, none⟩ _ _ hb))
      have HZ := zhI (zaI zR (zaI zO (zaI zB zS)));clear cR lR fR cX lX hne zR zO zB zS;rw [hWf];have HWf := zhI hWf;clear hWf;go_wp2;have cZ := HZ.out.1.cell;refine bodyPost_ret (v := .tuple #[.agg #[.slice none 0 0, .slice ko j kc, .int .i64 page], .slice vo u.length vc, .bool eq1]) (by simp [results, Tryz.results55, go_sem, cZ]) rfl ?_;rw [<- HR.out, HP.out];obtain ⟨zR, zO, zB, zS⟩ := HZ.out;obtain ⟨yR, yV, yG, yb⟩ := HY2.out;refine ⟨⟨zB.os.trans yG.os, zB.tape.trans yG.tape, zB.output.trans yG.output, znT yG.size zB.size, fun j hj hn => (zB.block j hj).trans (yG.block j hj hn)⟩, _, _, _, _, _, _, _, _, _, _, by cases eq1 <;> rfl, fun n' u' h => ?_⟩
      cases eq1 with
      | false => cases h
      | true => have h := Option.some.inj h;cases h;refine ⟨zO, HX.out.2.2.2.2, Hnd.out.same (fun b hb => (zS b hb.2.2.2.1).trans (yb.block b hb.2.1)) fun b hb => ⟨hb.1, ?_, hb.2.2.2.2.2⟩⟩;have := yb.size;have := zB.size;omega
end
end Go.Proofs.YtlefmmhlpgmbjaaGreat
