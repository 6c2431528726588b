/- Loading a tree: (*loader).inner, (*loader).load. Loading a tree: (*loader).load. btree.free: the pages of nodes that are not used. -/
import Derived.Test.YtlefmmhlpgmbjaaGreatS08
import Derived.Test.YtlefmmhlpgmbjaaGreatS07
import Derived.Maps.AppendAt
import Derived.Maps.OwnOps
import Derived.Test.YtlefmmhlpgmbjaaGreatS01
namespace Go.Proofs.YtlefmmhlpgmbjaaGreat
set_option maxRecDepth 100000
open Go.RowKit
def ldC (d : Dsk) (po co : Option Addr) (pc cc : Nat) (frm til : Int) (mb : Nat) : Array Value := #[.int .i64 d.size, .slice po d.pages.length pc, .slice co d.cache.length cc, .int .i64 d.left, .int .i64 frm, .int .i64 til, .map (some mb)]
structure LdrAt (B0 : Nat) (w : World) (lb mb : Nat) (d : Dsk) (po co : Option Addr) (pc cc : Nat) (frm til : Int) : Prop where
 h1 : B0 <= mb
 h2 : lb ≠ mb
 hx : Bx w lb (ldC d po co pc cc frm til mb) 146
 hd : DskR (· < B0) w (.agg (zmq d po co pc cc)) d
 hz : B0 <= w.heap.size
theorem LdrAt.grown {B0 : Nat} {w w' : World} {lb mb : Nat} {d : Dsk} {po co : Option Addr} {pc cc : Nat} {frm til : Int} (h : LdrAt B0 w lb mb d po co pc cc frm til) (hg : w.grownBy w' (some mb)) : LdrAt B0 w' lb mb d po co pc cc frm til :=
 ⟨h.h1, h.h2, h.hx.grown hg (by simpa using h.h2), h.hd.same (w' := w') (fun b hb => hg.block b (znL hb h.hz) (by have := h.h1; simp; omega)), znT h.hz hg.size⟩
theorem LdrAt.dsk {B0 : Nat} {w : World} {lb mb : Nat} {d : Dsk} {po co : Option Addr} {pc cc : Nat} {frm til : Int} (h : LdrAt B0 w lb mb d po co pc cc frm til) : DskV w (.agg (zmq d po co pc cc)) d := h.hd.mono fun _ hb => znL hb h.hz
theorem LdrAt.stays {B0 B : Nat} {w w' : World} {lb mb : Nat} {d : Dsk} {po co : Option Addr} {pc cc : Nat} {frm til : Int} (h : LdrAt B0 w lb mb d po co pc cc frm til) (hb : Below B w w') (h1 : lb < B) (h2 : B0 <= B) : LdrAt B0 w' lb mb d po co pc cc frm til :=
 ⟨h.h1, h.h2, h.hx.below hb h1, h.hd.same (w' := w') (fun b hb' => hb.block b (znL hb' h2)), znT h.hz hb.size⟩
theorem MapI.same {w w' : World} {b n : Nat} {l : List Int} (h : MapI w b n l) (he : w'.heap[b]? = w.heap[b]?) : MapI w' b n l := by
 obtain ⟨D, ⟨es, clock, h1, h2⟩, h3⟩ := h;exact ⟨D, ⟨es, clock, he.trans h1, h2⟩, h3⟩
theorem AT.fpL_snoc (l : List AT) (t : AT) : AT.fpL (l ++ [t]) = AT.fpL l ++ t.fp := by rw [AT.fpL_eq, AT.fpL_eq]; simp
theorem Lies.down {base base' : Nat} {w : World} (hb : base' <= base) : ∀ {t : AT}, Lies base w t -> Lies base' w t := by
 intro t;have hr : ∀ {e : TypeId} {k n : Nat} {v : Value} {xs : List Value}, RowO w base e k v n xs -> RowO w base' e k v n xs := by
  intro e k n v xs h;refine ⟨h.1, ?_⟩;rcases h.2 with h | ⟨g, cap, cur, h1, h2, h3⟩
  . exact .inl h
  . exact .inr ⟨g, cap, cur, h1, znT hb h2, h3⟩
 induction t using AT.ind with
 | h b pv kv ps kids page ih => intro h;have h5 := h.hc;exact .mk _ _ _ _ _ _ (znT hb h.hb) h.hx (hr h.hp) (hr h.hk) fun t ht => ih t ht (h5 t ht)
theorem Lies.grown {base : Nat} {w w' : World} {t : AT} {row : Option Nat} (h : Lies base w t) (hg : w.grownBy w' row) (hr : ∀ x, row = some x -> x ∉ t.fp) : Lies base w' t :=
 h.same fun x hx => hg.block x (h.lt x hx).2 fun e => hr x e.symm hx
def za2 (o : Option (Nd × Nat × List Int)) (mb : Nat) (w : World) (e : Ending) (w' : World) : Prop :=
 w.grownBy w' (some mb) /\
 match o with
 | none => ∃ v k, e = .returned (.tuple #[v, .int .i64 k, .bool false])
 | some (n, k, u) => ∃ t : AT, e = .returned (.tuple #[t.ptr, .int .i64 (k : Int), .bool true]) /\ t.nd = n /\ Lies w.heap.size w' t /\ t.fp.Nodup /\ MapI w' mb u.length u
def zdk (o : Option (List Nd × Nat × List Int)) (mb : Nat) (w : World) (e : Ending) (w' : World) : Prop :=
 w.grownBy w' (some mb) /\
 match o with
 | none => ∃ v k, e = .returned (.tuple #[v, .int .i64 k, .bool false])
 | some (ns, k, u) => ∃ (kv : Value) (ts : List AT), e = .returned (.tuple #[.pointer (some ⟨w.heap.size, 0, none⟩), .int .i64 ((k + 1 : Nat) : Int), .bool true]) /\ ts.map AT.nd = ns /\
   Lies w.heap.size w' (.mk w.heap.size (.slice none 0 0) kv [] ts 0) /\ (AT.mk w.heap.size (.slice none 0 0) kv [] ts 0).fp.Nodup /\ MapI w' mb u.length u
theorem zdG : (Tryz.prog.info? 88).map (fun i => (i.zero, i.size, i.bytes)) = some (some (.pointer none), 1, 8) := by kernel_rfl
theorem zbH {S : List UInt8} {n j : Nat} (h : j < n) : (zar S n).drop j = kidPg S j :: (zar S n).drop (j + 1) := by
 have hl : j < (zar S n).length := by simp [zar]; exact h
 rw [List.drop_eq_getElem_cons hl];congr 1;simp [zar]
theorem zj4 {g : Int -> List Int -> Option (Nd × Nat × List Int)} {p : Int} {r u u1 : List Int} {o : Option Nat} {n : Nd} {k : Nat} (h : g p u = some (n, k, u1)) (ho : o = none \/ o = some k) : kidsV g (p :: r) o u = (kidsV g r (some k) u1).map fun x => (n :: x.1, x.2) := by
 rw [kidsV, h];simp only;rw [if_neg];rintro ⟨h1, h2⟩;rcases ho with ho | ho
 . exact h1 ho
 . exact h2 ho
section
variable (B0 lb mb : Nat) (d : Dsk) (po co : Option Addr) (pc cc : Nat) (frm til : Int)
def LoadC (f : Nat) : Prop := ∀ (root : Bool) (page : Int) (used : List Int) (w : World), LdrAt B0 w lb mb d po co pc cc frm til -> MapI w mb used.length used -> zaV frm til used -> (til - frm - 2).toNat < f + used.length -> PgOk page ->
 Calls Tryz.prog 91 #[.pointer (some ⟨lb, 0, none⟩), .int .i64 page, .bool root] w (za2 (loadP d frm til f root page used) mb w)
set_option maxHeartbeats 8000000 in
theorem zme (f : Nat) (ih : LoadC B0 lb mb d po co pc cc frm til f) (_hft : frm + 2 <= til) (_ht : til <= 1000000) (hfu : f <= 1000000) (S : List UInt8) (cnt : Nat) (hS : 2 * cnt <= S.length) (hSl : S.length <= 1000000) (hc2 : 2 <= cnt) (hc8 : cnt <= 8) (used : List Int) (w : World)
  (hL : LdrAt B0 w lb mb d po co pc cc frm til) (hM : MapI w mb used.length used) (hu : zaV frm til used) (hf : (til - frm - 2).toNat < f + used.length) :
  Calls Tryz.prog 132 #[.pointer (some ⟨lb, 0, none⟩), .string (bs S), .int .i64 cnt] w (zdk (kidsV (loadP d frm til f false) (zar S cnt) none used) mb w) := by
 obtain ⟨ip, hip, hz0, hz1, hz2⟩ := info_parts zdG;have Hi := zhI (zaI hip (zaI hz0 (zaI hz1 hz2)));clear hip hz0 hz1 hz2;obtain ⟨F, hF⟩ : ∃ F, loadP d frm til f false = F := ⟨_, rfl⟩;rw [hF];have HF := zhI hF;have Hih := zhI ih;obtain ⟨R, hR⟩ : ∃ R, zdk (kidsV F (zar S cnt) none used) mb w = R := ⟨_, rfl⟩;rw [hR];have HR := zhI hR;obtain ⟨s, hs⟩ : ∃ s, bs S = s := ⟨_, rfl⟩;have hsz : s.size = S.length := by rw [<- hs, zaj]
 have hsg : ∀ (i : Nat) (h : i < s.size), s[i].toNat = (S.getD i 0).toNat := fun i h => by
  subst hs;have h' : i < S.length := by omega
  rw [zep _ _ h', List.getD_eq_getElem?_getD, List.getElem?_eq_getElem h']; rfl
 rw [hs];have Hsg := zhI hsg;have HL := zhI hL;have HM := zhI hM;have hmw := hM.lt;have hlw := hL.hx.lt;have hBw := hL.hz;obtain ⟨N, hN⟩ : ∃ N, w.heap.size = N := ⟨_, rfl⟩;clear hR hF ih hs hsg hL hM;go_enter Tryz.func132, Tryz.ntmps132;go_wp2
 go_loopw [10, 18] (fun dp i wr => ∃ (j : Nat) (ts : List AT) (o : Option Addr) (c : Nat) (u : List Int) (dep : Nat), j <= cnt /\ i = .int .i64 j /\ dp = .int .i64 dep /\
  Hid (kidsV F (zar S cnt) none used = (kidsV F ((zar S cnt).drop j) (if j = 0 then none else some dep) u).map (fun x => (ts.map AT.nd ++ x.1, x.2)) /\ ts.length = j) /\ zaV frm til u /\ used.length <= u.length /\ dep <= f /\
  Bx wr N #[.bool false, .slice none 0 0, .slice o j c, .int .i64 0] 129 /\ wr.ownsRow N 88 1 (.slice o j c) j (ts.map AT.ptr) /\
  Hid ((∀ t ∈ ts, Lies N wr t) /\ (AT.fpL ts).Nodup /\ (∀ x ∈ AT.fpL ts, N < x /\ (Value.slice o j c).ownBlock ≠ some x) /\ MapI wr mb u.length u /\ LdrAt B0 wr lb mb d po co pc cc frm til) /\ w.grownBy wr (some mb) /\ N < wr.heap.size) (fun _ i _ => cnt - (intOf i).toNat)
 case atStart => refine ⟨0, [], none, 0, used, 0, by omega, rfl, rfl, zhI ⟨?_, rfl⟩, hu, Nat.le_refl _, Nat.zero_le _, by subst hN; exact Bx.new w _ _, World.ownsRow_nil _ _ _ _, zhI ⟨fun _ h => (by cases h), List.nodup_nil, fun _ h => (by cases h), HM.out.kept (World.grownBy_alloc w _ none) (by simp), HL.out.grown (World.grownBy_alloc w _ _)⟩, World.grownBy_alloc w _ _, by subst hN; simp⟩;simp
 case round =>
  obtain ⟨j, ts, o, c, u, dep, hj, rfl, rfl, H, huu, hul, hdf, x, hown, HT, hg, hNz⟩ := hrel
  by_cases hlt : j < cnt
  .
   obtain ⟨p1, hp1⟩ : ∃ n, (S.getD (2 * j) 0).toNat = n := ⟨_, rfl⟩;obtain ⟨p2, hp2⟩ : ∃ n, (S.getD (2 * j + 1) 0).toNat = n := ⟨_, rfl⟩;have b1 : p1 < 256 := by rw [<- hp1]; exact UInt8.toNat_lt _
   have b2 : p2 < 256 := by rw [<- hp2]; exact UInt8.toNat_lt _
   obtain ⟨q, hq⟩ : ∃ q, 2 * j = q := ⟨_, rfl⟩;have hq' : 2 * (j : Int) = (q : Int) := by omega
   have hql : q + 1 < s.size := by omega
   have E1 : ∀ h : q < s.size, s[q].toNat = p1 := fun h => by rw [Hsg.out, <- hq, hp1]
   have E2 : ∀ h : q + 1 < s.size, s[q + 1].toNat = p2 := fun h => by rw [Hsg.out, <- hq, hp2]
   clear hq;have hq0 : q < s.size := by omega
   have e1 := E1 hq0;have e2 := E2 hql;have hpg : kidPg S j = ((p1 * 256 + p2 : Nat) : Int) := by unfold kidPg; rw [hp1, hp2]
   have Hpg := zhI hpg;clear hp1 hp2 hpg E1 E2;have hor : bits .or .i64 ((p1 : Int) * 256) (p2 : Int) = ((p1 * 256 + p2 : Nat) : Int) := by have := or8 p1 p2 (by omega) b2;rw [IntWalk.wrap64_in ((p1 : Int) * 256) (by omega), IntWalk.wrap64_in (p2 : Int) (by omega), IntWalk.wrap64_in ((p1 : Int) * 256 + p2) (by omega)] at this;rw [this];omega
   obtain ⟨pgn, hpgn⟩ : ∃ n : Nat, p1 * 256 + p2 = n := ⟨_, rfl⟩;rw [hpgn] at hor Hpg;have hpb : pgn < 65536 := by omega
   clear hpgn;have hG := zhI hg;have hO := zhI hown;have hX := zhI x;clear hg hown x;go_upto_region 6 with fail
   have cQ := Lat.cells wr;refine zal 14 8 #[true, true, true, true, true, true, true, true, true, true, true, true, true, true, false, false, false, false, false, false, false, false] (fun i => none) (by kernel_rfl) (by rfl) (by rfl) (by kernel_rfl) ?_;simp only [List.take_succ_cons, List.take_zero];refine LW.block 14 14 (by rfl) (by kernel_rfl) (by kernel_rfl) ?_;simp only [ztP]
   repeat (first | go_big_quiet_skip | (go_big_quiet_want; go_big_quiet_op; go_big_quiet_on))
   refine wpQuiet_nil ?_;refine LW.done ?_;intro W2 hGd;have hbW := hGd.below;obtain ⟨ht1, ht2, ht3, ht4, ht5⟩ := HT.out;have hL2 := ht5.grown (grownBy_below hbW (Nat.le_refl _) _);have hM2 := ht4.below hbW;have hLW := zhI hL2;have hcall := zhI (Hih.out false (pgn : Int) u W2 hL2 hM2 huu (by omega) ⟨by omega, by omega⟩);rw [HF.out] at hcall;have hl2 := zhI (fun t ht => (ht1 t ht).staysAll hbW);have hg2 : Hid (w.grownBy W2 (some mb)) := zhI (hG.out.trans (grownBy_below hbW (Nat.le_refl _) _));have hx2 := zhI (hX.out.belowAll hbW);have ho2 := zhI (zae hO.out hbW);have hnd := zhI (zaI ht2 ht3);have hNz2 : N < W2.heap.size := znL hNz hbW.size;have hlt2 := zhI (fun x hx => by obtain ⟨t, ht, hx⟩ := AT.mem_fpL.1 hx;exact ((hl2.out t ht).lt x hx).2 : ∀ x ∈ AT.fpL ts, x < W2.heap.size)
   clear hGd cQ hbW ht1 ht2 ht3 ht4 ht5 hL2 hM2 HT hG hX hO hNz;refine wpAny_ready (rs := [14]) (by kernel_rfl) (by simp) ?_;refine AllReady.cons rfl (fun K hK => ?_) AllReady.nil;go_simp;refine hcall.out.mono ?_;rintro e W3 ⟨hg3, hres⟩;cases hFr : F (pgn : Int) u with
   | none =>
    rw [hFr] at hres;obtain ⟨v, k, rfl⟩ := hres;have HP : Hid (kidsV F (zar S cnt) none used = none) := zhI (by
     rw [H.out.1, zbH hlt, Hpg.out, kidsV, hFr]; rfl)
    refine hK _ _ ?_;clear hK K hFr hcall;simp only [zsP];refine wpAny_ready (rs := [15]) (by kernel_rfl) (by simp) ?_;refine AllReady.cons rfl (fun K hK => ?_) AllReady.nil;go_simp;refine hK _ _ ?_;clear hK K;refine wpAny_take (i := 16) (v := ?_) rfl (by kernel_rfl) (by kernel_rfl) (by kernel_rfl) (fun _ _ _ h => h) (Or.inl ⟨by rfl, ?_⟩) ?_;rotate_left
    . intro w; go_simp; try with_reducible rfl
    simp only [Act.put, zsP];refine wpAny_take (i := 17) (v := ?_) rfl (by kernel_rfl) (by kernel_rfl) (by kernel_rfl) (fun _ _ _ h => h) (Or.inl ⟨by rfl, ?_⟩) ?_;rotate_left
    . intro w; go_simp; try with_reducible rfl
    simp only [Act.put, zsP];refine wpAny_take (i := 18) (v := ?_) rfl (by kernel_rfl) (by kernel_rfl) (by kernel_rfl) (fun _ _ _ h => h) (Or.inl ⟨by rfl, ?_⟩) ?_;rotate_left
    . intro w; go_simp; try with_reducible rfl
    simp only [Act.put, zsP];refine wpAny_ready (rs := [19]) (by kernel_rfl) (by simp) ?_;refine AllReady.cons rfl (fun K hK => ?_) AllReady.nil;go_simp;refine hK _ _ ?_;clear hK K;refine wpAny_ready (rs := [20]) (by kernel_rfl) (by simp) ?_;refine AllReady.cons rfl (fun K hK => ?_) AllReady.nil;go_simp;refine hK _ _ ?_;clear hK K;refine wpAny_ready (rs := [21]) (by kernel_rfl) (by simp) ?_;refine AllReady.cons rfl (fun K hK => ?_) AllReady.nil;go_simp;refine hK _ _ ?_;clear hK K;refine wpAny_done (by kernel_rfl) ?_ _;go_wp2;refine bodyPost_ret (v := .tuple #[.pointer none, .int .i64 0, .bool false]) (by simp [results, Tryz.results132, go_sem]) rfl ?_;rw [<- HR.out];unfold zdk;rw [HP.out];exact ⟨hg2.out.trans hg3, _, _, rfl⟩
   | some r =>
    obtain ⟨n, k, u1⟩ := r;rw [hFr] at hres;obtain ⟨t, rfl, htn, htl, htd, htm⟩ := hres;have Hg3 := zhI (hg2.out.trans hg3);have HL3 := zhI (hLW.out.grown hg3);have hmN : mb < N := by rw [<- hN]; exact hmw
    have HtL := zhI (htl.down (Nat.le_of_lt hNz2));have Htm := zhI htm;have Htl := zhI htl.lt;have Hts : Hid (∀ x ∈ ts, Lies N W3 x) := zhI (fun x hx => (hl2.out x hx).grown hg3 (fun y e hy => by cases e; have := ((hl2.out x hx).lt _ hy).1; omega));have Hx3 := zhI (hx2.out.grown hg3 (by simp; omega));have Ho3 := zhI (ho2.out.kept hg3 (.inr (fun e => by have := (ho2.out.lt mb e).1; omega)));have Hob := zhI (ho2.out.lt);have hz3 : W2.heap.size <= W3.heap.size := hg3.size;have Hn := zhI (zaI htn htd);refine hK _ _ ?_;clear hK K hcall hg3 htl htd htm htn hx2 ho2 hl2 hg2;simp only [AT.ptr, zsP];refine wpAny_ready (rs := [15]) (by kernel_rfl) (by simp) ?_;refine AllReady.cons rfl (fun K hK => ?_) AllReady.nil;go_simp;refine hK _ _ ?_;clear hK K;refine wpAny_take (i := 16) (v := ?_) rfl (by kernel_rfl) (by kernel_rfl) (by kernel_rfl) (fun _ _ _ h => h) (Or.inl ⟨by rfl, ?_⟩) ?_;rotate_left
    . intro w; go_simp; try with_reducible rfl
    simp only [Act.put, zsP];refine wpAny_take (i := 17) (v := ?_) rfl (by kernel_rfl) (by kernel_rfl) (by kernel_rfl) (fun _ _ _ h => h) (Or.inl ⟨by rfl, ?_⟩) ?_;rotate_left
    . intro w; go_simp; try with_reducible rfl
    simp only [Act.put, zsP];refine wpAny_take (i := 18) (v := ?_) rfl (by kernel_rfl) (by kernel_rfl) (by kernel_rfl) (fun _ _ _ h => h) (Or.inl ⟨by rfl, ?_⟩) ?_;rotate_left
    . intro w; go_simp; try with_reducible rfl
    simp only [Act.put, zsP];refine wpAny_ready (rs := [19]) (by kernel_rfl) (by simp) ?_;refine AllReady.cons rfl (fun K hK => ?_) AllReady.nil;go_simp;refine hK _ _ ?_;clear hK K;refine wpAny_ready (rs := [20]) (by kernel_rfl) (by simp) ?_;refine AllReady.cons rfl (fun K hK => ?_) AllReady.nil;go_simp;refine hK _ _ ?_;clear hK K;refine wpAny_ready (rs := [21]) (by kernel_rfl) (by simp) ?_;refine AllReady.cons rfl (fun K hK => ?_) AllReady.nil;go_simp;refine hK _ _ ?_;clear hK K;refine wpAny_done (by kernel_rfl) ?_ _;cases hbad : (decide (0 < j) && decide (k ≠ dep));rotate_left
    .
     simp only [Bool.and_eq_true, decide_eq_true_eq] at hbad;obtain ⟨hj0, hkd⟩ := hbad;have HP : Hid (kidsV F (zar S cnt) none used = none) := zhI (by
      rw [H.out.1, zbH hlt, Hpg.out, if_neg (by omega), kidsV, hFr];simp only;rw [if_pos ⟨by simp, by simpa using fun e => hkd e.symm⟩]; rfl)
     have g1 : (0 : Int) < (j : Int) := by omega
     have g2 : ((k : Int) != (dep : Int)) = true := by simp; omega
     clear hFr hkd;go_wp2;refine bodyPost_ret (v := .tuple #[.pointer none, .int .i64 0, .bool false]) (by simp [results, Tryz.results132, go_sem]) rfl ?_;rw [<- HR.out];unfold zdk;rw [HP.out];exact ⟨Hg3.out, _, _, rfl⟩
    have hgood : j = 0 \/ k = dep := by simp only [Bool.and_eq_false_iff, decide_eq_false_iff_not] at hbad;omega
    have H2 : Hid (kidsV F (zar S cnt) none used = (kidsV F ((zar S cnt).drop (j + 1)) (if j + 1 = 0 then none else some k) u1).map (fun x => ((ts ++ [t]).map AT.nd ++ x.1, x.2)) /\ (ts ++ [t]).length = j + 1) := zhI ⟨by
     rw [H.out.1, zbH hlt, Hpg.out, zj4 hFr (by rcases hgood with rfl | rfl; exact .inl rfl; by_cases h0 : j = 0; exact .inl (if_pos h0); exact .inr (if_neg h0)), if_neg (by omega), Option.map_map];congr 1;funext y;simp [Hn.out.1], by rw [zlA, H.out.2]; rfl⟩
    obtain ⟨hu1, hul1⟩ : zaV frm til u1 /\ u.length < u1.length := zcH f (by rw [HF.out]; exact hFr) huu;have hkf : k <= f := zhf f (root := false) (page := pgn) (used := u) (n := n) (u := u1) (d := d) (frm := frm) (til := til) (by rw [HF.out]; exact hFr);have hq : ¬ (0 : Int) < (j : Int) \/ ((0 : Int) < (j : Int) /\ ((k : Int) != (dep : Int)) = false) := by
     rcases hgood with h | h
     . exact .inl (by omega)
     .
      by_cases h0 : j = 0
      . exact .inl (by omega)
      . exact .inr ⟨by omega, by simp; omega⟩
    have H1c : Hid (∀ u ∈ [Value.pointer (some ⟨t.b, 0, none⟩)], u.oneCell' = true) := zhI (by intro u hu; simp at hu; subst hu; rfl);have cX := Hx3.out.cell;have lX := Hx3.out.lt;have fX := Hx3.out.free;have ho3a := Ho3.out.alloc (.cells #[.pointer (some ⟨t.b, 0, none⟩)] 88);clear hFr hbad hgood;rcases hq with q1 | ⟨q1, q2⟩
    all_goals
     go_wp2_with (at_builtin; refine wpList_append_own_at _ rfl (.tmp 56) (.tmp 58) 127 rfl N 88 ip _ 1 8 Tryz.underlying127 Hi.out.1 Hi.out.2.1 Hi.out.2.2.1 Hi.out.2.2.2 rfl (by decide) (.slice o j c) j (ts.map AT.ptr) rfl ho3a ⟨W3.heap.size, 0, none⟩ 1 1 [.pointer (some ⟨t.b, 0, none⟩)] rfl rfl (cell_one_new _ _ _) H1c.out (by unfold maxLen; omega) (by omega) (by simp; omega) ?_; intro v4 w4 ho4 hg4 _ hloc; obtain ⟨o4, c4, rfl⟩ := zaR ho4; have x4 := (Hx3.out.alloc (.cells #[.pointer (some ⟨t.b, 0, none⟩)] 88)).grown hg4 (fun e => zab ho3a (Hx3.out.alloc _) (by decide) e.symm); have cX4 := x4.cell; have fX4 := x4.free; have lX4 := x4.lt);go_roundw
     case rel =>
      have hz4 : W3.heap.size + 1 <= w4.heap.size := by have := hg4.size; simp at this; exact this
      have hBW : Below N W3 (w4.setCell ⟨N, 2, none⟩ (.slice o4 (j + 1) c4)) := zaa (Below.grownOwn ((Below.refl _ W3).alloc (by omega) _) ho3a hg4 (by simp; omega)) (Nat.le_refl _);have step : ∀ x : AT, Lies N W3 x -> (∀ y ∈ x.fp, N < y /\ (Value.slice o j c).ownBlock ≠ some y) -> Lies N (w4.setCell ⟨N, 2, none⟩ (.slice o4 (j + 1) c4)) x := by intro x hx hy;refine hx.same fun y hyf => ?_;have h1 := (hx.lt y hyf).2;have h2 := hy y hyf;exact (Below.heap_setCell w4 ⟨N, 2, none⟩ _ y (by show y ≠ N; omega)).trans ((hg4.block y (by simp; omega) (fun e => h2.2 e.symm)).trans (Below.heap_alloc W3 _ y h1))
      have hts : ∀ y ∈ AT.fpL ts, N < y /\ (Value.slice o j c).ownBlock ≠ some y := hnd.out.2;have ht : ∀ y ∈ t.fp, N < y /\ (Value.slice o j c).ownBlock ≠ some y := fun y hy => by have h1 := (Htl.out y hy).1;exact ⟨by omega, fun e => by have := (Hob.out y e).2; omega⟩
      refine ⟨j + 1, ts ++ [t], o4, c4, u1, k, by omega, by go_num, rfl, H2, hu1, by omega, hkf, ?_, ?_, zhI ⟨?_, ?_, ?_, ?_, ?_⟩, ?_, ?_⟩
      . have := x4.set 2 (.slice o4 (j + 1) c4);simpa using this
      .
       have e : (ts ++ [t]).map AT.ptr = ts.map AT.ptr ++ [.pointer (some ⟨t.b, 0, none⟩)] := by simp [AT.ptr]
       rw [e];exact zac ho4 (a := ⟨N, 2, none⟩) (zab ho4 x4 (by decide)) _
      .
       intro x hx;rcases zmA.1 hx with hx | hx
       . exact step x (Hts.out x hx) fun y hy => hts y (AT.mem_fpL.2 ⟨x, hx, hy⟩)
       . simp at hx;subst hx;exact step x HtL.out ht
      . rw [AT.fpL_snoc, List.nodup_append];refine ⟨hnd.out.1, Hn.out.2, fun a ha b hb e => ?_⟩;have h1 := hlt2.out a ha;have h2 := (Htl.out b hb).1;omega
      .
       intro x hx;rw [AT.fpL_snoc] at hx;have hb : (N < x /\ (Value.slice o j c).ownBlock ≠ some x) /\ x < W3.heap.size := by
        rcases zmA.1 hx with hx | hx
        . exact ⟨hts x hx, by have := hlt2.out x hx; omega⟩
        . exact ⟨ht x hx, (Htl.out x hx).2⟩
       refine ⟨hb.1.1, fun e => ?_⟩;rcases hloc with h | h
       . exact hb.1.2 (h ▸ e)
       . rw [h] at e;simp at e;omega
      . exact Htm.out.same (hBW.block mb hmN)
      . exact HL3.out.stays hBW (by rw [<- hN]; exact hlw) (by rw [<- hN]; exact hBw)
      . exact ⟨hBW.os.trans Hg3.out.os, hBW.tape.trans Hg3.out.tape, hBW.output.trans Hg3.out.output, znT Hg3.out.size hBW.size, fun y hy hne => (hBW.block y (by rw [<- hN]; exact hy)).trans (Hg3.out.block y hy hne)⟩
      . have := lX4;simp;omega
     case measure => simp [intOf]; omega
  .
   obtain rfl : j = cnt := by omega
   obtain ⟨ht1, ht2, ht3, ht4, ht5⟩ := HT.out;have hd0 : (zar S j).drop j = [] := List.drop_of_length_le (by simp [zar]);have HP : Hid (kidsV F (zar S j) none used = some (ts.map AT.nd, dep, u)) := zhI (by
    rw [H.out.1, hd0, if_neg (by omega), kidsV]
    simp)
   have hte : ts.isEmpty = false := by
    have := H.out.2;cases ts with
    | nil => simp at this; omega
    | cons => rfl
   have hlies : Lies N wr (.mk N (.slice none 0 0) (.slice o j c) [] ts 0) := by refine .mk _ _ _ _ _ _ (Nat.le_refl _) (by rw [hte]; exact x) (RowO.own (World.ownsRow_nil _ _ _ _)) ?_ ht1;rw [H.out.2];exact RowO.own hown
   have hnod : (AT.mk N (.slice none 0 0) (.slice o j c) [] ts 0).fp.Nodup := by
    rw [AT.fp];have e0 : (Value.slice none 0 0).ownBlock.toList = [] := rfl;rw [e0, List.nil_append, List.nodup_cons];refine ⟨fun hm => ?_, ?_⟩
    .
     rcases zmA.1 hm with hm | hm
     . exact zab hown x (by decide) (by simpa using hm)
     . have := (ht3 N hm).1; omega
    .
     rw [List.nodup_append];refine ⟨?_, ht2, fun a ha b hb e => ?_⟩
     . cases (Value.slice o j c).ownBlock <;> simp
     . exact (ht3 b hb).2 (by rw [<- e]; simpa using ha)
   have HL2 := zhI (zaI hlies (zaI hnod ht4));have hwd : wrap64 ((dep : Int) + 1) = (dep : Int) + 1 := IntWalk.wrap64_in _ (by omega);clear hlies hnod ht1 ht2 ht3 ht4 ht5 hte hd0 H hown x HT;go_wp2;refine bodyPost_ret (v := .tuple #[.pointer (some ⟨N, 0, none⟩), .int .i64 ((dep : Int) + 1), .bool true]) (by simp [results, Tryz.results132, go_sem, hwd]) rfl ?_;rw [<- HR.out];unfold zdk;rw [HP.out];refine ⟨hg, .slice o j c, ts, by rw [hN]; rfl, rfl, ?_⟩;rw [hN];exact HL2.out
end
theorem zjP {w : World} {base b k n : Nat} {e t : TypeId} {v : Value} {xs : List Value} {cs : Array Value} (h : RowO w base e k v n xs) (hb : Bx w b cs t) (hne : e ≠ t) : v.ownBlock ≠ some b := by
 intro hv;rcases h.2 with ⟨rfl, _⟩ | ⟨g, cap, cur, rfl, _, hg, _⟩
 . simp [Value.ownBlock] at hv
 . simp [Value.ownBlock] at hv;subst hv;unfold Bx at hb;rw [hb] at hg;simp at hg;exact hne hg.2.symm
theorem zd6 {w W : World} {row : Option Nat} {b k : Nat} {v : Value} (h : w.grownBy W row) (hb : w.heap.size <= b) : w.grownBy (W.setCell ⟨b, k, none⟩ v) row := by
 have h2 := zaa (b := b) (k := k) (v := v) (Below.refl w.heap.size W) hb;exact ⟨h2.os.trans h.os, h2.tape.trans h.tape, h2.output.trans h.output, znT h.size h2.size, fun y hy hne => (h2.block y hy).trans (h.block y hy hne)⟩
theorem Lies.paged {base : Nat} {w : World} {b : Nat} {pv : Value} {ps : List Kv} (h : Lies base w (.mk b pv (.slice none 0 0) ps [] 0)) (page : Int) : Lies base (w.setCell ⟨b, 3, none⟩ (.int .i64 page)) (.mk b pv (.slice none 0 0) ps [] page) := by
 have h1 := h.hb;have h2 := h.hx;have h3 := h.hp;have h4 := h.hk;simp only [AT.b, AT.pv, AT.kv, AT.kids, AT.ps, AT.page] at h1 h2 h3 h4;refine .mk _ _ _ _ _ _ h1 ?_ (h3.same fun g e => Below.heap_setCell w ⟨b, 3, none⟩ _ g (fun e' => zjP h3 h2 (by decide) (by rw [e, e']))) (h4.same fun g e => by simp [Value.ownBlock] at e) (fun _ h => by cases h);have := h2.set 3 (.int .i64 page);unfold nodeC at this |-;simpa using this
theorem Lies.pagedK {base : Nat} {w : World} {b : Nat} {pv kv : Value} {ps : List Kv} {kids : List AT} {pg : Int} (h : Lies base w (.mk b pv kv ps kids pg)) (hn : (b :: (pv.ownBlock.toList ++ (kv.ownBlock.toList ++ AT.fpL kids))).Nodup) (page : Int) :
  Lies base (w.setCell ⟨b, 3, none⟩ (.int .i64 page)) (.mk b pv kv ps kids page) := by
 have h1 := h.hb;have h2 := h.hx;have h3 := h.hp;have h4 := h.hk;have h5 := h.hc;simp only [AT.b, AT.pv, AT.kv, AT.kids, AT.ps, AT.page] at h1 h2 h3 h4 h5;have hb := (List.nodup_cons.1 hn).1;simp only [zmA, not_or] at hb;refine .mk _ _ _ _ _ _ h1 ?_ (h3.same fun g e => Below.heap_setCell w ⟨b, 3, none⟩ _ g (fun e' => hb.1 (by rw [e, e']; simp)))
  (h4.same fun g e => Below.heap_setCell w ⟨b, 3, none⟩ _ g (fun e' => hb.2.1 (by rw [e, e']; simp))) fun t ht => (h5 t ht).same fun x hx => Below.heap_setCell w ⟨b, 3, none⟩ _ x (fun e' => hb.2.2 (AT.mem_fpL.2 ⟨t, ht, by subst e'; exact hx⟩))
 have := h2.set 3 (.int .i64 page);unfold nodeC at this |-;simpa using this
section
variable (B0 lb mb : Nat) (d : Dsk) (po co : Option Addr) (pc cc : Nat) (frm til : Int)
set_option maxHeartbeats 8000000 in
theorem zhe : LoadC B0 lb mb d po co pc cc frm til 0 := by
 intro root page used w hL hM hu hf hp
 by_cases hft : frm + 2 <= til
 . have := hu.len hft; omega
 .
  have : used = [] := by
   cases used with
   | nil => rfl
   | cons x l => have := hu.2 x (by simp); omega
  subst this;simp at hf
set_option maxHeartbeats 8000000 in
theorem zho (f : Nat) (ih : LoadC B0 lb mb d po co pc cc frm til f) (hc : chk d = 0) (hfit : fits5 d frm til = true) (hfu : f <= 1000000) : LoadC B0 lb mb d po co pc cc frm til (f + 1) := by
 intro root page used w hL hM hu hf hp;obtain ⟨f1, f2, f3, f4, f5⟩ := zax hfit;have hr := zag (zaq hc).1;obtain ⟨R, hR⟩ : ∃ R, za2 (loadP d frm til (f + 1) root page used) mb w = R := ⟨_, rfl⟩;rw [hR];have HR := zhI hR;have hx := hL.hx;have cX := hx.cell;have lX := hx.lt;unfold ldC at cX;have hlk := ziz hM page hp;obtain ⟨bm, hbm⟩ : ∃ b, decide (page ∈ used) = b := ⟨_, rfl⟩;rw [hbm] at hlk;have HL := zhI hL;have HM := zhI hM;clear hR hL hM;cases g1 : decide (page < frm + 2);rotate_left
 . have g1' := of_decide_eq_true g1;have HP : Hid (loadP d frm til (f + 1) root page used = none) := zhI (by rw [loadP, if_pos (.inl g1')]);go_enter Tryz.func91, Tryz.ntmps91;go_wp2;refine bodyPost_ret (v := .tuple #[.pointer none, .int .i64 0, .bool false]) (by simp [results, Tryz.results91, go_sem]) rfl ?_;rw [<- HR.out];unfold za2;rw [HP.out];exact ⟨World.grownBy.refl _ _, _, _, rfl⟩
 have g1' := of_decide_eq_false g1;cases g2 : decide (til <= page);rotate_left
 . have g2' := of_decide_eq_true g2;have HP : Hid (loadP d frm til (f + 1) root page used = none) := zhI (by rw [loadP, if_pos (.inr (.inl g2'))]);go_enter Tryz.func91, Tryz.ntmps91;go_wp2;refine bodyPost_ret (v := .tuple #[.pointer none, .int .i64 0, .bool false]) (by simp [results, Tryz.results91, go_sem]) rfl ?_;rw [<- HR.out];unfold za2;rw [HP.out];exact ⟨World.grownBy.refl _ _, _, _, rfl⟩
 have g2' := of_decide_eq_false g2;cases bm with
 | true => have g3' := of_decide_eq_true hbm;have HP : Hid (loadP d frm til (f + 1) root page used = none) := zhI (by rw [loadP, if_pos (.inr (.inr g3'))]);clear hbm g3';go_enter Tryz.func91, Tryz.ntmps91;go_wp2;refine bodyPost_ret (v := .tuple #[.pointer none, .int .i64 0, .bool false]) (by simp [results, Tryz.results91, go_sem]) rfl ?_;rw [<- HR.out];unfold za2;rw [HP.out];exact ⟨World.grownBy.refl _ _, _, _, rfl⟩
 | false =>
  have g3' := of_decide_eq_false hbm;clear hbm;have hl := zdy hc f1 (i := page) (by omega) (by omega);have hrd := zcz hc (i := page) (by omega) (by omega);have hul := hu.len (by omega);have hu2 := hu.snoc (page := page) (by omega) (by omega) g3';obtain ⟨L, hL⟩ : ∃ L, pageL d page = L := ⟨_, rfl⟩;rw [hL] at hl hrd;obtain ⟨s, hs⟩ : ∃ s, bs L = s := ⟨_, rfl⟩;rw [hs] at hrd;have hz : s.size = 512 := by rw [<- hs, zaj, hl]
  have hP0 : loadP d frm til (f + 1) root page used = (if L.getD 0 0 = 76 then
   if (L.getD 1 0).toNat < 1 \/ 3 < (L.getD 1 0).toNat \/ (root = false /\ (L.getD 1 0).toNat < 2) then none
   else match leafP (L.getD 1 0).toNat (L.drop 2) with
    | none => none
    | some ps => if padZ (encLf ps) = L then some (.mk ps [] page, 1, used ++ [page]) else none
   else if L.getD 0 0 ≠ 78 \/ (L.getD 1 0).toNat < 2 \/ 8 < (L.getD 1 0).toNat \/ (root = false /\ (L.getD 1 0).toNat < 4) then none
   else match kidsV (loadP d frm til f false) (zar (L.drop 2) (L.getD 1 0).toNat) none (used ++ [page]) with
    | none => none
    | some (kids, k, u) => if padZ (encIn kids) = L then some (.mk [] kids page, k + 1, u) else none) := by
   rw [loadP, if_neg (fun h => h.elim (fun h => by omega) (fun h => h.elim (fun h => by omega) g3')), hL];rfl
  have HP0 := zhI hP0;have hsg : ∀ (i : Nat) (h : i < s.size), s[i].toNat = (L.getD i 0).toNat := fun i h => by
   subst hs;have h' : i < L.length := by omega
   rw [zep _ _ h', List.getD_eq_getElem?_getD, List.getElem?_eq_getElem h']; rfl
  obtain ⟨a0, ha0⟩ : ∃ n, (L.getD 0 0).toNat = n := ⟨_, rfl⟩;obtain ⟨a1, ha1⟩ : ∃ n, (L.getD 1 0).toNat = n := ⟨_, rfl⟩;have e0 : (s[0]'(by omega)).toNat = a0 := by rw [hsg, ha0]
  have e1 : (s[1]'(by omega)).toNat = a1 := by rw [hsg, ha1]
  have b0 : a0 < 256 := by rw [<- ha0]; exact UInt8.toNat_lt _
  have b1 : a1 < 256 := by rw [<- ha1]; exact UInt8.toNat_lt _
  have Ha0 := zhI ha0;have Ha1 := zhI ha1;have Hs := zhI hs;have Hrd := zhI hrd;have Hl := zhI hl;clear hP0 hsg ha0 ha1 hs hrd hl hL f1 g3';go_enter Tryz.func91, Tryz.ntmps91;go_wp2_with (first | (at_mapUpdate; refine zeG rfl _ _ _ rfl rfl HM.out (by unfold maxLen; omega) page hp rfl rfl ?_; intro W1 hM1 hg1; have HL1 := zhI (HL.out.grown hg1); have HM1 := zhI hM1; have HG1 := zhI hg1; have cX1 := HL1.out.hx.cell; have lX1 := HL1.out.hx.lt; unfold ldC at cX1; clear hM1 hg1) | fail);refine (zjW d _ page W1 HL1.out.dsk Hrd.out).mono ?_;rintro e W2 ⟨rfl, hb2⟩;have HL2 := zhI (HL1.out.grown (grownBy_below hb2 (Nat.le_refl _) _));have HM2 := zhI (HM1.out.below hb2);have HG2 : Hid (w.grownBy W2 (some mb)) := zhI (HG1.out.trans (grownBy_below hb2 (Nat.le_refl _) _));have cX2 := HL2.out.hx.cell;have lX2 := HL2.out.hx.lt;unfold ldC at cX2;clear cX1 lX1 HL1 HM1 HG1 hb2 cX lX;go_upto_region 10 with fail
  cases q0 : decide (a0 = 76)
  .
   have q0' := of_decide_eq_false q0;cases q1 : decide (a0 = 78)
   .
    have q1' := of_decide_eq_false q1;have HP : Hid (loadP d frm til (f + 1) root page used = none) := zhI (by
     rw [HP0.out, if_neg (fun h => q0' (by rw [<- Ha0.out, h]; rfl)), if_pos (.inl (fun h => q1' (by rw [<- Ha0.out, h]; rfl)))])
    have z0 : ((a0 : Int) == 76) = false := by simp; omega
    have z1 : ((a0 : Int) == 78) = false := by simp; omega
    clear q0 q1;go_wp2;refine bodyPost_ret (v := .tuple #[.pointer none, .int .i64 0, .bool false]) (by simp [results, Tryz.results91, go_sem]) rfl ?_;rw [<- HR.out];unfold za2;rw [HP.out];exact ⟨HG2.out, _, _, rfl⟩
   .
    have q1' := of_decide_eq_true q1;have hA : L.getD 0 0 = 78 := UInt8.toNat_inj.1 (by rw [Ha0.out, q1']; rfl);have hA2 : ¬ L.getD 0 0 = 76 := by rw [hA]; decide
    have z0 : ((a0 : Int) == 76) = false := by simp; omega
    have z1 : ((a0 : Int) == 78) = true := by simp; omega
    have HA := zhI (zaI hA hA2);clear q0 q0' q1 q1' hA hA2;cases hgd : (decide (2 <= a1) && decide (a1 <= 8) && (root || decide (4 <= a1)))
    .
     have HP : Hid (loadP d frm til (f + 1) root page used = none) := zhI (by
      rw [HP0.out, if_neg HA.out.2, Ha1.out, if_pos];rw [HA.out.1];cases root <;> simp at hgd |- <;> omega)
     cases t1 : decide ((2 : Int) <= (a1 : Int))
     . have t1' := of_decide_eq_false t1;clear hgd;go_wp2;refine bodyPost_ret (v := .tuple #[.pointer none, .int .i64 0, .bool false]) (by simp [results, Tryz.results91, go_sem]) rfl ?_;rw [<- HR.out];unfold za2;rw [HP.out];exact ⟨HG2.out, _, _, rfl⟩
     have t1' := of_decide_eq_true t1;cases t2 : decide ((a1 : Int) <= 8)
     . have t2' := of_decide_eq_false t2;clear hgd;go_wp2;refine bodyPost_ret (v := .tuple #[.pointer none, .int .i64 0, .bool false]) (by simp [results, Tryz.results91, go_sem]) rfl ?_;rw [<- HR.out];unfold za2;rw [HP.out];exact ⟨HG2.out, _, _, rfl⟩
     have t2' := of_decide_eq_true t2;cases root with
     | true => simp at hgd; omega
     | false =>
      have t3' : ¬ (4 : Int) <= (a1 : Int) := by simp at hgd; omega
      clear hgd;go_wp2;refine bodyPost_ret (v := .tuple #[.pointer none, .int .i64 0, .bool false]) (by simp [results, Tryz.results91, go_sem]) rfl ?_;rw [<- HR.out];unfold za2;rw [HP.out];exact ⟨HG2.out, _, _, rfl⟩
    .
     have t1 : (2 : Int) <= (a1 : Int) := by simp at hgd; omega
     have t2 : (a1 : Int) <= 8 := by simp at hgd; omega
     have T : Hid (¬ (L.getD 0 0 ≠ 78 \/ a1 < 2 \/ 8 < a1 \/ (root = false /\ a1 < 4))) := zhI (by
      rw [HA.out.1];cases root <;> simp at hgd |- <;> omega)
     have hcut : s.extract 2 s.size = bs (L.drop 2) := by rw [hz, <- Hs.out, zeT, List.take_of_length_le (by rw [List.length_drop, Hl.out]; omega)]
     have hl1 : (used ++ [page]).length = used.length + 1 := by simp
     have hin := zme B0 lb mb d po co pc cc frm til f ih (by omega) (by omega) hfu (L.drop 2) a1 (by rw [List.length_drop, Hl.out]; omega) (by rw [List.length_drop, Hl.out]; omega) (by omega) (by omega) (used ++ [page]) W2 HL2.out (by rw [hl1]; exact HM2.out) hu2 (by rw [hl1]; omega);rw [<- hcut, hz] at hin;have Hin := zhI hin;have t3 : (root || decide ((4 : Int) <= (a1 : Int))) = true := by
      simp at hgd |-;rcases hgd.2 with h | h
      . exact .inl h
      . exact .inr (by omega)
     clear hin hcut hgd hl1;cases root
     case' true => go_wp2_with fail
     case' false =>
      have t3' : (4 : Int) <= (a1 : Int) := by simpa using t3
      clear t3;go_wp2_with fail
     all_goals
      refine Hin.out.mono ?_;rintro e W3 ⟨hg3, hres⟩;have HG3 : Hid (w.grownBy W3 (some mb)) := zhI (HG2.out.trans hg3);have hz3 := hg3.size;cases hlp : kidsV (loadP d frm til f false) (zar (L.drop 2) a1) none (used ++ [page]) with
      | none => rw [hlp] at hres;simp only at hres;obtain ⟨v, k, rfl⟩ := hres;have HP : Hid (za2 (loadP d frm til (f + 1) _ page used) mb w = za2 none mb w) := zhI (by rw [HP0.out, if_neg HA.out.2, Ha1.out, if_neg T.out, hlp]);clear hlp hg3;go_wp2;refine bodyPost_ret (v := .tuple #[.pointer none, .int .i64 0, .bool false]) (by simp [results, Tryz.results91, go_sem]) rfl ?_;rw [<- HR.out, HP.out];exact ⟨HG3.out, _, _, rfl⟩
      | some r =>
       obtain ⟨ns, k, u⟩ := r;rw [hlp] at hres;simp only at hres;obtain ⟨kv, ts, rfl, hts, hl3, hnd3, hm3⟩ := hres;obtain ⟨hnl, hng⟩ := zcb hlp;have hnl2 : ns.length = a1 := by rw [hnl]; simp [zar]
       have htl : ts.length = a1 := by rw [<- hnl2, <- hts, List.length_map]
       have hko : ∀ c ∈ ts, KidOk c.nd := fun c hc => by obtain ⟨p, u1, k1, u2, hg⟩ := hng c.nd (by rw [<- hts]; exact List.mem_map.2 ⟨c, hc, rfl⟩);obtain ⟨⟨g1, g2, g3, g4, _⟩, _⟩ := zf8 (by omega) (by omega) f hg;exact ⟨g1, g2, by omega, by omega⟩
       obtain ⟨k1, hk1⟩ : ∃ k1, k + 1 = k1 := ⟨_, rfl⟩;rw [hk1];have hte : ts.isEmpty = false := by cases ts with
        | nil => simp at htl; omega
        | cons => rfl
       have hx3 := hl3.hx;have cN := hx3.cell;have lN := hx3.lt;have fN := hx3.free;simp only [AT.b, AT.pv, AT.kv, AT.kids, AT.page, hte] at cN lN fN;unfold nodeC at cN;have hlP := hl3.pagedK (by rw [AT.fp] at hnd3; exact hnd3) page;have henc := zci _ _ _ hlP (by show 2 <= ts.length; omega) (by show ts.length <= 8; omega) hko;simp only [AT.ptr, AT.b, AT.kids] at henc;rw [hts] at henc;have hb0 : w.heap.size <= W2.heap.size := HG2.out.size;have HG4 : Hid (w.grownBy (W3.setCell ⟨W2.heap.size, 3, none⟩ (.int .i64 page)) (some mb)) := zhI (zd6 HG3.out hb0);have HM4 : Hid (MapI (W3.setCell ⟨W2.heap.size, 3, none⟩ (.int .i64 page)) mb u.length u) := zhI (hm3.same (w' := W3.setCell ⟨W2.heap.size, 3, none⟩ (.int .i64 page)) (Below.heap_setCell W3 ⟨W2.heap.size, 3, none⟩ _ mb (by have := HM2.out.lt; show mb ≠ W2.heap.size; omega)));have Henc := zhI henc;have HLP := zhI hlP;have Hnd : Hid ((AT.mk W2.heap.size (.slice none 0 0) kv [] ts page).fp.Nodup) := zhI (by rw [AT.fp] at hnd3 |-; exact hnd3);have Hts : Hid ((AT.mk W2.heap.size (.slice none 0 0) kv [] ts page).nd = .mk [] ns page) := zhI (by rw [AT.nd_eq, <- hts]; rfl);have Hk1 := zhI hk1;clear henc hlP hl3 hx3 hnd3 hm3 hko hng hnl hnl2 htl hte hts hk1 hg3;go_wp2_with fail;refine Henc.out.mono ?_;rintro e W4 ⟨rfl, hb4⟩;have hst : s.toList = L := by rw [ByteArray.toList_eq, <- Hs.out, za3]
       have Hst := zhI hst;clear hst
       by_cases heq : padZ (encIn ns) = L
       .
        have hE : padZ (encIn ns) = s.toList := by rw [Hst.out]; exact heq
        have HEq := zhI heq;have HE := zhI hE;have Hlp := zhI hlp;clear heq hE hlp;go_wp2;refine bodyPost_ret (v := .tuple #[.pointer (some ⟨W2.heap.size, 0, none⟩), .int .i64 (k1 : Int), .bool true]) (by simp [results, Tryz.results91, go_sem, HE.out]) rfl ?_;rw [<- HR.out, HP0.out, if_neg HA.out.2, Ha1.out, if_neg T.out, Hlp.out];simp only;rw [if_pos HEq.out, Hk1.out];exact ⟨HG4.out.trans (grownBy_below hb4 (Nat.le_refl _) _), _, rfl, Hts.out, (HLP.out.down hb0).staysAll hb4, Hnd.out, HM4.out.below hb4⟩
       .
        have hE : ¬ padZ (encIn ns) = s.toList := by rw [Hst.out]; exact heq
        have HEq := zhI heq;have HE := zhI hE;have Hlp := zhI hlp;clear heq hE hlp;go_wp2;refine bodyPost_ret (v := .tuple #[.pointer (some ⟨W2.heap.size, 0, none⟩), .int .i64 (k1 : Int), .bool false]) (by simp [results, Tryz.results91, go_sem, HE.out]) rfl ?_;rw [<- HR.out, HP0.out, if_neg HA.out.2, Ha1.out, if_neg T.out, Hlp.out];simp only;rw [if_neg HEq.out];exact ⟨HG4.out.trans (grownBy_below hb4 (Nat.le_refl _) _), _, _, rfl⟩
  .
   have q0' := of_decide_eq_true q0;have hA : L.getD 0 0 = 76 := UInt8.toNat_inj.1 (by rw [Ha0.out, q0']; rfl);have z0 : ((a0 : Int) == 76) = true := by simp; omega
   have HA := zhI hA;clear q0 q0' hA;cases hgd : (decide (1 <= a1) && decide (a1 <= 3) && (root || decide (2 <= a1)))
   .
    have HP : Hid (loadP d frm til (f + 1) root page used = none) := zhI (by
     rw [HP0.out, if_pos HA.out, Ha1.out, if_pos];cases root <;> simp at hgd |- <;> omega)
    cases t1 : decide ((1 : Int) <= (a1 : Int))
    . have t1' := of_decide_eq_false t1;clear hgd;go_wp2;refine bodyPost_ret (v := .tuple #[.pointer none, .int .i64 0, .bool false]) (by simp [results, Tryz.results91, go_sem]) rfl ?_;rw [<- HR.out];unfold za2;rw [HP.out];exact ⟨HG2.out, _, _, rfl⟩
    have t1' := of_decide_eq_true t1;cases t2 : decide ((a1 : Int) <= 3)
    . have t2' := of_decide_eq_false t2;clear hgd;go_wp2;refine bodyPost_ret (v := .tuple #[.pointer none, .int .i64 0, .bool false]) (by simp [results, Tryz.results91, go_sem]) rfl ?_;rw [<- HR.out];unfold za2;rw [HP.out];exact ⟨HG2.out, _, _, rfl⟩
    have t2' := of_decide_eq_true t2;cases root with
    | true => simp at hgd; omega
    | false =>
     have t3' : ¬ (2 : Int) <= (a1 : Int) := by simp at hgd; omega
     clear hgd;go_wp2;refine bodyPost_ret (v := .tuple #[.pointer none, .int .i64 0, .bool false]) (by simp [results, Tryz.results91, go_sem]) rfl ?_;rw [<- HR.out];unfold za2;rw [HP.out];exact ⟨HG2.out, _, _, rfl⟩
   .
    have t1 : (1 : Int) <= (a1 : Int) := by simp at hgd; omega
    have t2 : (a1 : Int) <= 3 := by simp at hgd; omega
    have t3 : (root || decide ((2 : Int) <= (a1 : Int))) = true := by
     simp at hgd |-;rcases hgd.2 with h | h
     . exact .inl h
     . exact .inr (by omega)
    have T : Hid (¬ (a1 < 1 \/ 3 < a1 \/ (root = false /\ a1 < 2))) := zhI (by
     cases root <;> simp at hgd |- <;> omega)
    have hcut : s.extract 2 s.size = bs (L.drop 2) := by rw [hz, <- Hs.out, zeT, List.take_of_length_le (by rw [List.length_drop, Hl.out]; omega)]
    have hlf := zm6 (.pointer (some ⟨lb, 0, none⟩)) (L.drop 2) a1 W2 (by rw [List.length_drop, Hl.out]; omega) (by omega);rw [<- hcut, hz] at hlf;have Hlf := zhI hlf;clear hlf hcut hgd;cases root
    case' true => go_wp2_with fail
    case' false =>
     have t3' : (2 : Int) <= (a1 : Int) := by simpa using t3
     clear t3;go_wp2_with fail
    all_goals
     refine Hlf.out.mono ?_;rintro e W3 ⟨hres, hb3⟩;have HG3 : Hid (w.grownBy W3 (some mb)) := zhI (HG2.out.trans (grownBy_below hb3 (Nat.le_refl _) _));have HM3 := zhI (HM2.out.below hb3);have hz3 := hb3.size;cases hlp : leafP a1 (L.drop 2) with
     | none => rw [hlp] at hres;simp only at hres;subst hres;have HP : Hid (za2 (loadP d frm til (f + 1) _ page used) mb w = za2 none mb w) := zhI (by rw [HP0.out, if_pos HA.out, Ha1.out, if_neg T.out, hlp]);clear hlp hb3;go_wp2;refine bodyPost_ret (v := .tuple #[.pointer none, .int .i64 0, .bool false]) (by simp [results, Tryz.results91, go_sem]) rfl ?_;rw [<- HR.out, HP.out];exact ⟨HG3.out, _, _, rfl⟩
     | some ps =>
      rw [hlp] at hres;simp only at hres;obtain ⟨pv, rfl, hl3⟩ := hres;obtain ⟨hpl, hpk⟩ := zbn hlp;have hx3 := hl3.hx;have cN := hx3.cell;have lN := hx3.lt;have fN := hx3.free;simp only [AT.b, AT.pv, AT.kv, AT.kids, AT.page, List.isEmpty_nil] at cN lN fN;unfold nodeC at cN;have hlP := hl3.paged page;have henc := zcS _ _ _ hlP rfl (by show ps.length <= 3; omega) hpk;simp only [AT.ptr, AT.b, AT.ps] at henc;have hb0 : w.heap.size <= W2.heap.size := HG2.out.size;have HG4 : Hid (w.grownBy (W3.setCell ⟨W2.heap.size, 3, none⟩ (.int .i64 page)) (some mb)) := zhI (zd6 HG3.out hb0);have HM4 : Hid (MapI (W3.setCell ⟨W2.heap.size, 3, none⟩ (.int .i64 page)) mb (used ++ [page]).length (used ++ [page])) := zhI (by
       have h1 := HM3.out.same (w' := W3.setCell ⟨W2.heap.size, 3, none⟩ (.int .i64 page)) (Below.heap_setCell W3 ⟨W2.heap.size, 3, none⟩ _ mb (by have := HM2.out.lt; show mb ≠ W2.heap.size; omega));rwa [zlA])
      have Henc := zhI henc;have HLP := zhI hlP;have HP : Hid (∀ r, loadP d frm til (f + 1) r page used = loadP d frm til (f + 1) r page used) := zhI (fun _ => rfl);clear henc hlP hl3 hx3 hb3 hpk;go_wp2_with fail;refine Henc.out.mono ?_;rintro e W4 ⟨rfl, hb4⟩;have hst : s.toList = L := by rw [ByteArray.toList_eq, <- Hs.out, za3]
      have Hst := zhI hst;clear hst
      by_cases heq : padZ (encLf ps) = L
      .
       have hE : padZ (encLf ps) = s.toList := by rw [Hst.out]; exact heq
       have HEq := zhI heq;have HE := zhI hE;have Hlp := zhI hlp;clear heq hE hlp;go_wp2;refine bodyPost_ret (v := .tuple #[.pointer (some ⟨W2.heap.size, 0, none⟩), .int .i64 1, .bool true]) (by simp [results, Tryz.results91, go_sem, HE.out]) rfl ?_;rw [<- HR.out, HP0.out, if_pos HA.out, Ha1.out, if_neg T.out, Hlp.out];simp only;rw [if_pos HEq.out];refine ⟨HG4.out.trans (grownBy_below hb4 (Nat.le_refl _) _), _, rfl, ?_, (HLP.out.down hb0).staysAll hb4, ?_, HM4.out.below hb4⟩
       . rw [AT.nd_eq]; rfl
       . rw [AT.fp];have h1 : (Value.slice none 0 0).ownBlock.toList = [] := rfl;have h2 : AT.fpL [] = [] := rfl;rw [h1, h2, List.nil_append, List.append_nil, List.nodup_cons];exact ⟨fun hm => zjP (v := pv) (b := W2.heap.size) HLP.out.hp HLP.out.hx (by decide) (by simpa using hm), by cases pv.ownBlock <;> simp⟩
      .
       have hE : ¬ padZ (encLf ps) = s.toList := by rw [Hst.out]; exact heq
       have HEq := zhI heq;have HE := zhI hE;have Hlp := zhI hlp;clear heq hE hlp;go_wp2;refine bodyPost_ret (v := .tuple #[.pointer (some ⟨W2.heap.size, 0, none⟩), .int .i64 1, .bool false]) (by simp [results, Tryz.results91, go_sem, HE.out]) rfl ?_;rw [<- HR.out, HP0.out, if_pos HA.out, Ha1.out, if_neg T.out, Hlp.out];simp only;rw [if_neg HEq.out];exact ⟨HG4.out.trans (grownBy_below hb4 (Nat.le_refl _) _), _, _, rfl⟩
end
theorem zf5 : (Tryz.prog.info? 3).map (fun i => (i.zero, i.size, i.bytes)) = some (some (.int .i64 0), 1, 8) := by kernel_rfl
def intsV (l : List Int) : List Value := l.map (.int .i64)
theorem ziR (frm til : Int) : (pgsX frm til).length = (til - frm - 2).toNat := by simp [pgsX]
theorem zma {frm til : Int} {k : Nat} (h : k < (pgsX frm til).length) : (pgsX frm til)[k] = frm + 2 + (k : Int) := by simp [pgsX]
def freeK (frm til : Int) (l : List Int) (k : Nat) : List Int := ((pgsX frm til).take k).filter fun p => !l.contains p
theorem zfr {frm til : Int} {l : List Int} {k : Nat} (h : k < (til - frm - 2).toNat) : freeK frm til l (k + 1) = freeK frm til l k ++ (if (frm + 2 + (k : Int)) ∈ l then [] else [frm + 2 + (k : Int)]) := by
 have h' : k < (pgsX frm til).length := by rw [ziR]; exact h
 unfold freeK;rw [List.take_succ_eq_append_getElem h', List.filter_append, zma h'];congr 1
 by_cases hm : (frm + 2 + (k : Int)) ∈ l <;> simp [hm]
theorem zgt (frm til : Int) (l : List Int) : freeK frm til l (til - frm - 2).toNat = zap frm til l := by
 unfold freeK zap;rw [List.take_of_length_le (by rw [ziR]; exact Nat.le_refl _)]
theorem zg7 (frm til : Int) (l : List Int) (k : Nat) : (freeK frm til l k).length <= k := by
 unfold freeK;refine znT (List.length_filter_le _ _) ?_;rw [List.length_take]; omega
set_option maxHeartbeats 2000000 in
theorem zgf (frm til : Int) (mb n : Nat) (l : List Int) (w : World) (hM : MapI w mb n l) (h0 : 0 <= frm) (ht : til <= 1000000) (hf : frm + 2 <= til) :
  Calls Tryz.prog 77 #[.int .i64 frm, .int .i64 til, .map (some mb)] w fun e w' => ∃ o c, e = .returned (.slice o (zap frm til l).length c) /\
   w'.ownsRow w.heap.size 3 1 (.slice o (zap frm til l).length c) (zap frm til l).length (intsV (zap frm til l)) /\ Below w.heap.size w w' := by
 obtain ⟨ii, hi, hz0, hz1, hz2⟩ := info_parts zf5;have Hi := zhI (zaI hi (zaI hz0 (zaI hz1 hz2)));clear hi hz0 hz1 hz2;obtain ⟨M, hM0⟩ : ∃ M : Nat, til = frm + 2 + M := ⟨(til - frm - 2).toNat, by omega⟩;have hMn : (til - frm - 2).toNat = M := by omega
 have hM6 : M <= 1000000 := by omega
 have HMn := zhI hMn;have HM0 := zhI hM0;clear hM0 hMn;go_enter Tryz.func77, Tryz.ntmps77;go_wp2
 go_loopw [7, 8] (fun v i wr => ∃ (k : Nat) (o : Option Addr) (c : Nat), k <= M /\ i = .int .i64 (frm + 2 + k) /\ v = .slice o (freeK frm til l k).length c /\ wr.ownsRow w.heap.size 3 1 (.slice o (freeK frm til l k).length c) (freeK frm til l k).length (intsV (freeK frm til l k)) /\ Below w.heap.size w wr) (fun _ i _ => (til - intOf i).toNat)
 case atStart => exact ⟨0, none, 0, Nat.zero_le _, by simp, rfl, World.ownsRow_nil _ _ _ _, Below.refl _ _⟩
 case round =>
  obtain ⟨k, o, c, hk, rfl, rfl, hown, hB⟩ := hrel;have hz := hB.size;have hm0 := HM0.out
  by_cases hlt : k < M
  .
   have hlt' : frm + 2 + (k : Int) < til := by omega
   have hlk := ziz (hM.below hB) (frm + 2 + (k : Int)) ⟨by omega, by omega⟩;have Hs := zhI (zfr (frm := frm) (til := til) (l := l) (k := k) (by rw [HMn.out]; exact hlt));have hlen := zg7 frm til l k;obtain ⟨F, hF⟩ : ∃ F, freeK frm til l k = F := ⟨_, rfl⟩;rw [hF] at hown Hs hlen |-;obtain ⟨p, hp⟩ : ∃ p, frm + 2 + (k : Int) = p := ⟨_, rfl⟩;have hnx : wrap64 (p + 1) = p + 1 := IntWalk.wrap64_in _ (by omega);rw [hp] at hlk Hs hlt' |-;have Hp := zhI hp;obtain ⟨m, hm⟩ : ∃ m, F.length = m := ⟨_, rfl⟩;rw [hm] at hown hlen |-;have Hm := zhI hm;clear hF hp hm hm0;cases hb : decide (p ∈ l) with
   | true =>
    have hbe := of_decide_eq_true hb;rw [hb] at hlk;have Hs2 : Hid (freeK frm til l (k + 1) = F) := zhI (by rw [Hs.out, if_pos hbe, List.append_nil]);clear hb hbe Hs;go_wp2;go_roundw
    case rel => exact ⟨k + 1, o, c, by omega, by have := Hp.out; rw [hnx, show frm + 2 + ((k + 1 : Nat) : Int) = p + 1 by omega], by rw [Hs2.out, Hm.out], by rw [Hs2.out, Hm.out]; exact hown, hB⟩
    case measure => simp [intOf]; omega
   | false =>
    have hbe := of_decide_eq_false hb;rw [hb] at hlk;have Hs2 : Hid (freeK frm til l (k + 1) = F ++ [p]) := zhI (by rw [Hs.out, if_neg hbe]);clear hb hbe Hs;have hown2 := hown.alloc (.cells #[.int .i64 p] 3);have H1c : Hid (∀ u ∈ [Value.int .i64 p], u.oneCell' = true) := zhI (by intro u hu; simp at hu; subst hu; rfl);have HRW : Hid (RowAt (· = wr.heap.size) (wr.alloc (.cells #[.int .i64 p] 3)) (some ⟨wr.heap.size, 0, none⟩) [.int .i64 p]) := zhI (RowAt.bx (Bx.new wr #[.int .i64 p] 3));have HB := zhI hB;clear hB;go_wp2_with (at_builtin; refine zau rfl _ _ 31 rfl w.heap.size 3 ii _ 1 8 Tryz.underlying31 Hi.out.1 Hi.out.2.1 Hi.out.2.2.1 Hi.out.2.2.2 rfl (by decide) (.slice o m c) m (intsV F) rfl hown2 (some ⟨wr.heap.size, 0, none⟩) 1 1 [.int .i64 p] rfl (by intro e; cases e) rfl HRW.out H1c.out (by unfold maxLen; omega) (by omega) (by simp; omega) ?_; intro v3 w3 hown3 hg3; obtain ⟨o3, c3, rfl⟩ := zaR hown3);go_roundw
    case rel =>
     have el : (F ++ [p]).length = m + 1 := by rw [zlA, Hm.out]; rfl
     have ev : intsV (F ++ [p]) = intsV F ++ [.int .i64 p] := by simp [intsV]
     refine ⟨k + 1, o3, c3, by omega, by have := Hp.out; rw [hnx, show frm + 2 + ((k + 1 : Nat) : Int) = p + 1 by omega], by rw [Hs2.out, el], by rw [Hs2.out, el, ev]; exact hown3, ?_⟩;exact Below.grownOwn (HB.out.alloc hz _) hown2 hg3 (by simp; omega)
    case measure => simp [intOf]; omega
  .
   obtain rfl : k = M := by omega
   have hlt' : ¬ frm + 2 + (k : Int) < til := by omega
   have hall : freeK frm til l k = zap frm til l := by rw [<- zgt, HMn.out]
   rw [hall] at hown |-;have Ho := zhI hown;clear hown hm0 hall;go_wp2;go_ret;exact ⟨o, c, rfl, Ho.out, hB⟩
end Go.Proofs.YtlefmmhlpgmbjaaGreat
