/- join: the pairs and children of two neighbours in the first. Under way. cut: a node at its pair (child) k in two. cut at children: printed by mk_cutn.py. join and cut at trees that lie in memory. Plain laws of layer 42: well formed trees of a height; what insN and remN make of their pairs and sizes. No function of the program is named here. -/
import Derived.Test.YtlefmmhlpgmbjaaGreatS16
import Derived.Test.YtlefmmhlpgmbjaaGreatS01
namespace Go.Proofs.YtlefmmhlpgmbjaaGreat
set_option maxRecDepth 100000
open Go.RowKit Go.Shelf
set_option maxRecDepth 100000 in
set_option maxHeartbeats 4000000 in
theorem zmG (base : Nat) (a b : AT) (w : World) (ha : Lies base w a) (hb : Lies base w b) (hne : a.b ≠ b.b) (hna : ∀ v ∈ [a.pv, a.kv, b.pv, b.kv], v.ownBlock ≠ some a.b) (hl : a.ps.length <= 100 /\ b.ps.length <= 100 /\ a.kids.length <= 100 /\ b.kids.length <= 100) :
  Calls Tryz.prog 194 #[a.ptr, b.ptr] w fun e w' => e = .returned (.tuple #[]) /\ ∃ v1 v2, RowO w' w.heap.size 77 2 v1 (a.ps.length + b.ps.length) (kvsC a.ps ++ kvsC b.ps) /\ RowO w' w.heap.size 88 1 v2 (a.kids.length + b.kids.length) (a.kids.map AT.ptr ++ b.kids.map AT.ptr) /\
   Bx w' a.b (nodeC a.kids.isEmpty v1 v2 a.page) 129 /\ (∀ g, v1.ownBlock = some g -> v2.ownBlock ≠ some g) /\ KeepB [a.b] w w' := by
 have hax := ha.hx;have hbx := hb.hx;obtain ⟨n1, n2, n3, n4⟩ := hl;obtain ⟨pa, pb, pc, pd⟩ : a.pv.ownBlock ≠ some a.b /\ a.kv.ownBlock ≠ some a.b /\ b.pv.ownBlock ≠ some a.b /\ b.kv.ownBlock ≠ some a.b := ⟨hna _ (by simp), hna _ (by simp), hna _ (by simp), hna _ (by simp)⟩;have hap := ha.hp;have hak := ha.hk;have hbp := hb.hp;have hbk := hb.hk;have e1 : a.ptr = .pointer (some ⟨a.b, 0, none⟩) := rfl;have e2 : b.ptr = .pointer (some ⟨b.b, 0, none⟩) := rfl;rw [e1, e2];obtain ⟨o1, c1, l1⟩ := hap.lit;obtain ⟨o2, c2, l2⟩ := hak.lit;obtain ⟨o3, c3, l3⟩ := hbp.lit;obtain ⟨o4, c4, l4⟩ := hbk.lit;rw [l1] at hax hap pa;rw [l2] at hax hak pb;rw [l3] at hbx hbp pc;rw [l4] at hbx hbk pd;generalize a.b = ab at *;generalize b.b = bb at *;obtain ⟨R, hR⟩ : ∃ R, (fun (e : Ending) (w' : World) => e = .returned (.tuple #[]) /\ ∃ v1 v2, RowO w' w.heap.size 77 2 v1 (a.ps.length + b.ps.length) (kvsC a.ps ++ kvsC b.ps) /\ RowO w' w.heap.size 88 1 v2 (a.kids.length + b.kids.length) (a.kids.map AT.ptr ++ b.kids.map AT.ptr) /\
   Bx w' ab (nodeC a.kids.isEmpty v1 v2 a.page) 129 /\ (∀ g, v1.ownBlock = some g -> v2.ownBlock ≠ some g) /\ KeepB [ab] w w') = R := ⟨_, rfl⟩
 rw [hR];have HR := zhI hR;have HX := zhI (zaI hax (zaI hbx (zaI hap (zaI hak (zaI hbp hbk)))));have Hn := zhI (zaI n1 (zaI n2 (zaI n3 n4)));have HP := zhI (zaI pa (zaI pb (zaI pc (zaI pd hne))));have cX := hax.cell;have lX := hax.lt;unfold nodeC at cX;have cY := hbx.cell;have lY := hbx.lt;unfold nodeC at cY;clear hR hax hbx n1 n2 n3 n4 pa pb pc pd hap hak hbp hbk e1 e2 l1 l2 l3 l4 ha hb hna hne;have cQ := Lat.cells w;go_enter Tryz.func194, Tryz.ntmps194;go_upto_region 0 with fail
 refine zbD (by kernel_rfl) (.tmp 0) (.pointer (some ⟨ab, 0, none⟩)) rfl rfl rfl (by kernel_rfl) (by kernel_rfl) (by kernel_rfl) (fun _ _ _ h => h) ?_;simp only [Act.put, zsP];refine zgh (W0 := w) 1 10 4 #[true, true, true, true, true, true, true, true, true, true, false, false, false, false] (fun i => if i = 2 then some (annK (.pointer (some ⟨ab, 0, none⟩))) else if i = 6 then some (annK (.pointer (some ⟨bb, 0, none⟩))) else if i = 9 then some ⟨fun r => .slice (some ⟨r.lo, 0, none⟩) 2 2, fun r W => Bx W r.lo #[.slice o1 a.ps.length c1, .slice o3 b.ps.length c3] 41⟩ else none) (by rfl) (by decide) (by rfl) (by rfl) (by kernel_rfl) (Below.refl _ _).drew ?_;simp only [List.drop_succ_cons, List.drop_zero, List.take_succ_cons, List.take_zero];refine LW.block 1 2 (by rfl) (by kernel_rfl) (by kernel_rfl) ?_;simp only [ztP]
 repeat (first | go_big_quiet_skip | (go_big_quiet_want; go_big_quiet_op; go_big_quiet_on))
 refine wpQuiet_nil ?_;refine LW.lzy _ (by rfl) (by rfl) ?_ ?_
 . intro yL _;exact zaL ((by rfl))
 intro _;simp only [Act.put, zsP]
 (try simp only [annK])
 refine LW.block 3 6 (by rfl) (by kernel_rfl) (by kernel_rfl) ?_;simp only [ztP]
 repeat (first | go_big_quiet_skip | (go_big_quiet_want; go_big_quiet_op; go_big_quiet_on))
 refine wpQuiet_nil ?_;refine LW.lzy _ (by rfl) (by rfl) ?_ ?_
 . intro yL _;exact zaL ((by rfl))
 intro _;simp only [Act.put, zsP]
 (try simp only [annK])
 refine LW.block 2 9 (by rfl) (by kernel_rfl) (by kernel_rfl) ?_;simp only [ztP]
 repeat (first | go_big_quiet_skip | (go_big_quiet_want; go_big_quiet_op; go_big_quiet_on))
 refine wpQuiet_nil ?_;refine LW.lzy _ (by rfl) (by rfl) ?_ ?_
 . intro yL hf;unfold lzAt;go_simp;exact ⟨Below.one _ _, fun _ => undef, rfl, fun w'' hb => (Bx.new yL.w _ _).belowAll hb⟩
 intro r9;simp only [Act.put, zsP];refine LW.done ?_;intro W2 hG;have h9 : Bx W2 r9.lo #[.slice o1 a.ps.length c1, .slice o3 b.ps.length c3] 41 := hG.get 9 rfl rfl;have hb2 := hG.below;obtain ⟨hax, hbx, hap, hak, hbp, hbk⟩ := HX.out;obtain ⟨n1, n2, n3, n4⟩ := Hn.out;have Hcat := zhI (zlb base W2 r9.lo _ _ h9 a.ps.length b.ps.length (kvsC a.ps) (kvsC b.ps) (hap.belowAt hb2) (hbp.belowAt hb2) (zb4 _) (zb4 _) (by omega) (by omega));have H2 := zhI (zaI (hax.belowAll hb2) (zaI (hbx.belowAll hb2) (zaI (hak.belowAt hb2) (zaI (hbk.belowAt hb2) hb2))));clear hG cQ hb2 cX cY lX lY hax hbx hap hak hbp hbk n1 n2 n3 n4 h9;refine wpAny_ready (rs := [10]) (by kernel_rfl) (by simp) ?_;refine AllReady.cons rfl (fun K hK => ?_) AllReady.nil;go_simp;refine Hcat.out.mono ?_;rintro e W3 ⟨v1, rfl, ho3, hb3⟩;refine hK _ _ ?_;clear hK K;simp only [zsP];obtain ⟨q1, d1, rfl⟩ := (RowO.own ho3).lit;have x3 := H2.out.1.belowAll hb3;have y3 := H2.out.2.1.belowAll hb3;have e3 : W3.cell? ⟨ab, 1, none⟩ = some (.slice o1 a.ps.length c1) := by rw [x3.cell]; rfl
 have f3 : W3.frozen? ⟨ab, 1, none⟩ = false := x3.free 1;refine wpAny_ready (rs := [11]) (by kernel_rfl) (by simp) ?_;refine AllReady.cons rfl (fun K hK => ?_) AllReady.nil;go_simp;refine hK _ _ ?_;clear hK K;refine wpAny_ready (rs := [12]) (by kernel_rfl) (by simp) ?_;refine AllReady.cons rfl (fun K hK => ?_) AllReady.nil;go_simp;refine hK _ _ ?_;clear hK K;refine wpAny_ready (rs := [13]) (by kernel_rfl) (by simp) ?_;refine AllReady.cons rfl (fun K hK => ?_) AllReady.nil;go_simp;refine hK _ _ ?_;clear hK K;refine wpAny_done (by kernel_rfl) ?_ _;obtain ⟨-, -, hak2, hbk2, hb2⟩ := H2.out;obtain ⟨pa, pb, pc, pd, hne⟩ := HP.out;have labW : ab < w.heap.size := HX.out.1.lt;have hv1 : ∀ y, (Value.slice q1 (a.ps.length + b.ps.length) d1).ownBlock = some y -> W2.heap.size <= y /\ y < W3.heap.size := fun y hy => (RowO.own ho3).lt y hy;have x4 : Bx (W3.setCell ⟨ab, 1, none⟩ (.slice q1 (a.ps.length + b.ps.length) d1)) ab (nodeC a.kids.isEmpty (.slice q1 (a.ps.length + b.ps.length) d1) (.slice o2 a.kids.length c2) a.page) 129 := x3.set 1 _;have y4 := y3.setO (a := ⟨ab, 1, none⟩) (show bb ≠ ab from fun e => hne e.symm) (.slice q1 (a.ps.length + b.ps.length) d1);have ak4 := (hak2.belowAt hb3).same (w' := W3.setCell ⟨ab, 1, none⟩ (.slice q1 (a.ps.length + b.ps.length) d1)) fun y hy => Below.heap_setCell _ ⟨ab, 1, none⟩ _ _ (fun e => pb (by rw [hy]; exact congrArg some e));have bk4 := (hbk2.belowAt hb3).same (w' := W3.setCell ⟨ab, 1, none⟩ (.slice q1 (a.ps.length + b.ps.length) d1)) fun y hy => Below.heap_setCell _ ⟨ab, 1, none⟩ _ _ (fun e => pd (by rw [hy]; exact congrArg some e));have v4 := (RowO.own (zaE ho3 hb2.size)).same (w' := W3.setCell ⟨ab, 1, none⟩ (.slice q1 (a.ps.length + b.ps.length) d1)) fun y hy => Below.heap_setCell _ ⟨ab, 1, none⟩ _ _ (fun e => by have h1 := (hv1 y hy).1; have h2 : y = ab := e; have := hb2.size; omega);have K4 : KeepB [ab] w (W3.setCell ⟨ab, 1, none⟩ (.slice q1 (a.ps.length + b.ps.length) d1)) := (((KeepB.refl _ w).of_below hb2).of_below hb3).set (by simp);have Hv1 : Hid (∀ y, (Value.slice q1 (a.ps.length + b.ps.length) d1).ownBlock = some y -> y < W3.heap.size) := zhI (fun y hy => (hv1 y hy).2);have Hs4 : Hid ((W3.setCell ⟨ab, 1, none⟩ (.slice q1 (a.ps.length + b.ps.length) d1)).heap.size = W3.heap.size) := zhI (by simp);have H4 := zhI (zaI x4 (zaI y4 (zaI ak4 (zaI bk4 (zaI v4 K4)))));clear x3 y3 e3 f3 hak2 hbk2 hb2 pa pb pc pd hne labW hv1 x4 y4 ak4 bk4 v4 K4 ho3 hb3 H2 Hcat;generalize W3.setCell ⟨ab, 1, none⟩ (.slice q1 (a.ps.length + b.ps.length) d1) = W4 at *;have cX := H4.out.1.cell;have lX := H4.out.1.lt;unfold nodeC at cX;have cY := H4.out.2.1.cell;unfold nodeC at cY;have lY := H4.out.2.1.lt;have cQ := Lat.cells W4;go_upto_region 1 with fail
 refine zbD (by kernel_rfl) (.tmp 0) (.pointer (some ⟨ab, 0, none⟩)) rfl rfl rfl (by kernel_rfl) (by kernel_rfl) (by kernel_rfl) (fun _ _ _ h => h) ?_;simp only [Act.put, zsP];refine zgh (W0 := W4) 1 10 4 #[true, true, true, true, true, true, true, true, true, true, false, false, false, false] (fun i => if i = 2 then some (annK (.pointer (some ⟨ab, 0, none⟩))) else if i = 6 then some (annK (.pointer (some ⟨bb, 0, none⟩))) else if i = 9 then some ⟨fun r => .slice (some ⟨r.lo, 0, none⟩) 2 2, fun r W => Bx W r.lo #[.slice o2 a.kids.length c2, .slice o4 b.kids.length c4] 127⟩ else none) (by rfl) (by decide) (by rfl) (by rfl) (by kernel_rfl) (Below.refl _ _).drew ?_;simp only [List.drop_succ_cons, List.drop_zero, List.take_succ_cons, List.take_zero];refine LW.block 1 2 (by rfl) (by kernel_rfl) (by kernel_rfl) ?_;simp only [ztP]
 repeat (first | go_big_quiet_skip | (go_big_quiet_want; go_big_quiet_op; go_big_quiet_on))
 refine wpQuiet_nil ?_;refine LW.lzy _ (by rfl) (by rfl) ?_ ?_
 . intro yL _;exact zaL ((by rfl))
 intro _;simp only [Act.put, zsP]
 (try simp only [annK])
 refine LW.block 3 6 (by rfl) (by kernel_rfl) (by kernel_rfl) ?_;simp only [ztP]
 repeat (first | go_big_quiet_skip | (go_big_quiet_want; go_big_quiet_op; go_big_quiet_on))
 refine wpQuiet_nil ?_;refine LW.lzy _ (by rfl) (by rfl) ?_ ?_
 . intro yL _;exact zaL ((by rfl))
 intro _;simp only [Act.put, zsP]
 (try simp only [annK])
 refine LW.block 2 9 (by rfl) (by kernel_rfl) (by kernel_rfl) ?_;simp only [ztP]
 repeat (first | go_big_quiet_skip | (go_big_quiet_want; go_big_quiet_op; go_big_quiet_on))
 refine wpQuiet_nil ?_;refine LW.lzy _ (by rfl) (by rfl) ?_ ?_
 . intro yL hf;unfold lzAt;go_simp;exact ⟨Below.one _ _, fun _ => undef, rfl, fun w'' hb => (Bx.new yL.w _ _).belowAll hb⟩
 intro s9;simp only [Act.put, zsP];refine LW.done ?_;intro W5 hG;have h9 : Bx W5 s9.lo #[.slice o2 a.kids.length c2, .slice o4 b.kids.length c4] 127 := hG.get 9 rfl rfl;have hb5 := hG.below;obtain ⟨x4, y4, ak4, bk4, v4, K4⟩ := H4.out;obtain ⟨n1, n2, n3, n4⟩ := Hn.out;have Hcat := zhI (zk8 base W5 s9.lo _ _ h9 a.kids.length b.kids.length (a.kids.map AT.ptr) (b.kids.map AT.ptr) (ak4.belowAt hb5) (bk4.belowAt hb5) (by intro u hu; obtain ⟨k, -, rfl⟩ := List.mem_map.1 hu; rfl) (by intro u hu; obtain ⟨k, -, rfl⟩ := List.mem_map.1 hu; rfl) (by omega) (by omega));have H5 := zhI (zaI (x4.belowAll hb5) (zaI (v4.belowAt hb5) (zaI (K4.of_below hb5) hb5)));clear hG cQ hb5 cX cY lX lY x4 y4 ak4 bk4 v4 K4 n1 n2 n3 n4 h9;refine wpAny_ready (rs := [10]) (by kernel_rfl) (by simp) ?_;refine AllReady.cons rfl (fun K hK => ?_) AllReady.nil;go_simp;refine Hcat.out.mono ?_;rintro e W6 ⟨v2, rfl, ho6, hb6⟩;refine hK _ _ ?_;clear hK K;simp only [zsP];obtain ⟨q2, d2, rfl⟩ := (RowO.own ho6).lit;have x6 := H5.out.1.belowAll hb6;have e6 : W6.cell? ⟨ab, 2, none⟩ = some (.slice o2 a.kids.length c2) := by rw [x6.cell]; rfl
 have f6 : W6.frozen? ⟨ab, 2, none⟩ = false := x6.free 2;refine wpAny_ready (rs := [11]) (by kernel_rfl) (by simp) ?_;refine AllReady.cons rfl (fun K hK => ?_) AllReady.nil;go_simp;refine hK _ _ ?_;clear hK K;refine wpAny_ready (rs := [12]) (by kernel_rfl) (by simp) ?_;refine AllReady.cons rfl (fun K hK => ?_) AllReady.nil;go_simp;refine hK _ _ ?_;clear hK K;refine wpAny_ready (rs := [13]) (by kernel_rfl) (by simp) ?_;refine AllReady.cons rfl (fun K hK => ?_) AllReady.nil;go_simp;refine hK _ _ ?_;clear hK K;refine wpAny_done (by kernel_rfl) ?_ _;go_wp2;refine bodyPost_end (v := .tuple #[]) (by simp [results, Tryz.results194, go_sem]) rfl ?_;rw [<- HR.out];obtain ⟨-, v5, K5, hb5⟩ := H5.out;have labW : ab < w.heap.size := HX.out.1.lt;have hz5 : w.heap.size <= W5.heap.size := K5.2.2.2.1;have hz45 := hb5.size;refine ⟨rfl, .slice q1 (a.ps.length + b.ps.length) d1, .slice q2 (a.kids.length + b.kids.length) d2, ?_, ?_, x6.set 2 _, ?_, ?_⟩
 . exact (v5.belowAt hb6).same fun y hy => Below.heap_setCell _ ⟨ab, 2, none⟩ _ _ (fun e => by have h1 := (v5.lt y hy).1; have h2 : y = ab := e; omega)
 . exact (RowO.own (zaE ho6 hz5)).same fun y hy => Below.heap_setCell _ ⟨ab, 2, none⟩ _ _ (fun e => by have h1 := ((RowO.own ho6).lt y hy).1; have h2 : y = ab := e; omega)
 . intro y hy hy2;have h1 := Hv1.out y hy;have h2 := ((RowO.own ho6).lt y hy2).1;have h3 := Hs4.out;omega
 . exact (K5.of_below hb6).set (by simp)
theorem KeepB.own' {L : List Nat} {W A : World} {b k : Nat} {v : Value} (h : KeepB L W A) (hb : W.heap.size <= b) : KeepB L W (A.setCell ⟨b, k, none⟩ v) := by
 refine ⟨?_, ?_, ?_, ?_, fun c hc hn => (Below.heap_setCell A ⟨b, k, none⟩ v c (fun e => by have h2 : c = b := e; omega)).trans (h.2.2.2.2 c hc hn)⟩
 . exact (zaa (b := b) (k := k) (v := v) (Below.refl 0 A) (Nat.zero_le _)).os.trans h.1
 . exact (zaa (b := b) (k := k) (v := v) (Below.refl 0 A) (Nat.zero_le _)).tape.trans h.2.1
 . exact (zaa (b := b) (k := k) (v := v) (Below.refl 0 A) (Nat.zero_le _)).output.trans h.2.2.1
 . simpa using h.2.2.2.1
theorem ziC {w : World} {base n k : Nat} {e : TypeId} {g c : Nat} {xs : List Value} (h : RowO w base e k (.slice (some ⟨g, 0, none⟩) n c) n xs) : RowAt (fun y => y = g) w (some ⟨g, 0, none⟩) xs := by
 obtain ⟨o, cc, h1, -, h2⟩ := h.at;have h1' : some ⟨g, 0, none⟩ = o := by have := h1; simp at this; exact this.1
 subst h1';exact h2.mono fun y hy => zaO hy
set_option maxRecDepth 100000 in
set_option maxHeartbeats 4000000 in
theorem zhN (base : Nat) (a : Nat) (v1 v2 : Value) (page : Int) (n : Nat) (xs : List Value) (w : World) (hx : Bx w a (nodeC true v1 v2 page) 129) (hr : RowO w base 77 2 v1 n xs) (h1 : ∀ u ∈ xs, u.oneCell' = true) (hn : n <= 1000) (k : Nat) (hk : k < n) (hne : v1.ownBlock ≠ some a) :
  Calls Tryz.prog 195 #[.pointer (some ⟨a, 0, none⟩), .int .i64 k] w fun e w' => e = .returned (.pointer (some ⟨w.heap.size, 0, none⟩)) /\ ∃ u0 u1, Bx w' a (nodeC true u0 v2 page) 129 /\ Bx w' w.heap.size (nodeC true u1 (.slice none 0 0) 0) 129 /\
   RowO w' (w.heap.size + 1) 77 2 u0 k (xs.take (k * 2)) /\ RowO w' (w.heap.size + 1) 77 2 u1 (n - k) (xs.drop (k * 2)) /\ (∀ g, u0.ownBlock = some g -> u1.ownBlock ≠ some g) /\ KeepB [a] w w' := by
 obtain ⟨g, c, rfl, hgb, hgl, hgc, hgm⟩ := hr.pos (by omega);have hga : g ≠ a := fun e => hne (by rw [<- e]; rfl);obtain ⟨R, hR⟩ : ∃ R, (fun (e : Ending) (w' : World) => e = .returned (.pointer (some ⟨w.heap.size, 0, none⟩)) /\ ∃ u0 u1, Bx w' a (nodeC true u0 v2 page) 129 /\ Bx w' w.heap.size (nodeC true u1 (.slice none 0 0) 0) 129 /\
   RowO w' (w.heap.size + 1) 77 2 u0 k (xs.take (k * 2)) /\ RowO w' (w.heap.size + 1) 77 2 u1 (n - k) (xs.drop (k * 2)) /\ (∀ g, u0.ownBlock = some g -> u1.ownBlock ≠ some g) /\ KeepB [a] w w') = R := ⟨_, rfl⟩
 rw [hR];have HR := zhI hR;have hck : c ≠ k := by omega
 have hB1 : Below w.heap.size w (w.alloc (.cells #[.bool true, .slice none 0 0, .slice none 0 0, .int .i64 0] 129)) := Below.one _ _;have xP := Bx.new w #[.bool true, .slice none 0 0, .slice none 0 0, .int .i64 0] 129;have x1 := hx.belowAll hB1;have r1 := hr.belowAt hB1;have hxl : xs.length = n * 2 := hr.1;have hdl : (xs.drop (k * 2)).length = (n - k) * 2 := by rw [List.length_drop, hxl]; omega
 have htl : (xs.take (k * 2)).length = k * 2 := by rw [List.length_take, hxl]; omega
 have hra := ziC r1;have hrd : RowAt (fun y => y = g) (w.alloc (.cells #[.bool true, .slice none 0 0, .slice none 0 0, .int .i64 0] 129)) (some ⟨g, k * 2, none⟩) (xs.drop (k * 2)) := by have := hra.cut (k * 2) ((n - k) * 2);rw [List.take_of_length_le (by rw [hdl]; exact Nat.le_refl _), Nat.zero_add] at this;exact this
 have Hc1 := zhI (zdK _ ⟨g, k * 2, none⟩ (n - k) (c - k) (xs.drop (k * 2)) hdl hrd (fun u hu => h1 u (List.mem_of_mem_drop hu)) (by omega));obtain ⟨N, hN⟩ : ∃ N, w.heap.size = N := ⟨_, rfl⟩;rw [hN] at xP;have HX := zhI (zaI x1 (zaI r1 (zaI xP hB1)));have Ht := zhI (zaI htl (zaI h1 hxl));have hal : a < w.heap.size := hx.lt;have haN : a < N := by omega
 have cX := hx.cell;unfold nodeC at cX;clear hR hr hB1 xP x1 r1 hxl hdl htl hra hrd hx hne h1;go_enter Tryz.func195, Tryz.ntmps195;go_wp2_with fail;refine Hc1.out.mono ?_;rintro e W1 ⟨u1, rfl, ho1, hb1⟩;obtain ⟨q1, d1, rfl⟩ := (RowO.own ho1).lit;clear Hc1 cX;have x1 := HX.out.1.belowAll hb1;have xP1 := HX.out.2.2.1.belowAll hb1;have cX := x1.cell;have lX := x1.lt;unfold nodeC at cX;have cP : W1.cell? ⟨N, 1, none⟩ = some (.slice none 0 0) := by rw [xP1.cell]; rfl
 have fP : W1.frozen? ⟨N, 1, none⟩ = false := xP1.free 1;have lP := xP1.lt;have hNa : N ≠ a := by omega
 have x2 := x1.setO (a := ⟨N, 1, none⟩) (show a ≠ N from fun e => hNa e.symm) (.slice q1 (n - k) d1);have hgN : g < N := by omega
 have r2 := (HX.out.2.1.belowAt hb1).same (w' := W1.setCell ⟨N, 1, none⟩ (.slice q1 (n - k) d1)) fun y hy => Below.heap_setCell _ ⟨N, 1, none⟩ _ _ (fun e => by have h1 := zaO hy; have h2 : y = N := e; omega);have hrt : RowAt (fun y => y = g) (W1.setCell ⟨N, 1, none⟩ (.slice q1 (n - k) d1)) (some ⟨g, 0, none⟩) (xs.take (k * 2)) := by have := (ziC r2).cut 0 (k * 2);simpa using this
 have Hc2 := zhI (zdK _ ⟨g, 0, none⟩ k c (xs.take (k * 2)) Ht.out.1 hrt (fun u hu => Ht.out.2.1 u (List.mem_of_mem_take hu)) (by omega));have xP2 : Bx (W1.setCell ⟨N, 1, none⟩ (.slice q1 (n - k) d1)) N #[.bool true, .slice q1 (n - k) d1, .slice none 0 0, .int .i64 0] 129 := xP1.set 1 _;have hv1 : ∀ y, (Value.slice q1 (n - k) d1).ownBlock = some y -> N + 1 <= y /\ y < W1.heap.size := fun y hy => by
  have h1 := (RowO.own ho1).lt y hy;have h2 : (w.alloc (.cells #[.bool true, .slice none 0 0, .slice none 0 0, .int .i64 0] 129)).heap.size = w.heap.size + 1 := by simp
  rw [h2, hN] at h1;exact h1
 have o2 := (RowO.own ho1).same (w' := W1.setCell ⟨N, 1, none⟩ (.slice q1 (n - k) d1)) fun y hy => Below.heap_setCell _ ⟨N, 1, none⟩ _ _ (fun e => by have h1 := (hv1 y hy).1; have h2 : y = N := e; omega);have K1 : KeepB [a] w W1 := ((KeepB.refl _ w).of_below HX.out.2.2.2).of_below hb1;have K2 : KeepB [a] w (W1.setCell ⟨N, 1, none⟩ (.slice q1 (n - k) d1)) := K1.own' (by omega);have H2 := zhI (zaI x2 (zaI xP2 (zaI hv1 (zaI o2 K2))));clear x1 xP1 x2 r2 hrt xP2 hv1 o2 K1 K2 ho1 hb1;go_wp2_with fail;refine Hc2.out.mono ?_;rintro e W3 ⟨u0, rfl, ho3, hb3⟩;obtain ⟨q0, d0, rfl⟩ := (RowO.own ho3).lit;obtain ⟨x2, xP2, hv1, o2, K2⟩ := H2.out;have x3 := x2.belowAll hb3;have xP3 := xP2.belowAll hb3;have o3 := o2.belowAt hb3;have K3 := K2.of_below hb3;have hz2 : W1.heap.size = (W1.setCell ⟨N, 1, none⟩ (.slice q1 (n - k) d1)).heap.size := by simp
 have hN1 : N + 1 <= (W1.setCell ⟨N, 1, none⟩ (.slice q1 (n - k) d1)).heap.size := by rw [<- hz2]; exact lP
 have hv0 : ∀ y, (Value.slice q0 k d0).ownBlock = some y -> W1.heap.size <= y := fun y hy => by have h1 := ((RowO.own ho3).lt y hy).1;omega
 have p3 := RowO.own (zaE ho3 hN1);have x4 : Bx (W3.setCell ⟨a, 1, none⟩ (.slice q0 k d0)) a (nodeC true (.slice q0 k d0) v2 page) 129 := x3.set 1 _;have xP4 := xP3.setO (a := ⟨a, 1, none⟩) (show N ≠ a from hNa) (.slice q0 k d0);have p4 := p3.same (w' := W3.setCell ⟨a, 1, none⟩ (.slice q0 k d0)) fun y hy => Below.heap_setCell _ ⟨a, 1, none⟩ _ _ (fun e => by have h1 := hv0 y hy; have h2 : y = a := e; omega);have o4 := o3.same (w' := W3.setCell ⟨a, 1, none⟩ (.slice q0 k d0)) fun y hy => Below.heap_setCell _ ⟨a, 1, none⟩ _ _ (fun e => by have h1 := (hv1 y hy).1; have h2 : y = a := e; omega);have K4 : KeepB [a] w (W3.setCell ⟨a, 1, none⟩ (.slice q0 k d0)) := K3.set (by simp);have hdd : ∀ y, (Value.slice q0 k d0).ownBlock = some y -> (Value.slice q1 (n - k) d1).ownBlock ≠ some y := fun y hy hy1 => by have h1 := hv0 y hy;have h2 := (hv1 y hy1).2;omega
 have cA : W3.cell? ⟨a, 1, none⟩ = some (.slice (some ⟨g, 0, none⟩) n c) := by rw [x3.cell]; rfl
 have fA : W3.frozen? ⟨a, 1, none⟩ = false := x3.free 1;have lA := x3.lt;have HF := zhI (zaI x4 (zaI xP4 (zaI p4 (zaI o4 (zaI hdd K4)))));clear Hc2 cX lX cP fP lP x2 xP2 hv1 o2 K2 x3 xP3 o3 K3 hz2 hN1 hv0 p3 x4 xP4 p4 o4 K4 hdd ho3 hb3 H2;go_wp2;rw [<- HR.out];obtain ⟨x4, xP4, p4, o4, hdd, K4⟩ := HF.out;rw [show (w.alloc (.cells #[.bool true, .slice none 0 0, .slice none 0 0, .int .i64 0] 129)).heap.size = w.heap.size + 1 by simp, hN] at o4;rw [hN];exact ⟨rfl, _, _, x4, xP4, p4, o4, hdd, K4⟩
theorem zhG (base : Nat) (a : Nat) (v1 v2 : Value) (page : Int) (n : Nat) (xs : List Value) (w : World) (hx : Bx w a (nodeC false v2 v1 page) 129) (hr : RowO w base 88 1 v1 n xs) (h1 : ∀ u ∈ xs, u.oneCell' = true) (hn : n <= 1000) (k : Nat) (hk : k < n) (hne : v1.ownBlock ≠ some a) :
  Calls Tryz.prog 195 #[.pointer (some ⟨a, 0, none⟩), .int .i64 k] w fun e w' => e = .returned (.pointer (some ⟨w.heap.size, 0, none⟩)) /\ ∃ u0 u1, Bx w' a (nodeC false v2 u0 page) 129 /\ Bx w' w.heap.size (nodeC false (.slice none 0 0) u1 0) 129 /\
   RowO w' (w.heap.size + 1) 88 1 u0 k (xs.take k) /\ RowO w' (w.heap.size + 1) 88 1 u1 (n - k) (xs.drop k) /\ (∀ g, u0.ownBlock = some g -> u1.ownBlock ≠ some g) /\ KeepB [a] w w' := by
 obtain ⟨g, c, rfl, hgb, hgl, hgc, hgm⟩ := hr.pos (by omega);have hga : g ≠ a := fun e => hne (by rw [<- e]; rfl);obtain ⟨R, hR⟩ : ∃ R, (fun (e : Ending) (w' : World) => e = .returned (.pointer (some ⟨w.heap.size, 0, none⟩)) /\ ∃ u0 u1, Bx w' a (nodeC false v2 u0 page) 129 /\ Bx w' w.heap.size (nodeC false (.slice none 0 0) u1 0) 129 /\
   RowO w' (w.heap.size + 1) 88 1 u0 k (xs.take k) /\ RowO w' (w.heap.size + 1) 88 1 u1 (n - k) (xs.drop k) /\ (∀ g, u0.ownBlock = some g -> u1.ownBlock ≠ some g) /\ KeepB [a] w w') = R := ⟨_, rfl⟩
 rw [hR];have HR := zhI hR;have hck : c ≠ k := by omega
 have hB1 : Below w.heap.size w (w.alloc (.cells #[.bool false, .slice none 0 0, .slice none 0 0, .int .i64 0] 129)) := Below.one _ _;have xP := Bx.new w #[.bool false, .slice none 0 0, .slice none 0 0, .int .i64 0] 129;have x1 := hx.belowAll hB1;have r1 := hr.belowAt hB1;have hxl : xs.length = n * 1 := hr.1;have hdl : (xs.drop k).length = (n - k) * 1 := by rw [List.length_drop, hxl]; omega
 have htl : (xs.take k).length = k * 1 := by rw [List.length_take, hxl]; omega
 have hra := ziC r1;have hrd : RowAt (fun y => y = g) (w.alloc (.cells #[.bool false, .slice none 0 0, .slice none 0 0, .int .i64 0] 129)) (some ⟨g, k, none⟩) (xs.drop k) := by have := hra.cut k ((n - k) * 1);rw [List.take_of_length_le (by rw [hdl]; exact Nat.le_refl _), Nat.zero_add] at this;exact this
 have Hc1 := zhI (zdN _ ⟨g, k, none⟩ (n - k) (c - k) (xs.drop k) hdl hrd (fun u hu => h1 u (List.mem_of_mem_drop hu)) (by omega));obtain ⟨N, hN⟩ : ∃ N, w.heap.size = N := ⟨_, rfl⟩;rw [hN] at xP;have HX := zhI (zaI x1 (zaI r1 (zaI xP hB1)));have Ht := zhI (zaI htl (zaI h1 hxl));have hal : a < w.heap.size := hx.lt;have haN : a < N := by omega
 have cX := hx.cell;unfold nodeC at cX;clear hR hr hB1 xP x1 r1 hxl hdl htl hra hrd hx hne h1;go_enter Tryz.func195, Tryz.ntmps195;go_wp2_with fail;refine Hc1.out.mono ?_;rintro e W1 ⟨u1, rfl, ho1, hb1⟩;obtain ⟨q1, d1, rfl⟩ := (RowO.own ho1).lit;clear Hc1 cX;have x1 := HX.out.1.belowAll hb1;have xP1 := HX.out.2.2.1.belowAll hb1;have cX := x1.cell;have lX := x1.lt;unfold nodeC at cX;have cP : W1.cell? ⟨N, 2, none⟩ = some (.slice none 0 0) := by rw [xP1.cell]; rfl
 have fP : W1.frozen? ⟨N, 2, none⟩ = false := xP1.free 2;have lP := xP1.lt;have hNa : N ≠ a := by omega
 have x2 := x1.setO (a := ⟨N, 2, none⟩) (show a ≠ N from fun e => hNa e.symm) (.slice q1 (n - k) d1);have hgN : g < N := by omega
 have r2 := (HX.out.2.1.belowAt hb1).same (w' := W1.setCell ⟨N, 2, none⟩ (.slice q1 (n - k) d1)) fun y hy => Below.heap_setCell _ ⟨N, 2, none⟩ _ _ (fun e => by have h1 := zaO hy; have h2 : y = N := e; omega);have hrt : RowAt (fun y => y = g) (W1.setCell ⟨N, 2, none⟩ (.slice q1 (n - k) d1)) (some ⟨g, 0, none⟩) (xs.take k) := by have := (ziC r2).cut 0 (k * 1);simpa using this
 have Hc2 := zhI (zdN _ ⟨g, 0, none⟩ k c (xs.take k) Ht.out.1 hrt (fun u hu => Ht.out.2.1 u (List.mem_of_mem_take hu)) (by omega));have xP2 : Bx (W1.setCell ⟨N, 2, none⟩ (.slice q1 (n - k) d1)) N #[.bool false, .slice none 0 0, .slice q1 (n - k) d1, .int .i64 0] 129 := xP1.set 2 _;have hv1 : ∀ y, (Value.slice q1 (n - k) d1).ownBlock = some y -> N + 1 <= y /\ y < W1.heap.size := fun y hy => by
  have h1 := (RowO.own ho1).lt y hy;have h2 : (w.alloc (.cells #[.bool false, .slice none 0 0, .slice none 0 0, .int .i64 0] 129)).heap.size = w.heap.size + 1 := by simp
  rw [h2, hN] at h1;exact h1
 have o2 := (RowO.own ho1).same (w' := W1.setCell ⟨N, 2, none⟩ (.slice q1 (n - k) d1)) fun y hy => Below.heap_setCell _ ⟨N, 2, none⟩ _ _ (fun e => by have h1 := (hv1 y hy).1; have h2 : y = N := e; omega);have K1 : KeepB [a] w W1 := ((KeepB.refl _ w).of_below HX.out.2.2.2).of_below hb1;have K2 : KeepB [a] w (W1.setCell ⟨N, 2, none⟩ (.slice q1 (n - k) d1)) := K1.own' (by omega);have H2 := zhI (zaI x2 (zaI xP2 (zaI hv1 (zaI o2 K2))));clear x1 xP1 x2 r2 hrt xP2 hv1 o2 K1 K2 ho1 hb1;go_wp2_with fail;refine Hc2.out.mono ?_;rintro e W3 ⟨u0, rfl, ho3, hb3⟩;obtain ⟨q0, d0, rfl⟩ := (RowO.own ho3).lit;obtain ⟨x2, xP2, hv1, o2, K2⟩ := H2.out;have x3 := x2.belowAll hb3;have xP3 := xP2.belowAll hb3;have o3 := o2.belowAt hb3;have K3 := K2.of_below hb3;have hz2 : W1.heap.size = (W1.setCell ⟨N, 2, none⟩ (.slice q1 (n - k) d1)).heap.size := by simp
 have hN1 : N + 1 <= (W1.setCell ⟨N, 2, none⟩ (.slice q1 (n - k) d1)).heap.size := by rw [<- hz2]; exact lP
 have hv0 : ∀ y, (Value.slice q0 k d0).ownBlock = some y -> W1.heap.size <= y := fun y hy => by have h1 := ((RowO.own ho3).lt y hy).1;omega
 have p3 := RowO.own (zaE ho3 hN1);have x4 : Bx (W3.setCell ⟨a, 2, none⟩ (.slice q0 k d0)) a (nodeC false v2 (.slice q0 k d0) page) 129 := x3.set 2 _;have xP4 := xP3.setO (a := ⟨a, 2, none⟩) (show N ≠ a from hNa) (.slice q0 k d0);have p4 := p3.same (w' := W3.setCell ⟨a, 2, none⟩ (.slice q0 k d0)) fun y hy => Below.heap_setCell _ ⟨a, 2, none⟩ _ _ (fun e => by have h1 := hv0 y hy; have h2 : y = a := e; omega);have o4 := o3.same (w' := W3.setCell ⟨a, 2, none⟩ (.slice q0 k d0)) fun y hy => Below.heap_setCell _ ⟨a, 2, none⟩ _ _ (fun e => by have h1 := (hv1 y hy).1; have h2 : y = a := e; omega);have K4 : KeepB [a] w (W3.setCell ⟨a, 2, none⟩ (.slice q0 k d0)) := K3.set (by simp);have hdd : ∀ y, (Value.slice q0 k d0).ownBlock = some y -> (Value.slice q1 (n - k) d1).ownBlock ≠ some y := fun y hy hy1 => by have h1 := hv0 y hy;have h2 := (hv1 y hy1).2;omega
 have cA : W3.cell? ⟨a, 2, none⟩ = some (.slice (some ⟨g, 0, none⟩) n c) := by rw [x3.cell]; rfl
 have fA : W3.frozen? ⟨a, 2, none⟩ = false := x3.free 2;have lA := x3.lt;have HF := zhI (zaI x4 (zaI xP4 (zaI p4 (zaI o4 (zaI hdd K4)))));clear Hc2 cX lX cP fP lP x2 xP2 hv1 o2 K2 x3 xP3 o3 K3 hz2 hN1 hv0 p3 x4 xP4 p4 o4 K4 hdd ho3 hb3 H2;go_wp2;rw [<- HR.out];obtain ⟨x4, xP4, p4, o4, hdd, K4⟩ := HF.out;rw [show (w.alloc (.cells #[.bool false, .slice none 0 0, .slice none 0 0, .int .i64 0] 129)).heap.size = w.heap.size + 1 by simp, hN] at o4;rw [hN];exact ⟨rfl, _, _, x4, xP4, p4, o4, hdd, K4⟩
theorem zjV {l1 l2 M X : List AT} {z : Nat} (hnd : (AT.fpL (l1 ++ (M ++ l2))).Nodup) (hlt : ∀ y ∈ AT.fpL (l1 ++ (M ++ l2)), y < z) (hX : (AT.fpL X).Nodup) (hXs : ∀ y ∈ AT.fpL X, y ∈ AT.fpL M \/ z <= y) :
  (AT.fpL (l1 ++ (X ++ l2))).Nodup /\ ∀ y ∈ AT.fpL (l1 ++ (X ++ l2)), y ∈ AT.fpL (l1 ++ (M ++ l2)) \/ z <= y := by
 simp only [zaQ, List.nodup_append, zmA] at hnd hlt |-;obtain ⟨h1, ⟨h2, h3, h4⟩, h5⟩ := hnd;refine ⟨⟨h1, ⟨hX, h3, ?_⟩, ?_⟩, ?_⟩
 .
  intro x hx y hy e;rcases hXs x hx with h | h
  . exact h4 x h y hy e
  . have := hlt y (.inr (.inr hy)); omega
 .
  intro x hx y hy e;rcases hy with hy | hy
  .
   rcases hXs y hy with h | h
   . exact h5 x hx y (.inl h) e
   . have := hlt x (.inl hx); omega
  . exact h5 x hx y (.inr hy) e
 .
  intro y hy;rcases hy with h | h | h
  . exact .inl (.inl h)
  .
   rcases hXs y h with h | h
   . exact .inl (.inr (.inl h))
   . exact .inr h
  . exact .inl (.inr (.inr h))
theorem RowO.set1 {w : World} {base n : Nat} {e : TypeId} {g c : Nat} {xs : List Value} (h : RowO w base e 1 (.slice (some ⟨g, 0, none⟩) n c) n xs) {i : Nat} (u : Value) :
  RowO (w.setCell ⟨g, i, none⟩ u) base e 1 (.slice (some ⟨g, 0, none⟩) n c) n (xs.set i u) := by
 rcases h.2 with ⟨h1, _⟩ | ⟨g', cap, cur, h1, hb, hh, hn, hc, hs, ht⟩
 . cases h1
 .
  obtain ⟨rfl, rfl⟩ : g = g' /\ c = cap := by simpa using h1
  have hx := h.1;rw [setCell_eq_setRow w g i cur e (0, 0) u hh];have hh2 := setRow_heap w g cur (cur.setIfInBounds i u) e (0, 0) hh;refine RowO.mk' (by rw [List.length_set]; exact hx) hb hh2 hn hc (by simpa using hs) ?_;rw [Array.toList_setIfInBounds, List.take_set, ht]
theorem RowO.mono {w : World} {base base' k n : Nat} {e : TypeId} {v : Value} {xs : List Value} (h : RowO w base e k v n xs) (hb : base' <= base) : RowO w base' e k v n xs := by
 refine ⟨h.1, ?_⟩;rcases h.2 with h | ⟨g, cap, cur, h1, h2, h3⟩
 . exact .inl h
 . exact .inr ⟨g, cap, cur, h1, by omega, h3⟩
theorem AT.fp_parts (t : AT) : t.fp = t.b :: (t.pv.ownBlock.toList ++ (t.kv.ownBlock.toList ++ AT.fpL t.kids)) := by
 cases t with | mk b pv kv ps kids page => rw [AT.fp]; rfl
theorem zlT (a b : AT) : joinN a.nd.er b.nd.er = .mk (a.ps ++ b.ps) ((a.kids ++ b.kids).map fun s => s.nd.er) 0 := by
 unfold joinN;rw [Nd.er_ps, Nd.er_ps, Nd.er_kids, Nd.er_kids, AT.nd_ps, AT.nd_ps, AT.nd_kids, AT.nd_kids];simp [Function.comp_def]
theorem at_er (b : Nat) (pv kv : Value) (ps : List Kv) (kids : List AT) (page : Int) : (AT.mk b pv kv ps kids page).nd.er = .mk ps (kids.map fun s => s.nd.er) 0 := by
 rw [Nd.er_eq, AT.nd_ps, AT.nd_kids];simp [AT.ps, AT.kids, Function.comp_def]
theorem zlU (base : Nat) (a b : AT) (w : World) (ha : Lies base w a) (hb : Lies base w b) (hnd : (a.fp ++ b.fp).Nodup) (hsame : a.kids.isEmpty = b.kids.isEmpty) (hl : a.ps.length <= 100 /\ b.ps.length <= 100 /\ a.kids.length <= 100 /\ b.kids.length <= 100) (hbw : base <= w.heap.size) :
  Calls Tryz.prog 194 #[a.ptr, b.ptr] w fun e w' => e = .returned (.tuple #[]) /\ ∃ v1 v2, Lies base w' (.mk a.b v1 v2 (a.ps ++ b.ps) (a.kids ++ b.kids) a.page) /\ (AT.mk a.b v1 v2 (a.ps ++ b.ps) (a.kids ++ b.kids) a.page).fp.Nodup /\
   (∀ y ∈ (AT.mk a.b v1 v2 (a.ps ++ b.ps) (a.kids ++ b.kids) a.page).fp, y ∈ a.fp ++ b.fp \/ w.heap.size <= y) /\ KeepB [a.b] w w' := by
 obtain ⟨na, nb, nab⟩ := List.nodup_append.1 hnd;have hfa := a.fp_parts;have hfb := b.fp_parts;have hma : ∀ y, y ∈ a.fp ↔ y = a.b \/ y ∈ a.pv.ownBlock.toList \/ y ∈ a.kv.ownBlock.toList \/ y ∈ AT.fpL a.kids := fun y => by rw [hfa]; simp
 have hmb : ∀ y, y ∈ b.fp ↔ y = b.b \/ y ∈ b.pv.ownBlock.toList \/ y ∈ b.kv.ownBlock.toList \/ y ∈ AT.fpL b.kids := fun y => by rw [hfb]; simp
 have hab : a.b ∈ a.fp := (hma _).2 (.inl rfl);have hne : a.b ≠ b.b := fun e => nab _ hab _ ((hmb _).2 (.inl rfl)) e;have na' := na;rw [hfa] at na';obtain ⟨⟨p1, p2, p3⟩, ⟨m1, m2, m3⟩, d1, d2, d3⟩ := zaZ.1 na';have nb' := nb;rw [hfb] at nb';obtain ⟨⟨q1, q2, q3⟩, ⟨r1, r2, r3⟩, f1, f2, f3⟩ := zaZ.1 nb';have hlta := ha.lt;have hltb := hb.lt;refine (zmG base a b w ha hb hne ?_ hl).mono ?_
 .
  intro v hv e;have hv' : v = a.pv \/ v = a.kv \/ v = b.pv \/ v = b.kv := by simpa using hv
  rcases hv' with rfl | rfl | rfl | rfl
  . exact m1 (by rw [e]; simp)
  . exact m2 (by rw [e]; simp)
  . exact nab _ hab _ ((hmb _).2 (.inr (.inl (by rw [e]; simp)))) rfl
  . exact nab _ hab _ ((hmb _).2 (.inr (.inr (.inl (by rw [e]; simp))))) rfl
 .
  rintro e W ⟨rfl, v1, v2, hv1, hv2, hx, hdd, hK⟩;have hz := hK.2.2.2.1;have hem : (a.kids ++ b.kids).isEmpty = a.kids.isEmpty := by
   cases hka : a.kids with
   | nil => rw [hka] at hsame; simp only [List.nil_append, List.isEmpty_nil] at hsame |-; exact hsame.symm
   | cons => rfl
  have hkl : ∀ y ∈ AT.fpL (a.kids ++ b.kids), (y ∈ a.fp \/ y ∈ b.fp) /\ y < w.heap.size /\ y ≠ a.b := fun y hy => by
   rw [zaQ] at hy;rcases zmA.1 hy with h | h
   . have h1 := (hma y).2 (.inr (.inr (.inr h)));exact ⟨.inl h1, (hlta y h1).2, fun e => m3 (e ▸ h)⟩
   . have h1 := (hmb y).2 (.inr (.inr (.inr h)));exact ⟨.inr h1, (hltb y h1).2, fun e => nab _ hab _ h1 e.symm⟩
  have l1 := hv1.lt;have l2 := hv2.lt;refine ⟨rfl, v1, v2, .mk _ _ _ _ _ _ ha.hb ?_ ?_ ?_ ?_, ?_, ?_, hK⟩
  . rw [hem]; exact hx
  . rw [zlA, zbP];exact hv1.mono hbw
  . rw [zlA, List.map_append];exact hv2.mono hbw
  . intro c hc;have hcl : Lies base w c := (zmA.1 hc).elim (ha.hc c) (hb.hc c);exact hcl.keepB hK fun y hy hm => (hkl y (AT.mem_fpL.2 ⟨c, hc, hy⟩)).2.2 (by simpa using hm)
  .
   rw [AT.fp];refine zaZ.2 ⟨⟨by cases v1.ownBlock <;> simp, by cases v2.ownBlock <;> simp, ?_⟩, ⟨?_, ?_, ?_⟩, ?_, ?_, ?_⟩
   . rw [zaQ];refine List.nodup_append.2 ⟨p3, q3, fun x hx y hy e => ?_⟩;exact nab x ((hma x).2 (.inr (.inr (.inr hx)))) y ((hmb y).2 (.inr (.inr (.inr hy)))) e
   . intro h;have h1 := (l1 a.b (by simpa using h)).1;have := (hlta _ hab).2;omega
   . intro h;have h1 := (l2 a.b (by simpa using h)).1;have := (hlta _ hab).2;omega
   . exact fun h => (hkl _ h).2.2 rfl
   . intro x hx hy;exact hdd x (by simpa using hx) (by simpa using hy)
   . intro x hx hy;have h1 := (l1 x (by simpa using hx)).1;have := (hkl _ hy).2.1;omega
   . intro x hx hy;have h1 := (l2 x (by simpa using hx)).1;have := (hkl _ hy).2.1;omega
  .
   intro y hy;rw [AT.fp] at hy;simp only [zmC, zmA] at hy |-;rcases hy with h | h | h | h
   . exact .inl (.inl (h ▸ hab))
   . exact .inr (l1 y (by simpa using h)).1
   . exact .inr (l2 y (by simpa using h)).1
   . exact .inl (hkl y h).1
theorem zna (base : Nat) (a : AT) (w : World) (ha : Lies base w a) (hnd : a.fp.Nodup) (hps : a.kids ≠ [] -> a.ps = []) (hl : a.ps.length <= 1000 /\ a.kids.length <= 1000) (k : Nat) (hk0 : 0 < k) (hk : (a.kids = [] -> k < a.ps.length) /\ (a.kids ≠ [] -> k < a.kids.length)) (hbw : base <= w.heap.size) :
  Calls Tryz.prog 195 #[a.ptr, .int .i64 k] w fun e w' => ∃ c r : AT, e = .returned r.ptr /\ c.b = a.b /\ Lies base w' c /\ Lies base w' r /\ (c.fp ++ r.fp).Nodup /\ (∀ y ∈ c.fp ++ r.fp, y ∈ a.fp \/ w.heap.size <= y) /\ KeepB [a.b] w w' /\ cutN a.nd.er k = (c.nd.er, r.nd.er) := by
 obtain ⟨b, pv, kv, ps, kids, page⟩ := a;simp only [AT.kids, AT.ps] at hps hl hk;have hx := ha.hx;have hp := ha.hp;have hkr := ha.hk;have hc := ha.hc;have hbb := ha.hb;have hlt := ha.lt;simp only [AT.b, AT.pv, AT.kv, AT.ps, AT.kids, AT.page] at hx hp hkr hc hbb;have hnd' := hnd;rw [AT.fp] at hnd';obtain ⟨⟨n1, n2, n3⟩, ⟨m1, m2, m3⟩, d1, d2, d3⟩ := zaZ.1 hnd';have hmem : ∀ y, y ∈ (AT.mk b pv kv ps kids page).fp ↔ y = b \/ y ∈ pv.ownBlock.toList \/ y ∈ kv.ownBlock.toList \/ y ∈ AT.fpL kids := fun y => by rw [AT.fp]; simp
 have hbl := (hlt b ((hmem b).2 (.inl rfl))).2
 by_cases h0 : kids = []
 .
  subst h0;have hk := hk.1 rfl;refine (zhN base b pv kv page ps.length (kvsC ps) w hx hp (zb4 _) hl.1 k hk (fun e => m1 (by rw [e]; simp))).mono ?_;rintro e W ⟨rfl, u0, u1, x0, x1, r0, r1, hdd, hK⟩;have l0 := r0.lt;have l1 := r1.lt;have hz := hK.2.2.2.1;have hkv : ∀ y ∈ kv.ownBlock.toList, y < w.heap.size /\ y ≠ b := fun y hy => ⟨(hlt y ((hmem y).2 (.inr (.inr (.inl hy))))).2, fun e => m2 (e ▸ hy)⟩;have k0 : RowO W base 88 1 kv 0 [] := hkr.keepB hK (fun g hg hm => (hkv g (by rw [hg]; simp)).2 (by simpa using hm));refine ⟨.mk b u0 kv (ps.take k) [] page, .mk w.heap.size u1 (.slice none 0 0) (ps.drop k) [] 0, rfl, rfl, ?_, ?_, ?_, ?_, hK, ?_⟩
  . refine .mk _ _ _ _ _ _ hbb x0 ?_ k0 (fun _ h => by cases h);rw [zeJ, List.length_take, Nat.min_eq_left (by omega)];exact r0.mono (by omega)
  . refine .mk _ _ _ _ _ _ hbw x1 ?_ ⟨rfl, .inl ⟨rfl, rfl⟩⟩ (fun _ h => by cases h);rw [zeI, List.length_drop];exact r1.mono (by omega)
  .
   have e0 : (AT.mk b u0 kv (ps.take k) [] page).fp = b :: (u0.ownBlock.toList ++ (kv.ownBlock.toList ++ AT.fpL [])) := by rw [AT.fp]
   have e1 : (AT.mk w.heap.size u1 (.slice none 0 0) (ps.drop k) [] 0).fp = w.heap.size :: u1.ownBlock.toList := by rw [AT.fp]; simp [Value.ownBlock, AT.fpL]
   rw [e0, e1];refine List.nodup_append.2 ⟨zaZ.2 ⟨⟨by cases u0.ownBlock <;> simp, n2, by simp [AT.fpL]⟩, ⟨fun h => ?_, m2, by simp [AT.fpL]⟩, fun x hx hy => ?_, by simp [AT.fpL], by simp [AT.fpL]⟩, ?_, ?_⟩
   . have := (l0 b (by simpa using h)).1; omega
   . have := (l0 x (by simpa using hx)).1; have := (hkv x hy).1; omega
   .
    refine List.nodup_cons.2 ⟨fun h => ?_, by cases u1.ownBlock <;> simp⟩
    have := (l1 _ (by simpa using h)).1; omega
   .
    intro x hx y hy e;subst e;have hx' : x = b \/ x ∈ u0.ownBlock.toList \/ x ∈ kv.ownBlock.toList := by simpa [AT.fpL] using hx
    have hy' : x = w.heap.size \/ x ∈ u1.ownBlock.toList := by simpa using hy
    rcases hx' with h | h | h
    .
     rcases hy' with g | g
     . omega
     . have := (l1 x (by simpa using g)).1; omega
    .
     rcases hy' with g | g
     . have := (l0 x (by simpa using h)).1; omega
     . exact hdd x (by simpa using h) (by simpa using g)
    .
     have := (hkv x h).1;rcases hy' with g | g
     . omega
     . have := (l1 x (by simpa using g)).1; omega
  .
   intro y hy;rcases zmA.1 hy with h | h
   .
    rw [AT.fp] at h;have h' : y = b \/ y ∈ u0.ownBlock.toList \/ y ∈ kv.ownBlock.toList := by simpa [AT.fpL] using h
    rcases h' with h | h | h
    . exact .inl ((hmem y).2 (.inl h))
    . have := (l0 y (by simpa using h)).1; exact .inr (by omega)
    . exact .inl ((hmem y).2 (.inr (.inr (.inl h))))
   .
    rw [AT.fp] at h;have h' : y = w.heap.size \/ y ∈ u1.ownBlock.toList := by simpa [AT.fpL, Value.ownBlock] using h
    rcases h' with h | h
    . exact .inr (by omega)
    . have := (l1 y (by simpa using h)).1; exact .inr (by omega)
  . unfold cutN;rw [at_er, at_er, at_er];rfl
 .
  have hem : kids.isEmpty = false := by cases kids <;> simp_all
  obtain rfl := hps h0;rw [hem] at hx;have hk := hk.2 h0;refine (zhG base b kv pv page kids.length (kids.map AT.ptr) w hx hkr (by intro u hu; obtain ⟨c, -, rfl⟩ := List.mem_map.1 hu; rfl) hl.2 k hk (fun e => m2 (by rw [e]; simp))).mono ?_;rintro e W ⟨rfl, u0, u1, x0, x1, r0, r1, hdd, hK⟩;have l0 := r0.lt;have l1 := r1.lt;have hz := hK.2.2.2.1;have hpv : ∀ y ∈ pv.ownBlock.toList, y < w.heap.size /\ y ≠ b := fun y hy => ⟨(hlt y ((hmem y).2 (.inr (.inl hy)))).2, fun e => m1 (e ▸ hy)⟩;have hkl : ∀ y ∈ AT.fpL kids, y < w.heap.size /\ y ≠ b := fun y hy => ⟨(hlt y ((hmem y).2 (.inr (.inr (.inr hy))))).2, fun e => m3 (e ▸ hy)⟩;have p0 : RowO W base 77 2 pv 0 [] := hp.keepB hK (fun g hg hm => (hpv g (by rw [hg]; simp)).2 (by simpa using hm));have hks : ∀ c ∈ kids, Lies base W c := fun c hcm => (hc c hcm).keepB hK fun y hy hm => (hkl y (AT.mem_fpL.2 ⟨c, hcm, hy⟩)).2 (by simpa using hm);have hsp : AT.fpL kids = AT.fpL (kids.take k) ++ AT.fpL (kids.drop k) := by rw [<- zaQ, List.take_append_drop]
  have t1 : ∀ y ∈ AT.fpL (kids.take k), y ∈ AT.fpL kids := fun y hy => by rw [hsp]; exact List.mem_append_left _ hy
  have t2 : ∀ y ∈ AT.fpL (kids.drop k), y ∈ AT.fpL kids := fun y hy => by rw [hsp]; exact List.mem_append_right _ hy
  have n3' := n3;rw [hsp] at n3';obtain ⟨s1, s2, s3⟩ := List.nodup_append.1 n3';have i1 : (kids.take k).isEmpty = false := by
   cases hkk : kids.take k with
   | nil => have := congrArg List.length hkk; rw [List.length_take, List.length_nil] at this; omega
   | cons => rfl
  have i2 : (kids.drop k).isEmpty = false := by
   cases hkk : kids.drop k with
   | nil => have := congrArg List.length hkk; rw [List.length_drop, List.length_nil] at this; omega
   | cons => rfl
  refine ⟨.mk b pv u0 [] (kids.take k) page, .mk w.heap.size (.slice none 0 0) u1 [] (kids.drop k) 0, rfl, rfl, ?_, ?_, ?_, ?_, hK, ?_⟩
  . refine .mk _ _ _ _ _ _ hbb (by rw [i1]; exact x0) p0 ?_ (fun c hcm => hks c (List.mem_of_mem_take hcm));rw [List.map_take, List.length_take, Nat.min_eq_left (by omega)];exact r0.mono (by omega)
  . refine .mk _ _ _ _ _ _ hbw (by rw [i2]; exact x1) ⟨rfl, .inl ⟨rfl, rfl⟩⟩ ?_ (fun c hcm => hks c (List.mem_of_mem_drop hcm));rw [List.map_drop, List.length_drop];exact r1.mono (by omega)
  .
   have e0 : (AT.mk b pv u0 [] (kids.take k) page).fp = b :: (pv.ownBlock.toList ++ (u0.ownBlock.toList ++ AT.fpL (kids.take k))) := by rw [AT.fp]
   have e1 : (AT.mk w.heap.size (.slice none 0 0) u1 [] (kids.drop k) 0).fp = w.heap.size :: (u1.ownBlock.toList ++ AT.fpL (kids.drop k)) := by rw [AT.fp]; simp [Value.ownBlock]
   rw [e0, e1];refine List.nodup_append.2 ⟨zaZ.2 ⟨⟨n1, by cases u0.ownBlock <;> simp, s1⟩, ⟨m1, fun h => ?_, fun h => (hkl b (t1 b h)).2 rfl⟩, fun x hx hy => ?_, fun x hx hy => d2 x hx (t1 x hy), fun x hx hy => ?_⟩, ?_, ?_⟩
   . have := (l0 b (by simpa using h)).1; omega
   . have := (l0 x (by simpa using hy)).1; have := (hpv x hx).1; omega
   . have := (l0 x (by simpa using hx)).1; have := (hkl x (t1 x hy)).1; omega
   .
    refine List.nodup_cons.2 ⟨fun h => ?_, List.nodup_append.2 ⟨by cases u1.ownBlock <;> simp, s2, fun x hx y hy e => ?_⟩⟩
    .
     rcases zmA.1 h with h | h
     . have := (l1 _ (by simpa using h)).1; omega
     . have := (hkl _ (t2 _ h)).1; omega
    . have := (l1 x (by simpa using hx)).1; have := (hkl _ (t2 _ hy)).1; omega
   .
    intro x hx y hy e;subst e;have hx' : x = b \/ x ∈ pv.ownBlock.toList \/ x ∈ u0.ownBlock.toList \/ x ∈ AT.fpL (kids.take k) := by simpa using hx
    have hy' : x = w.heap.size \/ x ∈ u1.ownBlock.toList \/ x ∈ AT.fpL (kids.drop k) := by simpa using hy
    rcases hx' with h | h | h | h
    .
     rcases hy' with g | g | g
     . omega
     . have := (l1 x (by simpa using g)).1; omega
     . exact (hkl x (t2 x g)).2 h
    .
     have := (hpv x h).1;rcases hy' with g | g | g
     . omega
     . have := (l1 x (by simpa using g)).1; omega
     . exact d2 x h (t2 x g)
    .
     have h7 := (l0 x (by simpa using h)).1;rcases hy' with g | g | g
     . omega
     . exact hdd x (by simpa using h) (by simpa using g)
     . have := (hkl x (t2 x g)).1; omega
    .
     have h7 := (hkl x (t1 x h)).1;rcases hy' with g | g | g
     . omega
     . have := (l1 x (by simpa using g)).1; omega
     . exact s3 x h x g rfl
  .
   intro y hy;rcases zmA.1 hy with h | h
   .
    rw [AT.fp] at h;have h' : y = b \/ y ∈ pv.ownBlock.toList \/ y ∈ u0.ownBlock.toList \/ y ∈ AT.fpL (kids.take k) := by simpa using h
    rcases h' with h | h | h | h
    . exact .inl ((hmem y).2 (.inl h))
    . exact .inl ((hmem y).2 (.inr (.inl h)))
    . have := (l0 y (by simpa using h)).1; exact .inr (by omega)
    . exact .inl ((hmem y).2 (.inr (.inr (.inr (t1 y h)))))
   .
    rw [AT.fp] at h;have h' : y = w.heap.size \/ y ∈ u1.ownBlock.toList \/ y ∈ AT.fpL (kids.drop k) := by simpa [Value.ownBlock] using h
    rcases h' with h | h | h
    . exact .inr (by omega)
    . have := (l1 y (by simpa using h)).1; exact .inr (by omega)
    . exact .inl ((hmem y).2 (.inr (.inr (.inr (t2 y h)))))
  . unfold cutN;rw [at_er, at_er, at_er];rw [if_neg (by simpa [Nd.kids] using h0)];simp [inN, Nd.kids]
end Go.Proofs.YtlefmmhlpgmbjaaGreat
namespace Go.Proofs.YtlefmmhlpgmbjaaGreat
set_option maxRecDepth 100000
open Go.RowKit
inductive Tm : Nat -> Nat -> Nat -> Nd -> Prop
 | lf (a b : Nat) (ps : List Kv) (pg : Int) (h1 : a <= ps.length) (h3 : ps.length <= 3) (hk : ∀ p ∈ ps, KvOk p) : Tm a b 0 (.mk ps [] pg)
 | inn (a b h : Nat) (kids : List Nd) (pg : Int) (h2 : b <= kids.length) (h0 : 1 <= kids.length) (h8 : kids.length <= 8) (hk : ∀ k ∈ kids, Tm 2 4 h k) : Tm a b (h + 1) (.mk [] kids pg)
theorem Tm.mono {a b c d h : Nat} {n : Nd} (t : Tm a b h n) (h1 : c <= a) (h2 : d <= b) : Tm c d h n := by
 cases t with
 | lf _ _ ps pg g1 g3 hk => exact .lf _ _ _ _ (by omega) g3 hk
 | inn _ _ h kids pg g2 g0 g8 hk => exact .inn _ _ _ _ _ (by omega) g0 g8 hk
theorem Tm.er_iff : ∀ {n : Nd} {a b h : Nat}, Tm a b h n.er ↔ Tm a b h n := by
 intro n
 induction n using Nd.ind with
 | h ps kids page ih =>
  intro a b h;rw [Nd.er_eq];simp only [Nd.ps, Nd.kids];constructor
  .
   intro t;cases h with
   | zero =>
    generalize hk : kids.map Nd.er = ks at t;cases t with
    | lf _ _ _ _ g1 g3 hk' => obtain rfl : kids = [] := List.map_eq_nil_iff.1 hk;exact .lf _ _ _ _ g1 g3 hk'
   | succ h =>
    generalize hk : kids.map Nd.er = ks at t;cases t with
    | inn _ _ _ _ _ g2 g0 g8 hk' => subst hk;rw [List.length_map] at g2 g0 g8;exact .inn _ _ _ _ _ g2 g0 g8 fun k hk => (ih k hk).1 (hk' _ (List.mem_map.2 ⟨k, hk, rfl⟩))
  .
   intro t;cases t with
   | lf _ _ _ _ g1 g3 hk => exact .lf _ _ _ _ g1 g3 hk
   | inn _ _ h _ _ g2 g0 g8 hk => refine .inn _ _ _ _ _ (by rw [List.length_map]; exact g2) (by rw [List.length_map]; exact g0) (by rw [List.length_map]; exact g8) fun k hk' => ?_;obtain ⟨c, hc, rfl⟩ := List.mem_map.1 hk';exact (ih c hc).2 (hk c hc)
theorem Tm.shp : ∀ {n : Nd} {a b h : Nat}, 1 <= a -> 2 <= b -> Tm a b h n -> Shp n := by
 intro n
 induction n using Nd.ind with
 | h ps kids page ih =>
  intro a b h ha hb t;cases t with
  | lf _ _ _ _ g1 g3 hk => exact .lf _ _ (by omega) g3 hk
  | inn _ _ h _ _ g2 g0 g8 hk => exact .inn _ _ (by omega) g8 fun k hk' => ih k hk' (by decide) (by decide) (hk k hk')
theorem Tm.leaf {a b h : Nat} {n : Nd} (t : Tm a b h n) : h = 0 ↔ n.kids = [] := by
 cases t with
 | lf => simp [Nd.kids]
 | inn _ _ h kids pg g2 g0 => 
  simp only [Nd.kids];constructor
  . intro e; omega
  . intro e; rw [e] at g0; simp at g0
theorem Tm.lf' {a b : Nat} {n : Nd} (t : Tm a b 0 n) : n.kids = [] /\ a <= n.ps.length /\ n.ps.length <= 3 /\ ∀ p ∈ n.ps, KvOk p := by
 cases t with
 | lf _ _ _ _ g1 g3 hk => exact ⟨rfl, g1, g3, hk⟩
theorem Tm.inn' {a b h : Nat} {n : Nd} (t : Tm a b (h + 1) n) : n.ps = [] /\ n.kids ≠ [] /\ b <= n.kids.length /\ n.kids.length <= 8 /\ ∀ k ∈ n.kids, Tm 2 4 h k := by
 cases t with
 | inn _ _ _ _ _ g2 g0 g8 hk => exact ⟨rfl, fun e => by simp only [Nd.kids] at e; rw [e] at g0; simp at g0, g2, g8, hk⟩
theorem Tm.mk_lf {a b : Nat} {n : Nd} (h0 : n.kids = []) (h1 : a <= n.ps.length) (h3 : n.ps.length <= 3) (hk : ∀ p ∈ n.ps, KvOk p) : Tm a b 0 n := by
 obtain ⟨ps, kids, page⟩ := n;simp only [Nd.kids, Nd.ps] at *;subst h0;exact .lf _ _ _ _ h1 h3 hk
theorem Tm.mk_inn {a b h : Nat} {n : Nd} (hp : n.ps = []) (h0 : n.kids ≠ []) (h2 : b <= n.kids.length) (h8 : n.kids.length <= 8) (hk : ∀ k ∈ n.kids, Tm 2 4 h k) : Tm a b (h + 1) n := by
 obtain ⟨ps, kids, page⟩ := n;simp only [Nd.kids, Nd.ps] at *;subst hp;exact .inn _ _ _ _ _ h2 (List.length_pos_iff.2 h0) h8 hk
theorem Tm.least_eq {n : Nd} : ∀ {a b h : Nat}, 1 <= a -> Tm a b h n -> ∃ v r, n.prs = (n.least, v) :: r := by
 induction n using Nd.ind with
 | h ps kids page ih =>
  intro a b h ha t;cases t with
  | lf _ _ _ _ g1 g3 hk =>
   rw [Nd.prs_leaf rfl];cases ps with
   | nil => simp at g1; omega
   | cons p r => exact ⟨p.2, r, rfl⟩
  | inn _ _ h _ _ g2 g0 g8 hk =>
   cases kids with
   | nil => simp at g0
   | cons k r => obtain ⟨v, q, e⟩ := ih k (by simp) (by decide) (hk k (by simp));rw [Nd.prs_inner (by simp [Nd.kids])];simp only [Nd.kids, List.map_cons, List.flatten_cons];rw [e];exact ⟨v, q ++ (r.map Nd.prs).flatten, rfl⟩
theorem zdH {α : Type} {p : α -> Bool} {a b : List α} (h : ∀ x ∈ a, p x = true) : (a ++ b).takeWhile p = a ++ b.takeWhile p := by
 induction a with
 | nil => rfl
 | cons x a ih => rw [List.cons_append, List.takeWhile_cons, if_pos (h x (by simp)), ih fun y hy => h y (by simp [hy]), List.cons_append]
theorem zdz {α : Type} {p : α -> Bool} {a b : List α} (h : ∀ x ∈ a, p x = true) : (a ++ b).dropWhile p = b.dropWhile p := by
 induction a with
 | nil => rfl
 | cons x a ih => rw [List.cons_append, List.dropWhile_cons, if_pos (h x (by simp)), ih fun y hy => h y (by simp [hy])]
theorem ze4 {α : Type} {p : α -> Bool} {b : List α} (h : ∀ x ∈ b, p x = false) : b.takeWhile p = [] := by
 cases b with
 | nil => rfl
 | cons x b => rw [List.takeWhile_cons, if_neg (by rw [h x (by simp)]; decide)]
theorem ze7 {α : Type} {p : α -> Bool} {b : List α} (h : ∀ x ∈ b, p x = false) : b.dropWhile p = b := by
 cases b with
 | nil => rfl
 | cons x b => rw [List.dropWhile_cons, if_neg (by rw [h x (by simp)]; decide)]
theorem zdw {α : Type} {p : α -> Bool} {a b : List α} (h : ∀ x ∈ b, p x = false) : (a ++ b).takeWhile p = a.takeWhile p := by
 induction a with
 | nil => rw [List.nil_append, ze4 h]; rfl
 | cons x a ih => rw [List.cons_append, List.takeWhile_cons, List.takeWhile_cons, ih]
theorem zbL {α : Type} {p : α -> Bool} {a b : List α} (h : ∀ x ∈ b, p x = false) : (a ++ b).dropWhile p = a.dropWhile p ++ b := by
 induction a with
 | nil => rw [List.nil_append, ze7 h]; rfl
 | cons x a ih => rw [List.cons_append, List.dropWhile_cons, List.dropWhile_cons, ih];split <;> rfl
theorem zbu {α : Type} {p : α -> Bool} {l : List α} {x : α} (h : x ∈ l.takeWhile p) : p x = true := by
 induction l with
 | nil => cases h
 | cons y l ih =>
  rw [List.takeWhile_cons] at h;split at h
  .
   rename_i hy
   rcases zmC.1 h with rfl | h
   . exact hy
   . exact ih h
  . cases h
theorem ze1 {α : Type} {p : α -> Bool} {l : List α} (h : (l.takeWhile p).length < l.length) : p (l[(l.takeWhile p).length]'h) = false := by
 induction l with
 | nil => simp at h
 | cons y l ih =>
  by_cases hy : p y = true
  .
   have e : (y :: l).takeWhile p = y :: l.takeWhile p := by rw [List.takeWhile_cons, if_pos hy]
   simp only [e, zlC, List.getElem_cons_succ] at h |-;exact ih (by omega)
  .
   have e : (y :: l).takeWhile p = [] := by rw [List.takeWhile_cons, if_neg hy]
   simp only [e, List.length_nil, List.getElem_cons_zero];simpa using hy
theorem zkM {A B C : List Kv} {x : Kv} (hA : ∀ p ∈ A, kLt p.1 x.1 = true) (hC : ∀ p ∈ C, kLt x.1 p.1 = true) : withP (A ++ (B ++ C)) x = A ++ (withP B x ++ C) := by
 unfold withP;have h1 : ∀ p ∈ C, kLt p.1 x.1 = false := fun p hp => zgE (hC p hp);have h2 : ∀ p ∈ C, decide (p.1 = x.1) = false := fun p hp => by simpa using fun e : p.1 = x.1 => zcd (hC p hp) e.symm
 rw [zdH hA, zdz hA, zdw h1, zbL h1, zbL h2];simp
theorem zgH {A B C : List Kv} {key : ByteArray} (hA : ∀ p ∈ A, kLt p.1 key = true) (hC : ∀ p ∈ C, kLt key p.1 = true) : zao (A ++ (B ++ C)) key = A ++ (zao B key ++ C) := by
 unfold zao;have h1 : A.filter (fun p => decide (p.1 ≠ key)) = A := List.filter_eq_self.2 fun p hp => by simpa using zcd (hA p hp)
 have h2 : C.filter (fun p => decide (p.1 ≠ key)) = C := List.filter_eq_self.2 fun p hp => by simpa using fun e : p.1 = key => zcd (hC p hp) e.symm
 rw [List.filter_append, List.filter_append, h1, h2]
theorem zc7 {kids : List Nd} {key : ByteArray} {h : Nat} (hk : ∀ k ∈ kids, Tm 2 4 h k) (ha : Asc (kids.map Nd.prs).flatten) {i : Nat} (hi : zav kids key = i) (hl : i < kids.length) :
  (∀ p ∈ ((kids.take i).map Nd.prs).flatten, kLt p.1 key = true) /\ (∀ p ∈ ((kids.drop (i + 1)).map Nd.prs).flatten, kLt key p.1 = true) := by
 have hle : ∀ (j : Nat) (hj : j < kids.length), ∃ v r, kids[j].prs = (kids[j].least, v) :: r := fun j hj => (hk _ (List.getElem_mem hj)).least_eq (by decide);have hpw : (kids.map Nd.prs).Pairwise fun a b => ∀ x ∈ a, ∀ y ∈ b, kLt x.1 y.1 = true := (List.pairwise_flatten.1 ha).2;rw [List.pairwise_map] at hpw;have hord : ∀ (j m : Nat) (hj : j < kids.length) (hm : m < kids.length), j < m -> ∀ x ∈ kids[j].prs, ∀ y ∈ kids[m].prs, kLt x.1 y.1 = true := fun j m hj hm hjm => List.pairwise_iff_getElem.1 hpw j m hj hm hjm;unfold zav at hi;constructor
 .
  intro p hp;obtain ⟨l, hlm, hpl⟩ := List.mem_flatten.1 hp;obtain ⟨k, hkm, rfl⟩ := List.mem_map.1 hlm;obtain ⟨j, hj, rfl⟩ := List.mem_iff_getElem.1 hkm;rw [List.length_take] at hj;rw [List.getElem_take] at hpl;obtain ⟨m, rfl⟩ : ∃ m, i = m + 1 := ⟨i - 1, by omega⟩;have hmem : kids[m + 1] ∈ kids.tail.takeWhile fun k => !kLt key k.least := by
   have h1 : kids.tail.takeWhile (fun k => !kLt key k.least) = kids.tail.take (m + 1) := by have := List.prefix_iff_eq_take.1 (List.takeWhile_prefix (fun k : Nd => !kLt key k.least) (l := kids.tail));rw [hi] at this;exact this
   rw [h1];refine List.mem_iff_getElem.2 ⟨m, by rw [List.length_take, List.length_tail]; omega, ?_⟩;rw [List.getElem_take, List.getElem_tail]
  have hkey := zbu hmem;simp only [Bool.not_eq_true'] at hkey;obtain ⟨v, r, e⟩ := hle (m + 1) hl;exact znp (hord j (m + 1) (by omega) hl (by omega) p hpl (kids[m + 1].least, v) (by rw [e]; simp)) hkey
 .
  intro p hp;obtain ⟨l, hlm, hpl⟩ := List.mem_flatten.1 hp;obtain ⟨k, hkm, rfl⟩ := List.mem_map.1 hlm;obtain ⟨j, hj, rfl⟩ := List.mem_iff_getElem.1 hkm;rw [List.length_drop] at hj;rw [List.getElem_drop] at hpl;have hn : i + 1 < kids.length := by omega
  have hkey : kLt key kids[i + 1].least = true := by have := ze1 (p := fun k : Nd => !kLt key k.least) (l := kids.tail) (by rw [hi, List.length_tail]; omega);simp only [hi, List.getElem_tail, Bool.not_eq_false'] at this;exact this
  obtain ⟨v, r, e⟩ := hle (i + 1) hn
  by_cases hj0 : j = 0
  .
   subst hj0;have hpl' : p ∈ kids[i + 1].prs := hpl;rw [e] at hpl';rcases zmC.1 hpl' with rfl | hr
   . exact hkey
   . have hasc : Asc kids[i + 1].prs := ha.sub (List.sublist_flatten_of_mem (List.mem_map.2 ⟨_, List.getElem_mem hn, rfl⟩));rw [e] at hasc;exact zaX hkey ((List.pairwise_cons.1 hasc).1 p hr)
  . exact zaX hkey (hord (i + 1) (i + 1 + j) hn (by omega) (by omega) (kids[i + 1].least, v) (by rw [e]; simp) p hpl)
end Go.Proofs.YtlefmmhlpgmbjaaGreat
