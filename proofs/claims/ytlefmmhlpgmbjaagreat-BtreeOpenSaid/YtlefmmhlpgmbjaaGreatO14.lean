/- Nodes of the reference in chosen blocks; quiltref42.has, leaf. quiltref42.leaf. The child to which a key leads; a key among pairs: (*node).child, find, slices.BinarySearchFunc. -/
import Derived.Test.YtlefmmhlpgmbjaaGreatO08
import Derived.Test.YtlefmmhlpgmbjaaGreatO05
import Derived.Test.YtlefmmhlpgmbjaaGreatO12
import Derived.Laws.Cover1
import Derived.Test.YtlefmmhlpgmbjaaGreatO01
namespace Go.Proofs.YtlefmmhlpgmbjaaGreat
set_option maxRecDepth 100000
open Go.RowKit
inductive NdS (S : Nat -> Prop) (w : World) : List Value -> Nd -> Prop
 | mk (ps : List Kv) (kids : List Nd) (page : Int) (po : Option Addr) (pc : Nat) (ko : Option Addr) (kc : Nat) (KC : List (List Value))
  (h1 : SlW po ps.length pc) (h2 : RowAt S w po (kvsC ps)) (h3 : SlW ko kids.length kc) (h4 : KC.length = kids.length) (h5 : RowAt S w ko KC.flatten)
  (h6 : ∀ (i : Nat) (h : i < kids.length) (h' : i < KC.length), NdS S w KC[i] kids[i]) : NdS S w [.slice po ps.length pc, .slice ko kids.length kc, .int .i64 page] (.mk ps kids page)
theorem NdS.cells {S : Nat -> Prop} {w : World} {cs : List Value} {n : Nd} (h : NdS S w cs n) : ∃ po pc ko kc, cs = ndC po pc ko kc n := by
 cases h with | mk ps kids page po pc ko kc KC h1 h2 h3 h4 h5 h6 => exact ⟨po, pc, ko, kc, rfl⟩
theorem RowAt.same' {S : Nat -> Prop} {w w' : World} {o : Option Addr} {xs : List Value} (h : RowAt S w o xs) (hs : ∀ b, S b -> w'.heap[b]? = w.heap[b]?) : RowAt S w' o xs := by
 intro j hj;obtain ⟨g, off, e, hc, hg⟩ := h j hj;exact ⟨g, off, e, by rw [<- hc]; simp [World.cell?, hs g hg], hg⟩
theorem NdS.same {S T : Nat -> Prop} {w w' : World} (hs : ∀ b, S b -> w'.heap[b]? = w.heap[b]?) (hT : ∀ b, S b -> T b) : ∀ {n : Nd} {cs : List Value}, NdS S w cs n -> NdS T w' cs n := by
 intro n
 induction n using Nd.ind with
 | h ps kids page ih =>
  intro cs h;cases h with | mk ps kids page po pc ko kc KC h1 h2 h3 h4 h5 h6 =>
   exact .mk _ _ _ _ _ _ _ KC h1 ((h2.same' hs).mono hT) h3 h4 ((h5.same' hs).mono hT) fun i hi hi' => ih _ (List.getElem_mem hi) (h6 i hi hi')
theorem NdS.c {S : Nat -> Prop} {w : World} (hT : ∀ b, S b -> b < w.heap.size) : ∀ {n : Nd} {cs : List Value}, NdS S w cs n -> NdC w cs n := by
 intro n
 induction n using Nd.ind with
 | h ps kids page ih =>
  intro cs h;cases h with | mk ps kids page po pc ko kc KC h1 h2 h3 h4 h5 h6 =>
   exact .mk _ _ _ _ _ _ _ KC h1 (h2.mono hT) h3 h4 (h5.mono hT) fun i hi hi' => ih _ (List.getElem_mem hi) (h6 i hi hi')
theorem NdS.leaf {S : Nat -> Prop} {w : World} {po : Option Addr} {pc : Nat} {ps : List Kv} {page : Int} (h1 : SlW po ps.length pc) (h2 : RowAt S w po (kvsC ps)) : NdS S w [.slice po ps.length pc, .slice none 0 0, .int .i64 page] (.mk ps [] page) :=
 .mk ps [] page po pc none 0 [] h1 h2 (.inl ⟨rfl, rfl, rfl⟩) rfl (RowAt.nil _ _ _) (fun i hi => by simp at hi)
theorem NdS.page {S : Nat -> Prop} {w : World} {po ko : Option Addr} {pc kc : Nat} {ps : List Kv} {kids : List Nd} {page : Int} (h : NdS S w (ndC po pc ko kc (.mk ps kids page)) (.mk ps kids page)) (p : Int) : NdS S w (ndC po pc ko kc (.mk ps kids p)) (.mk ps kids p) := by
 generalize hcs : ndC po pc ko kc (.mk ps kids page) = cs at h;cases h with | mk _ _ _ po' pc' ko' kc' KC h1 h2 h3 h4 h5 h6 =>
  obtain ⟨rfl, rfl, rfl, rfl⟩ : po = po' /\ pc = pc' /\ ko = ko' /\ kc = kc' := by simp only [ndC, Nd.ps, Nd.kids, Nd.page, List.cons.injEq, Value.slice.injEq, and_true, true_and] at hcs;exact ⟨hcs.1.1, hcs.1.2, hcs.2.1, hcs.2.2⟩
  exact .mk _ _ _ _ _ _ _ KC h1 h2 h3 h4 h5 h6
theorem zmj (o : Option Addr) (c : Nat) (l : List Int) (x : Int) (w : World) {S : Nat -> Prop} (hs : SlW o l.length c) (hl : l.length <= 1000000) (hr : zau S w o l) :
  Calls Tryz.prog 94 #[.slice o l.length c, .int .i64 x] w fun e w' => e = .returned (.bool (decide (x ∈ l))) /\ w' = w := by
 obtain ⟨n, hn⟩ : ∃ n, l.length = n := ⟨_, rfl⟩;have hcap : n <= c := by rcases hs with ⟨_, h, _⟩ | ⟨_, _, h, _⟩ <;> omega
 rw [hn] at hl |-;have Hn := zhI hn;clear hn hs;go_enter Tryz.func94, Tryz.ntmps94;go_wp2
 go_loopw [5] (fun t wr => ∃ k : Nat, k <= n /\ t = .int .i64 k /\ Hid (x ∉ l.take k) /\ wr = w) (fun t _ => n - (intOf t).toNat)
 case atStart => exact ⟨0, by omega, rfl, zhI (by simp), rfl⟩
 case round =>
  obtain ⟨k, hk, rfl, H, rfl⟩ := hrel
  by_cases hlt : k < n
  .
   have hlk : k < l.length := by rw [Hn.out]; exact hlt
   obtain ⟨g, off, rfl, hc, -⟩ := hr k hlk;obtain ⟨y, hy⟩ : ∃ y, l[k] = y := ⟨_, rfl⟩;have hym : y ∈ l := by rw [<- hy]; exact List.getElem_mem hlk
   have htk : l.take (k + 1) = l.take k ++ [y] := by rw [List.take_succ_eq_append_getElem hlk, hy]
   rw [hy] at hc;have Hm := zhI (zaI hym htk);clear hym htk hy
   by_cases hxy : y = x
   . subst hxy;go_wp2;go_ret;exact ⟨by rw [decide_eq_true Hm.out.1]; rfl, rfl⟩
   .
    have H2 : Hid (x ∉ l.take (k + 1)) := zhI (by rw [Hm.out.2, zmA]; rintro (h | h); exact H.out h; exact hxy (zmS.1 h).symm);go_wp2;go_roundw
    case rel => exact ⟨k + 1, by omega, by go_num, H2, trivial⟩
    case measure => simp [intOf]; omega
  .
   obtain rfl : k = n := by omega
   have hx : x ∉ l := by have := H.out; rw [List.take_of_length_le (by rw [Hn.out]; exact Nat.le_refl _)] at this; exact this
   go_wp2;go_ret;exact ⟨by rw [decide_eq_false hx]; rfl, rfl⟩
def leafX (L : List UInt8) : Option (List Kv) :=
 if (L.getD 1 0).toNat < 1 \/ 3 < (L.getD 1 0).toNat then none
 else match leafP (L.getD 1 0).toNat (L.drop 2) with
  | none => none
  | some ps => if padZ (encLf ps) = L then some ps else none
def zkE (o : Option (List Kv)) (w : World) (e : Ending) (w' : World) : Prop :=
 Below w.heap.size w w' /\ ∃ po pn pc, e = .returned (.tuple #[.agg #[.slice po pn pc, .slice none 0 0, .int .i64 0], .bool o.isSome]) /\ ∀ ps, o = some ps -> NdS (fun b => w.heap.size <= b /\ b < w'.heap.size) w' [.slice po pn pc, .slice none 0 0, .int .i64 0] (.mk ps [] 0)
theorem zfm {L k r : List UInt8} {i : Nat} (h : textP (L.drop i) = some (k, r)) : r = L.drop (i + 1 + k.length) /\ i + 1 + k.length <= L.length /\ k.length <= 255 := by
 cases hd : L.drop i with
 | nil => rw [hd] at h; cases h
 | cons c t =>
  rw [hd] at h;have hl := congrArg List.length hd;rw [List.length_drop, zlC] at hl;simp only [textP] at h;split at h
  . cases h
  .
   rename_i hn
   simp only [Option.some.injEq, Prod.mk.injEq] at h;obtain ⟨rfl, rfl⟩ := h;have hk : (t.take c.toNat).length = c.toNat := by rw [List.length_take]; omega
   have ht : t = L.drop (i + 1) := by have := congrArg List.tail hd;rw [List.tail_drop] at this;exact this.symm
   rw [hk];refine ⟨?_, by omega, by have := c.toNat_lt; omega⟩;rw [ht, List.drop_drop]
theorem ziE (l : List UInt8) : (bs l).toList = l := by rw [ByteArray.toList_eq]
set_option maxHeartbeats 8000000 in
theorem zmy (L : List UInt8) (w : World) (hl : L.length = 512) :
  Calls Tryz.prog 95 #[.string (bs L)] w (zkE (leafX L) w) := by
 obtain ⟨ip, hip, hz0, hz1, hz2⟩ := info_parts zbv;have Hi := zhI (zaI hip (zaI hz0 (zaI hz1 hz2)));clear hip hz0 hz1 hz2;obtain ⟨R, hR⟩ : ∃ R, zkE (leafX L) w = R := ⟨_, rfl⟩;rw [hR];have HR := zhI hR;obtain ⟨s, hs⟩ : ∃ s, bs L = s := ⟨_, rfl⟩;have hz : s.size = 512 := by rw [<- hs, zaj]; exact hl
 obtain ⟨cb, hcb⟩ : ∃ c, L.getD 1 0 = c := ⟨_, rfl⟩;have h1 : (h : 1 < s.size) -> s[1] = cb := by subst hs; intro h; rw [zev _ _ (by omega), <- hcb, List.getD_eq_getElem?_getD, List.getElem?_eq_getElem (by omega)]; rfl
 obtain ⟨cnt, hcnt⟩ : ∃ n, cb.toNat = n := ⟨_, rfl⟩;have hc1 : (s[1]'(by omega)).toNat = cnt := by rw [h1 (by omega)]; exact hcnt
 have hcb2 : (L.getD 1 0).toNat = cnt := by rw [hcb]; exact hcnt
 have htx : ∀ (i : Nat) (W : World), i <= 1000000 -> Calls Tryz.prog 133 #[.string s, .int .i64 i] W fun e w' => e = .returned (txtAt L i) /\ w' = W := fun i W hi => hs ▸ zm0 L i W (by omega) hi;have Htx := zhI htx;have Hs := zhI hs;have Hc := zhI hcb2;have Hl := zhI hl;rw [hs];obtain ⟨N, hN⟩ : ∃ N, w.heap.size = N := ⟨_, rfl⟩;clear hR hs h1 hcnt hcb hcb2 htx hl;go_enter Tryz.func95, Tryz.ntmps95;go_upto_region 2 with fail
 obtain ⟨W0, hW0⟩ : ∃ W0, (w.alloc (.cells #[.slice none 0 0, .slice none 0 0, .int .i64 0] 95)).alloc (.cells #[.slice none 0 0, .slice none 0 0, .int .i64 0] 95) = W0 := ⟨_, rfl⟩;rw [hW0];have hB0 : Below w.heap.size w W0 := by subst hW0; exact (Below.one w _).alloc (by simp) _
 have xR : Bx W0 N #[.slice none 0 0, .slice none 0 0, .int .i64 0] 95 := by subst hW0 hN; exact (Bx.new w _ _).alloc _
 have xn : Bx W0 (N + 1) #[.slice none 0 0, .slice none 0 0, .int .i64 0] 95 := by subst hW0 hN; exact Bx.newAt _ _ _ _ (by simp)
 clear hW0;have cR := xR.cell;have lR := xR.lt;have fR := xR.free;have cX := xn.cell;have lX := xn.lt
 by_cases hc0 : cnt < 1
 .
  have HP : Hid (leafX L = none) := zhI (by (unfold leafX; rw [Hc.out, if_pos (.inl hc0)]));obtain ⟨Wf, hWf⟩ : ∃ Wf, ((W0.setCell ⟨N, 0, none⟩ (.slice none 0 0)).setCell ⟨N, 1, none⟩ (.slice none 0 0)).setCell ⟨N, 2, none⟩ (.int .i64 0) = Wf := ⟨_, rfl⟩;have zR : Bx Wf N #[.slice none 0 0, .slice none 0 0, .int .i64 0] 95 := by rw [<- hWf];have := ((xR.set 0 (.slice none 0 0)).set 1 (.slice none 0 0)).set 2 (.int .i64 0);simpa using this
  have zB : Below w.heap.size w Wf := by rw [<- hWf]; exact zaa (zaa (zaa hB0 (by omega)) (by omega)) (by omega)
  have HZ := zhI (zaI zR zB);have HWf := zhI hWf;clear zR zB hWf;go_wp2;rw [HWf.out];have cZ := HZ.out.1.cell;refine bodyPost_ret (v := .tuple #[.agg #[.slice none 0 0, .slice none 0 0, .int .i64 0], .bool false]) (by simp [results, Tryz.results95, go_sem, cZ]) rfl ?_;rw [<- HR.out, HP.out];exact ⟨HZ.out.2, _, _, _, rfl, fun ps h => by cases h⟩
 by_cases hc4 : 3 < cnt
 .
  have HP : Hid (leafX L = none) := zhI (by (unfold leafX; rw [Hc.out, if_pos (.inr hc4)]));obtain ⟨Wf, hWf⟩ : ∃ Wf, ((W0.setCell ⟨N, 0, none⟩ (.slice none 0 0)).setCell ⟨N, 1, none⟩ (.slice none 0 0)).setCell ⟨N, 2, none⟩ (.int .i64 0) = Wf := ⟨_, rfl⟩;have zR : Bx Wf N #[.slice none 0 0, .slice none 0 0, .int .i64 0] 95 := by rw [<- hWf];have := ((xR.set 0 (.slice none 0 0)).set 1 (.slice none 0 0)).set 2 (.int .i64 0);simpa using this
  have zB : Below w.heap.size w Wf := by rw [<- hWf]; exact zaa (zaa (zaa hB0 (by omega)) (by omega)) (by omega)
  have HZ := zhI (zaI zR zB);have HWf := zhI hWf;clear zR zB hWf;go_wp2;rw [HWf.out];have cZ := HZ.out.1.cell;refine bodyPost_ret (v := .tuple #[.agg #[.slice none 0 0, .slice none 0 0, .int .i64 0], .bool false]) (by simp [results, Tryz.results95, go_sem, cZ]) rfl ?_;rw [<- HR.out, HP.out];exact ⟨HZ.out.2, _, _, _, rfl, fun ps h => by cases h⟩
 have hcn : cnt <= 3 := by omega
 go_upto_region 6 with fail
 clear cR lR fR cX lX
 go_loopw [5, 6] (fun at_ i wr => ∃ (k p : Nat) (ps : List Kv) (o : Option Addr) (c : Nat), k <= cnt /\ i = .int .i64 k /\ at_ = .int .i64 p /\ p <= 512 /\ Hid (leafP cnt (L.drop 2) = (leafP (cnt - k) (L.drop p)).map (ps ++ ·) /\ ps.length = k) /\
  Bx wr N #[.slice none 0 0, .slice none 0 0, .int .i64 0] 95 /\ Bx wr (N + 1) #[.slice o k c, .slice none 0 0, .int .i64 0] 95 /\ wr.ownsRow w.heap.size 77 2 (.slice o k c) k (kvsC ps) /\ Below w.heap.size w wr) (fun _ i _ => cnt - (intOf i).toNat)
 case atStart => refine ⟨0, 2, [], none, 0, by omega, rfl, rfl, by omega, zhI ⟨by simp, rfl⟩, xR, xn, World.ownsRow_nil _ _ _ _, hB0⟩
 case round =>
  clear xR xn hB0;obtain ⟨k, p, ps, o, c, hk, rfl, rfl, hp, H, xR, xn, hown, hB0⟩ := hrel;have hz0 := hB0.size
  by_cases hlt : k < cnt
  .
   obtain ⟨Z, hZ⟩ : ∃ z, wr.heap.size = z := ⟨_, rfl⟩;have HZ0 := zhI hZ;have hB1 := Below.one wr (.cells #[.string ByteArray.empty, .string ByteArray.empty] 77);have HX := zhI (zaI xR (zaI xn (zaI hown hB0)));have hNZ : N + 1 < Z := by have := xn.lt; omega
   have hNZ2 : N < Z := by omega
   have hr1 := Htx.out p;clear hZ hB1 xR xn hown hB0;cases h1 : textP (L.drop p) with
   | none =>
    have ht1 : txtAt L p = .tuple #[.string (bs []), .int .i64 (-1)] := by unfold txtAt; rw [h1]
    rw [ht1] at hr1;have hneg := fun W => zib s W (-1) (by omega);go_wp2_with fail;refine (hr1 _ (by omega)).mono ?_;rintro e W1 ⟨rfl, rfl⟩;go_wp2_with fail;refine (hneg _).mono ?_;rintro e W2 ⟨rfl, rfl⟩;go_upto_region 12 with fail
    have hbw := Below.one wr (.cells #[.string (bs []), .string (bs [])] 77);obtain ⟨W5, hW5⟩ : ∃ W5, wr.alloc (.cells #[.string (bs []), .string (bs [])] 77) = W5 := ⟨_, rfl⟩;rw [hW5] at hbw |-;have xR := HX.out.1.belowAll hbw;have xn := HX.out.2.1.belowAll hbw;have hB0 := Below.then HX.out.2.2.2 hbw hz0;clear hW5 hbw;have cR := xR.cell;have lR := xR.lt;have fR := xR.free;have cX := xn.cell;have lX := xn.lt;have HP : Hid (leafX L = none) := zhI (by (unfold leafX; rw [Hc.out, if_neg (by omega), H.out.1, zbc (by omega) (by unfold pairP; rw [h1])]; rfl));obtain ⟨Wf, hWf⟩ : ∃ Wf, ((W5.setCell ⟨N, 0, none⟩ (.slice o k c)).setCell ⟨N, 1, none⟩ (.slice none 0 0)).setCell ⟨N, 2, none⟩ (.int .i64 0) = Wf := ⟨_, rfl⟩;have zR : Bx Wf N #[.slice o k c, .slice none 0 0, .int .i64 0] 95 := by rw [<- hWf];have := ((xR.set 0 (.slice o k c)).set 1 (.slice none 0 0)).set 2 (.int .i64 0);simpa using this
    have zB : Below w.heap.size w Wf := by rw [<- hWf]; exact zaa (zaa (zaa hB0 (by omega)) (by omega)) (by omega)
    have HZ := zhI (zaI zR zB);have HWf := zhI hWf;clear zR zB hWf;go_wp2;rw [HWf.out];have cZ := HZ.out.1.cell;refine bodyPost_ret (v := .tuple #[.agg #[.slice o k c, .slice none 0 0, .int .i64 0], .bool false]) (by simp [results, Tryz.results95, go_sem, cZ]) rfl ?_;rw [<- HR.out, HP.out];exact ⟨HZ.out.2, _, _, _, rfl, fun ps h => by cases h⟩
   | some q1 =>
    obtain ⟨ky, r⟩ := q1;obtain ⟨hr, hp1, hkl⟩ := zfm h1;have ht1 : txtAt L p = .tuple #[.string (bs ky), .int .i64 ((p + 1 + ky.length : Nat) : Int)] := by unfold txtAt; rw [h1]
    obtain ⟨p1, hp1e⟩ : ∃ x, p + 1 + ky.length = x := ⟨_, rfl⟩;obtain ⟨K, hK⟩ : ∃ K, bs ky = K := ⟨_, rfl⟩;have hKz : K.size = ky.length := by rw [<- hK, zaj]
    rw [hp1e] at hr hp1 ht1;rw [hK] at ht1;rw [ht1] at hr1;have hLl := Hl.out;have hp1c : p1 <= 512 := by omega
    have hr2 := Htx.out p1;cases h2 : textP (L.drop p1) with
    | none =>
     have ht2 : txtAt L p1 = .tuple #[.string (bs []), .int .i64 (-1)] := by unfold txtAt; rw [h2]
     rw [ht2] at hr2;go_wp2_with fail;refine (hr1 _ (by omega)).mono ?_;rintro e W1 ⟨rfl, rfl⟩;go_wp2_with fail;refine (hr2 _ (by omega)).mono ?_;rintro e W2 ⟨rfl, rfl⟩;go_upto_region 12 with fail
     have hbw := Below.one wr (.cells #[.string (K), .string (bs [])] 77);obtain ⟨W5, hW5⟩ : ∃ W5, wr.alloc (.cells #[.string (K), .string (bs [])] 77) = W5 := ⟨_, rfl⟩;rw [hW5] at hbw |-;have xR := HX.out.1.belowAll hbw;have xn := HX.out.2.1.belowAll hbw;have hB0 := Below.then HX.out.2.2.2 hbw hz0;clear hW5 hbw;have cR := xR.cell;have lR := xR.lt;have fR := xR.free;have cX := xn.cell;have lX := xn.lt;have HP : Hid (leafX L = none) := zhI (by (unfold leafX; rw [Hc.out, if_neg (by omega), H.out.1, zbc (by omega) (by unfold pairP; rw [h1]; simp only; rw [hr, h2])]; rfl));obtain ⟨Wf, hWf⟩ : ∃ Wf, ((W5.setCell ⟨N, 0, none⟩ (.slice o k c)).setCell ⟨N, 1, none⟩ (.slice none 0 0)).setCell ⟨N, 2, none⟩ (.int .i64 0) = Wf := ⟨_, rfl⟩;have zR : Bx Wf N #[.slice o k c, .slice none 0 0, .int .i64 0] 95 := by rw [<- hWf];have := ((xR.set 0 (.slice o k c)).set 1 (.slice none 0 0)).set 2 (.int .i64 0);simpa using this
     have zB : Below w.heap.size w Wf := by rw [<- hWf]; exact zaa (zaa (zaa hB0 (by omega)) (by omega)) (by omega)
     have HZ := zhI (zaI zR zB);have HWf := zhI hWf;clear zR zB hWf;go_wp2;rw [HWf.out];have cZ := HZ.out.1.cell;refine bodyPost_ret (v := .tuple #[.agg #[.slice o k c, .slice none 0 0, .int .i64 0], .bool false]) (by simp [results, Tryz.results95, go_sem, cZ]) rfl ?_;rw [<- HR.out, HP.out];exact ⟨HZ.out.2, _, _, _, rfl, fun ps h => by cases h⟩
    | some q2 =>
     obtain ⟨vl, r2⟩ := q2;obtain ⟨hra, hp2, hvl⟩ := zfm h2;have ht2 : txtAt L p1 = .tuple #[.string (bs vl), .int .i64 ((p1 + 1 + vl.length : Nat) : Int)] := by unfold txtAt; rw [h2]
     obtain ⟨p2, hp2e⟩ : ∃ x, p1 + 1 + vl.length = x := ⟨_, rfl⟩;obtain ⟨V, hV⟩ : ∃ K, bs vl = K := ⟨_, rfl⟩;have hVz : V.size = vl.length := by rw [<- hV, zaj]
     rw [hp2e] at hra hp2 ht2;rw [hV] at ht2;rw [ht2] at hr2;have hp2c : p2 <= 512 := by omega
     have hp2n : ¬ (p2 : Int) < 0 := by omega
     by_cases g1 : 48 < K.size
     .
      have HW : Hid (pairP (L.drop p) = none) := zhI (by unfold pairP; rw [h1]; simp only; rw [hr, h2]; simp only; rw [if_pos (.inl (by omega))]);clear h1 h2 hr hra hK hV hp1e hp2e hKz hVz hkl hvl hLl hp1 hp2;go_wp2_with fail;refine (hr1 _ (by omega)).mono ?_;rintro e W1 ⟨rfl, rfl⟩;go_wp2_with fail;refine (hr2 _ (by omega)).mono ?_;rintro e W2 ⟨rfl, rfl⟩;go_upto_region 12 with fail
      have hbw := Below.one wr (.cells #[.string (K), .string (V)] 77);obtain ⟨W5, hW5⟩ : ∃ W5, wr.alloc (.cells #[.string (K), .string (V)] 77) = W5 := ⟨_, rfl⟩;rw [hW5] at hbw |-;have xR := HX.out.1.belowAll hbw;have xn := HX.out.2.1.belowAll hbw;have hB0 := Below.then HX.out.2.2.2 hbw hz0;clear hW5 hbw;have cR := xR.cell;have lR := xR.lt;have fR := xR.free;have cX := xn.cell;have lX := xn.lt;have HP : Hid (leafX L = none) := zhI (by (unfold leafX; rw [Hc.out, if_neg (by omega), H.out.1, zbc (by omega) HW.out]; rfl));obtain ⟨Wf, hWf⟩ : ∃ Wf, ((W5.setCell ⟨N, 0, none⟩ (.slice o k c)).setCell ⟨N, 1, none⟩ (.slice none 0 0)).setCell ⟨N, 2, none⟩ (.int .i64 0) = Wf := ⟨_, rfl⟩;have zR : Bx Wf N #[.slice o k c, .slice none 0 0, .int .i64 0] 95 := by rw [<- hWf];have := ((xR.set 0 (.slice o k c)).set 1 (.slice none 0 0)).set 2 (.int .i64 0);simpa using this
      have zB : Below w.heap.size w Wf := by rw [<- hWf]; exact zaa (zaa (zaa hB0 (by omega)) (by omega)) (by omega)
      have HZ := zhI (zaI zR zB);have HWf := zhI hWf;clear zR zB hWf;go_wp2;rw [HWf.out];have cZ := HZ.out.1.cell;refine bodyPost_ret (v := .tuple #[.agg #[.slice o k c, .slice none 0 0, .int .i64 0], .bool false]) (by simp [results, Tryz.results95, go_sem, cZ]) rfl ?_;rw [<- HR.out, HP.out];exact ⟨HZ.out.2, _, _, _, rfl, fun ps h => by cases h⟩
     by_cases g2 : 80 < V.size
     .
      have HW : Hid (pairP (L.drop p) = none) := zhI (by unfold pairP; rw [h1]; simp only; rw [hr, h2]; simp only; rw [if_pos (.inr (by omega))]);clear h1 h2 hr hra hK hV hp1e hp2e hKz hVz hkl hvl hLl hp1 hp2;go_wp2_with fail;refine (hr1 _ (by omega)).mono ?_;rintro e W1 ⟨rfl, rfl⟩;go_wp2_with fail;refine (hr2 _ (by omega)).mono ?_;rintro e W2 ⟨rfl, rfl⟩;go_upto_region 12 with fail
      have hbw := Below.one wr (.cells #[.string (K), .string (V)] 77);obtain ⟨W5, hW5⟩ : ∃ W5, wr.alloc (.cells #[.string (K), .string (V)] 77) = W5 := ⟨_, rfl⟩;rw [hW5] at hbw |-;have xR := HX.out.1.belowAll hbw;have xn := HX.out.2.1.belowAll hbw;have hB0 := Below.then HX.out.2.2.2 hbw hz0;clear hW5 hbw;have cR := xR.cell;have lR := xR.lt;have fR := xR.free;have cX := xn.cell;have lX := xn.lt;have HP : Hid (leafX L = none) := zhI (by (unfold leafX; rw [Hc.out, if_neg (by omega), H.out.1, zbc (by omega) HW.out]; rfl));obtain ⟨Wf, hWf⟩ : ∃ Wf, ((W5.setCell ⟨N, 0, none⟩ (.slice o k c)).setCell ⟨N, 1, none⟩ (.slice none 0 0)).setCell ⟨N, 2, none⟩ (.int .i64 0) = Wf := ⟨_, rfl⟩;have zR : Bx Wf N #[.slice o k c, .slice none 0 0, .int .i64 0] 95 := by rw [<- hWf];have := ((xR.set 0 (.slice o k c)).set 1 (.slice none 0 0)).set 2 (.int .i64 0);simpa using this
      have zB : Below w.heap.size w Wf := by rw [<- hWf]; exact zaa (zaa (zaa hB0 (by omega)) (by omega)) (by omega)
      have HZ := zhI (zaI zR zB);have HWf := zhI hWf;clear zR zB hWf;go_wp2;rw [HWf.out];have cZ := HZ.out.1.cell;refine bodyPost_ret (v := .tuple #[.agg #[.slice o k c, .slice none 0 0, .int .i64 0], .bool false]) (by simp [results, Tryz.results95, go_sem, cZ]) rfl ?_;rw [<- HR.out, HP.out];exact ⟨HZ.out.2, _, _, _, rfl, fun ps h => by cases h⟩
     have hpp : pairP (L.drop p) = some ((K, V), L.drop p2) := by unfold pairP; rw [h1]; simp only; rw [hr, h2]; simp only; rw [if_neg (by omega), hK, hV, hra]
     have HP : Hid (leafP cnt (L.drop 2) = (leafP (cnt - (k + 1)) (L.drop p2)).map ((ps ++ [(K, V)]) ++ ·) /\ (ps ++ [(K, V)]).length = k + 1) := zhI ⟨by
      rw [H.out.1, zfo (by omega) hpp, show cnt - k - 1 = cnt - (k + 1) by omega, Option.map_map];congr 1;funext y
      simp, by rw [zlA, H.out.2]; rfl⟩
     clear h1 h2 hr hra hK hV hp1e hp2e hKz hVz hkl hvl hLl hp1 hp2 hpp;go_wp2_with fail;refine (hr1 _ (by omega)).mono ?_;rintro e W1 ⟨rfl, rfl⟩;go_wp2_with fail;refine (hr2 _ (by omega)).mono ?_;rintro e W2 ⟨rfl, rfl⟩;go_upto_region 13 with fail
     have hbw := Below.one wr (.cells #[.string K, .string V] 77);have xx := Bx.new wr #[.string K, .string V] 77;obtain ⟨W5, hW5⟩ : ∃ W5, wr.alloc (.cells #[.string K, .string V] 77) = W5 := ⟨_, rfl⟩;rw [hW5] at hbw xx |-;rw [HZ0.out] at xx |-;have xR5 := HX.out.1.belowAll hbw;have xn5 := HX.out.2.1.belowAll hbw;have hown5 := zae HX.out.2.2.1 hbw;have hB5 := Below.then HX.out.2.2.2 hbw hz0;clear hW5 hbw hr1 hr2 HX;have hz5 := hB5.size;have cX := xn5.cell;have lX := xn5.lt;have fX := xn5.free;have cx := xx.cell;have lx := xx.lt;have H1c : Hid (∀ u ∈ [Value.string K, Value.string V], u.oneCell' = true) := zhI (by intro u hu; simp at hu; rcases hu with rfl | rfl <;> rfl)
     have HRW : Hid (RowAt (· = W5.heap.size) (W5.alloc (.cells #[.string K, .string V] 77)) (some ⟨W5.heap.size, 0, none⟩) [.string K, .string V]) := zhI (RowAt.bx (Bx.new W5 #[.string K, .string V] 77));have hown5a := hown5.alloc (.cells #[.string K, .string V] 77);have xn5a := xn5.alloc (.cells #[.string K, .string V] 77);have xR5a := xR5.alloc (.cells #[.string K, .string V] 77);have hB5a := hB5.alloc hz5 (.cells #[.string K, .string V] 77);go_wp2_with (at_builtin; refine zaw rfl _ _ 41 rfl w.heap.size 77 ip _ 2 32 Tryz.underlying41 Hi.out.1 Hi.out.2.1 Hi.out.2.2.1 Hi.out.2.2.2 rfl (by decide) (.slice o k c) k (kvsC ps) rfl hown5a (some ⟨W5.heap.size, 0, none⟩) 1 1 [.string K, .string V] rfl (by intro e; cases e) rfl HRW.out H1c.out (by unfold maxLen; omega) (by omega) (by simp; omega) ?_; intro v3 w3 hown3 hg3; obtain ⟨o3, c3, rfl⟩ := za5 hown3; have xn3 := xn5a.grown hg3 (fun e => zab hown5a xn5a (by decide) e.symm); have xR3 := xR5a.grown hg3 (fun e => zab hown5a xR5a (by decide) e.symm); have cX3 := xn3.cell; have fX3 := xn3.free; have lX3 := xn3.lt);go_roundw
     case rel =>
      refine ⟨k + 1, p2, ps ++ [(K, V)], o3, c3, by omega, by go_num, rfl, hp2c, HP, ?_, ?_, ?_, ?_⟩
      . exact xR3.setO (a := ⟨N + 1, 0, none⟩) (by simp) _
      . have := xn3.set 0 (.slice o3 (k + 1) c3);simpa using this
      .
       have e : kvsC (ps ++ [(K, V)]) = kvsC ps ++ [.string K, .string V] := by rw [zcm]; rfl
       rw [e];exact zac hown3 (a := ⟨N + 1, 0, none⟩) (zab hown3 xn3 (by decide)) _
      . exact zaa (Below.grownOwn hB5a hown5a hg3 (by simp; omega)) (by omega)
     case measure => simp [intOf]; omega
  .
   obtain rfl : k = cnt := by omega
   have hP : leafP k (L.drop 2) = some ps := by rw [H.out.1, Nat.sub_self, leafP];simp
   obtain ⟨hlp, hko⟩ := zbp hP;have HPP := zhI (zaI hP hko);have HX := zhI (zaI xR (zaI xn (zaI hown hB0)));have HPl : Hid (ps.length = k) := zhI hlp;have hnd : NdS (fun b => w.heap.size <= b /\ b < wr.heap.size) wr (ndC o c none 0 (.mk ps [] 0)) (.mk ps [] 0) := by
    obtain ⟨o', c', e, hs, hrow, -⟩ := zag hown;obtain ⟨rfl, rfl⟩ : o = o' /\ c = c' := by simpa using e
    exact NdS.leaf (by show SlW o ps.length c; rw [hlp]; exact hs) hrow
   have hbyt := fun W (hb : Below wr.heap.size wr W) => ziQ (.mk ps [] 0) o none c 0 W ((hnd.same (T := fun b => w.heap.size <= b /\ b < wr.heap.size) (fun b hb' => hb.block b hb'.2) (fun b hb' => hb')).c fun b hb' => by have := hb.size; omega) (.inl ⟨rfl, by show ps.length <= 3; omega, hko⟩);obtain ⟨sB, hsB⟩ : ∃ y, bs (encD (.mk ps [] 0)) = y := ⟨_, rfl⟩;rw [hsB] at hbyt;simp only [ndC, Nd.ps, Nd.kids, Nd.page, hlp, List.length_nil] at hbyt;have Hbyt := zhI hbyt;have HsB := zhI hsB;have cR := xR.cell;have lR := xR.lt;have fR := xR.free;have cX := xn.cell;have lX := xn.lt;clear hbyt hnd hsB hP hlp hko xR xn hown hB0;obtain ⟨eq1, heq1⟩ : ∃ y, (sB.toList == s.toList) = y := ⟨_, rfl⟩;have Hlx : Hid (leafX L = if eq1 = true then some ps else none) := zhI (by
    have e : eq1 = decide (padZ (encLf ps) = L) := by
     rw [<- heq1, <- HsB.out, <- Hs.out, ziE, ziE];show (padZ (encLf ps) == L) = _
     by_cases h : padZ (encLf ps) = L
     . rw [decide_eq_true h]; exact beq_iff_eq.2 h
     . rw [decide_eq_false h]; exact beq_eq_false_iff_ne.2 h
    rw [e];unfold leafX;rw [Hc.out, if_neg (by omega), HPP.out.1]
    simp)
   have Heq := zhI heq1;go_upto_region 14 with fail
   refine zah #[false, false, false, false, false, false, false] 7 (by kernel_rfl) (by rfl) rfl ?_;refine wpAny_take (i := 3) (v := (.string s)) rfl (by kernel_rfl) (by kernel_rfl) (by kernel_rfl) (fun _ _ _ h => h) (Or.inl ⟨by rfl, fun w => by first | rfl | (go_simp; try with_reducible rfl)⟩) ?_;simp only [zgP, Act.put, zsP];refine wpAny_ready (rs := [0, 1]) (by kernel_rfl) (by simp) ?_;refine AllReady.cons rfl (fun K hK => ?_) (AllReady.cons rfl (fun K hK => ?_) AllReady.nil)
   .
    go_simp;refine hK _ _ ?_;clear hK K;simp only [List.setIfInBounds_toArray, List.set_cons_zero];refine wpAny_ready (rs := [1]) (by kernel_rfl) (by simp) ?_;refine AllReady.cons rfl (fun K hK => ?_) AllReady.nil;go_simp;refine hK _ _ ?_;clear hK K;simp only [zsP];refine wpAny_ready (rs := [2]) (by kernel_rfl) (by simp) ?_;refine AllReady.cons rfl (fun K hK => ?_) AllReady.nil;go_simp;have hdr : Below wr.heap.size wr wr.drew := ⟨rfl, rfl, rfl, Nat.le_refl _, fun _ _ => rfl⟩;refine (Hbyt.out _ hdr).mono ?_;rintro e W2 ⟨rfl, hb2'⟩;have hb2 : Below wr.heap.size wr W2 := hdr.trans hb2';clear hdr hb2';refine hK _ _ ?_;clear hK K;simp only [zsP];refine wpAny_take (i := 4) (v := ?_) rfl (by kernel_rfl) (by kernel_rfl) (by kernel_rfl) (fun _ _ _ h => h) (Or.inl ⟨by rfl, ?_⟩) ?_;rotate_left
    . intro w; go_simp; try with_reducible rfl
    simp only [Act.put, zsP]
    (try rw [heq1])
    clear heq1;have xR2 := HX.out.1.belowAll hb2;have xn2 := HX.out.2.1.belowAll hb2;have hown2 := zae HX.out.2.2.1 hb2;have hB2 := Below.then HX.out.2.2.2 hb2 hz0;have HY := zhI (zaI xR2 (zaI hown2 hB2));clear cR lR fR cX lX;have cX := xn2.cell;have lX := xn2.lt;have cR := xR2.cell;have lR := xR2.lt;have fR := xR2.free;clear hb2 xR2 xn2 hown2 hB2;refine wpAny_ready (rs := [5]) (by kernel_rfl) (by simp) ?_;refine AllReady.cons rfl (fun K hK => ?_) AllReady.nil;go_simp;refine hK _ _ ?_;clear hK K;refine wpAny_ready (rs := [6]) (by kernel_rfl) (by simp) ?_;refine AllReady.cons rfl (fun K hK => ?_) AllReady.nil;go_simp;refine hK _ _ ?_;clear hK K;refine wpAny_done (by kernel_rfl) ?_ _;obtain ⟨Wf, hWf⟩ : ∃ Wf, ((W2.setCell ⟨N, 0, none⟩ (.slice o k c)).setCell ⟨N, 1, none⟩ (.slice none 0 0)).setCell ⟨N, 2, none⟩ (.int .i64 0) = Wf := ⟨_, rfl⟩;have hne : (Value.slice o k c).ownBlock ≠ some N := zab HY.out.2.1 HY.out.1 (by decide);have zR : Bx Wf N #[.slice o k c, .slice none 0 0, .int .i64 0] 95 := by rw [<- hWf];have := ((HY.out.1.set 0 (.slice o k c)).set 1 (.slice none 0 0)).set 2 (.int .i64 0);simpa using this
    have zO : Wf.ownsRow w.heap.size 77 2 (.slice o k c) k (kvsC ps) := by rw [<- hWf];exact zac (a := ⟨N, 2, none⟩) (zac (a := ⟨N, 1, none⟩) (zac (a := ⟨N, 0, none⟩) HY.out.2.1 hne _) hne _) hne _
    have zB : Below w.heap.size w Wf := by rw [<- hWf]; exact zaa (zaa (zaa HY.out.2.2 (by omega)) (by omega)) (by omega)
    have HZ := zhI (zaI zR (zaI zO zB));clear cR lR fR cX lX hne zR zO zB;rw [hWf];have HWf := zhI hWf;clear hWf;go_wp2;have cZ := HZ.out.1.cell;refine bodyPost_ret (v := .tuple #[.agg #[.slice o k c, .slice none 0 0, .int .i64 0], .bool eq1]) (by simp [results, Tryz.results95, go_sem, cZ]) rfl ?_;rw [<- HR.out, Hlx.out];refine ⟨HZ.out.2.2, _, _, _, by cases eq1 <;> rfl, fun ps' h => ?_⟩
    cases eq1 with
    | false => cases h
    | true =>
     obtain rfl : ps = ps' := by simpa using h
     obtain ⟨o', c', e, hs, hrow, -⟩ := zag HZ.out.2.1;obtain ⟨rfl, rfl⟩ : o = o' /\ c = c' := by simpa using e
     have hn := NdS.leaf (page := 0) (by show SlW o ps.length c; rw [HPl.out]; exact hs) hrow;rw [HPl.out] at hn;exact hn
   .
    go_simp;refine hK _ _ ?_;clear hK K;simp only [zsP];refine wpAny_ready (rs := [0, 2]) (by kernel_rfl) (by simp) ?_;refine AllReady.cons rfl (fun K hK => ?_) (AllReady.cons rfl (fun K hK => ?_) AllReady.nil)
    .
     go_simp;refine hK _ _ ?_;clear hK K;simp only [List.setIfInBounds_toArray, List.set_cons_zero];refine wpAny_ready (rs := [2]) (by kernel_rfl) (by simp) ?_;refine AllReady.cons rfl (fun K hK => ?_) AllReady.nil;go_simp;have hdr : Below wr.heap.size wr wr.drew := ⟨rfl, rfl, rfl, Nat.le_refl _, fun _ _ => rfl⟩;refine (Hbyt.out _ hdr).mono ?_;rintro e W2 ⟨rfl, hb2'⟩;have hb2 : Below wr.heap.size wr W2 := hdr.trans hb2';clear hdr hb2';refine hK _ _ ?_;clear hK K;simp only [zsP];refine wpAny_take (i := 4) (v := ?_) rfl (by kernel_rfl) (by kernel_rfl) (by kernel_rfl) (fun _ _ _ h => h) (Or.inl ⟨by rfl, ?_⟩) ?_;rotate_left
     . intro w; go_simp; try with_reducible rfl
     simp only [Act.put, zsP]
     (try rw [heq1])
     clear heq1;have xR2 := HX.out.1.belowAll hb2;have xn2 := HX.out.2.1.belowAll hb2;have hown2 := zae HX.out.2.2.1 hb2;have hB2 := Below.then HX.out.2.2.2 hb2 hz0;have HY := zhI (zaI xR2 (zaI hown2 hB2));clear cR lR fR cX lX;have cX := xn2.cell;have lX := xn2.lt;have cR := xR2.cell;have lR := xR2.lt;have fR := xR2.free;clear hb2 xR2 xn2 hown2 hB2;refine wpAny_ready (rs := [5]) (by kernel_rfl) (by simp) ?_;refine AllReady.cons rfl (fun K hK => ?_) AllReady.nil;go_simp;refine hK _ _ ?_;clear hK K;refine wpAny_ready (rs := [6]) (by kernel_rfl) (by simp) ?_;refine AllReady.cons rfl (fun K hK => ?_) AllReady.nil;go_simp;refine hK _ _ ?_;clear hK K;refine wpAny_done (by kernel_rfl) ?_ _;obtain ⟨Wf, hWf⟩ : ∃ Wf, ((W2.setCell ⟨N, 0, none⟩ (.slice o k c)).setCell ⟨N, 1, none⟩ (.slice none 0 0)).setCell ⟨N, 2, none⟩ (.int .i64 0) = Wf := ⟨_, rfl⟩;have hne : (Value.slice o k c).ownBlock ≠ some N := zab HY.out.2.1 HY.out.1 (by decide);have zR : Bx Wf N #[.slice o k c, .slice none 0 0, .int .i64 0] 95 := by rw [<- hWf];have := ((HY.out.1.set 0 (.slice o k c)).set 1 (.slice none 0 0)).set 2 (.int .i64 0);simpa using this
     have zO : Wf.ownsRow w.heap.size 77 2 (.slice o k c) k (kvsC ps) := by rw [<- hWf];exact zac (a := ⟨N, 2, none⟩) (zac (a := ⟨N, 1, none⟩) (zac (a := ⟨N, 0, none⟩) HY.out.2.1 hne _) hne _) hne _
     have zB : Below w.heap.size w Wf := by rw [<- hWf]; exact zaa (zaa (zaa HY.out.2.2 (by omega)) (by omega)) (by omega)
     have HZ := zhI (zaI zR (zaI zO zB));clear cR lR fR cX lX hne zR zO zB;rw [hWf];have HWf := zhI hWf;clear hWf;go_wp2;have cZ := HZ.out.1.cell;refine bodyPost_ret (v := .tuple #[.agg #[.slice o k c, .slice none 0 0, .int .i64 0], .bool eq1]) (by simp [results, Tryz.results95, go_sem, cZ]) rfl ?_;rw [<- HR.out, Hlx.out];refine ⟨HZ.out.2.2, _, _, _, by cases eq1 <;> rfl, fun ps' h => ?_⟩
     cases eq1 with
     | false => cases h
     | true =>
      obtain rfl : ps = ps' := by simpa using h
      obtain ⟨o', c', e, hs, hrow, -⟩ := zag HZ.out.2.1;obtain ⟨rfl, rfl⟩ : o = o' /\ c = c' := by simpa using e
      have hn := NdS.leaf (page := 0) (by show SlW o ps.length c; rw [HPl.out]; exact hs) hrow;rw [HPl.out] at hn;exact hn
    .
     go_simp;have hdr : Below wr.heap.size wr wr.drew := ⟨rfl, rfl, rfl, Nat.le_refl _, fun _ _ => rfl⟩;refine (Hbyt.out _ hdr).mono ?_;rintro e W2 ⟨rfl, hb2'⟩;have hb2 : Below wr.heap.size wr W2 := hdr.trans hb2';clear hdr hb2';refine hK _ _ ?_;clear hK K;simp only [zsP];refine wpAny_take (i := 4) (v := ?_) rfl (by kernel_rfl) (by kernel_rfl) (by kernel_rfl) (fun _ _ _ h => h) (Or.inl ⟨by rfl, ?_⟩) ?_;rotate_left
     . intro w; go_simp; try with_reducible rfl
     simp only [Act.put, zsP]
     (try rw [heq1])
     clear heq1;have xR2 := HX.out.1.belowAll hb2;have xn2 := HX.out.2.1.belowAll hb2;have hown2 := zae HX.out.2.2.1 hb2;have hB2 := Below.then HX.out.2.2.2 hb2 hz0;have HY := zhI (zaI xR2 (zaI hown2 hB2));clear cR lR fR cX lX;have cX := xn2.cell;have lX := xn2.lt;have cR := xR2.cell;have lR := xR2.lt;have fR := xR2.free;clear hb2 xR2 xn2 hown2 hB2;refine wpAny_ready (rs := [0]) (by kernel_rfl) (by simp) ?_;refine AllReady.cons rfl (fun K hK => ?_) AllReady.nil;go_simp;refine hK _ _ ?_;clear hK K;simp only [List.setIfInBounds_toArray, List.set_cons_zero];refine wpAny_ready (rs := [5]) (by kernel_rfl) (by simp) ?_;refine AllReady.cons rfl (fun K hK => ?_) AllReady.nil;go_simp;refine hK _ _ ?_;clear hK K;refine wpAny_ready (rs := [6]) (by kernel_rfl) (by simp) ?_;refine AllReady.cons rfl (fun K hK => ?_) AllReady.nil;go_simp;refine hK _ _ ?_;clear hK K;refine wpAny_done (by kernel_rfl) ?_ _;obtain ⟨Wf, hWf⟩ : ∃ Wf, ((W2.setCell ⟨N, 0, none⟩ (.slice o k c)).setCell ⟨N, 1, none⟩ (.slice none 0 0)).setCell ⟨N, 2, none⟩ (.int .i64 0) = Wf := ⟨_, rfl⟩;have hne : (Value.slice o k c).ownBlock ≠ some N := zab HY.out.2.1 HY.out.1 (by decide);have zR : Bx Wf N #[.slice o k c, .slice none 0 0, .int .i64 0] 95 := by rw [<- hWf];have := ((HY.out.1.set 0 (.slice o k c)).set 1 (.slice none 0 0)).set 2 (.int .i64 0);simpa using this
     have zO : Wf.ownsRow w.heap.size 77 2 (.slice o k c) k (kvsC ps) := by rw [<- hWf];exact zac (a := ⟨N, 2, none⟩) (zac (a := ⟨N, 1, none⟩) (zac (a := ⟨N, 0, none⟩) HY.out.2.1 hne _) hne _) hne _
     have zB : Below w.heap.size w Wf := by rw [<- hWf]; exact zaa (zaa (zaa HY.out.2.2 (by omega)) (by omega)) (by omega)
     have HZ := zhI (zaI zR (zaI zO zB));clear cR lR fR cX lX hne zR zO zB;rw [hWf];have HWf := zhI hWf;clear hWf;go_wp2;have cZ := HZ.out.1.cell;refine bodyPost_ret (v := .tuple #[.agg #[.slice o k c, .slice none 0 0, .int .i64 0], .bool eq1]) (by simp [results, Tryz.results95, go_sem, cZ]) rfl ?_;rw [<- HR.out, Hlx.out];refine ⟨HZ.out.2.2, _, _, _, by cases eq1 <;> rfl, fun ps' h => ?_⟩
     cases eq1 with
     | false => cases h
     | true =>
      obtain rfl : ps = ps' := by simpa using h
      obtain ⟨o', c', e, hs, hrow, -⟩ := zag HZ.out.2.1;obtain ⟨rfl, rfl⟩ : o = o' /\ c = c' := by simpa using e
      have hn := NdS.leaf (page := 0) (by show SlW o ps.length c; rw [HPl.out]; exact hs) hrow;rw [HPl.out] at hn;exact hn
theorem zgf : ∀ a b : List UInt8, (Lib.compareBytes a b = -1 /\ Go.Op.bytesLess a b = true) \/ (Lib.compareBytes a b = 0 /\ a = b) \/ (Lib.compareBytes a b = 1 /\ Go.Op.bytesLess b a = true)
 | [], [] => .inr (.inl ⟨rfl, rfl⟩)
 | [], _ :: _ => .inl ⟨rfl, by simp [Go.Op.bytesLess]⟩
 | _ :: _, [] => .inr (.inr ⟨rfl, by simp [Go.Op.bytesLess]⟩)
 | x :: a, y :: b => by
  rw [Lib.compareBytes]
  by_cases h1 : x < y
  . rw [if_pos h1];exact .inl ⟨rfl, by rw [Go.Op.bytesLess]; simp [h1]⟩
  .
   rw [if_neg h1]
   by_cases h2 : y < x
   . rw [if_pos h2];exact .inr (.inr ⟨rfl, by rw [Go.Op.bytesLess]; simp [h2]⟩)
   .
    rw [if_neg h2];obtain rfl : x = y := UInt8.le_antisymm (UInt8.not_lt.1 h2) (UInt8.not_lt.1 h1);rcases zgf a b with ⟨e, h⟩ | ⟨e, h⟩ | ⟨e, h⟩
    . exact .inl ⟨e, by rw [Go.Op.bytesLess]; simp [h]⟩
    . exact .inr (.inl ⟨e, by rw [h]⟩)
    . exact .inr (.inr ⟨e, by rw [Go.Op.bytesLess]; simp [h]⟩)
def cmpK (a b : ByteArray) : Int := Lib.compareBytes a.data.toList b.data.toList
theorem zmJ (a b : ByteArray) : cmpK a b < 0 ↔ kLt a b = true := by
 unfold cmpK kLt;rw [ByteArray.toList_eq, ByteArray.toList_eq];rcases zgf a.data.toList b.data.toList with ⟨e, h⟩ | ⟨e, h⟩ | ⟨e, h⟩
 . rw [e, h]; simp
 . rw [e, h, zbH]; simp
 .
  rw [e];have : Go.Op.bytesLess a.data.toList b.data.toList = false := by
   cases g : Go.Op.bytesLess a.data.toList b.data.toList
   . rfl
   . have := zga g h; rw [zbH] at this; cases this
  rw [this]; simp
theorem zmU (a b : ByteArray) : cmpK a b = 0 ↔ a = b := by
 unfold cmpK;rcases zgf a.data.toList b.data.toList with ⟨e, h⟩ | ⟨e, h⟩ | ⟨e, h⟩
 .
  rw [e]; constructor
  . intro h; cases h
  . rintro rfl; rw [zbH] at h; cases h
 . rw [e]; exact ⟨fun _ => ByteArray.ext (Array.ext' h), fun _ => rfl⟩
 .
  rw [e]; constructor
  . intro h; cases h
  . rintro rfl; rw [zbH] at h; cases h
theorem zng (k v key : ByteArray) (w : World) : Calls Tryz.prog 139 #[.agg #[.string k, .string v], .string key] w fun e w' => e = .returned (.int .i64 (cmpK k key)) /\ Below w.heap.size w w' := by
 have hc := fun W => Tryz.strings_Compare k key W;go_enter Tryz.func139, Tryz.ntmps139;go_wp2_with fail;refine (hc _).mono ?_;rintro e w' ⟨rfl, rfl⟩;go_wp2;go_ret;exact ⟨rfl, Below.one _ _⟩
def findI (ps : List Kv) (key : ByteArray) : Nat := (ps.takeWhile fun p => kLt p.1 key).length
def findB (ps : List Kv) (key : ByteArray) : Bool := decide ((ps[findI ps key]?).map (·.1) = some key)
theorem zec (ps : List Kv) (key : ByteArray) : findI ps key <= ps.length := (List.takeWhile_prefix _).length_le
theorem zlJ {ps : List Kv} (h : Asc ps) (key : ByteArray) {i : Nat} (hi : i < ps.length) : i < findI ps key ↔ kLt ps[i].1 key = true := by
 unfold findI
 induction ps generalizing i with
 | nil => simp at hi
 | cons x l ih =>
  obtain ⟨h1, h2⟩ := List.pairwise_cons.1 h;rw [List.takeWhile_cons]
  by_cases hx : kLt x.1 key = true
  .
   rw [if_pos hx];cases i with
   | zero => simp [hx]
   | succ i => have := ih h2 (i := i) (by simpa using hi);simpa using this
  .
   rw [if_neg hx];cases i with
   | zero => simp [hx]
   | succ i =>
    have hi' : i < l.length := by simpa using hi
    have h3 := h1 l[i] (List.getElem_mem hi');simp only [List.length_nil, Nat.not_lt_zero, false_iff, List.getElem_cons_succ];intro h4;exact hx (zba h3 h4)
set_option maxHeartbeats 1600000 in
theorem znh (base : Nat) (v : Value) (ps : List Kv) (key : ByteArray) (w : World) (h : RowO w base 77 2 v ps.length (kvsC ps)) (ha : Asc ps) (hl : ps.length <= 1000000) :
  Calls Tryz.prog 138 #[v, .string key, .func (.func 139) #[] #[]] w fun e w' => e = .returned (.tuple #[.int .i64 (findI ps key), .bool (findB ps key)]) /\ Below w.heap.size w w' := by
 obtain ⟨o, c, rfl, hs, -⟩ := h.at;obtain ⟨F, hF⟩ : ∃ F, findI ps key = F := ⟨_, rfl⟩;have hFn := zec ps key;have hfl : ∀ (i : Nat) (hi : i < ps.length), i < findI ps key ↔ kLt ps[i].1 key = true := fun i hi => zlJ ha key hi;obtain ⟨fb, hfb⟩ : ∃ b, findB ps key = b := ⟨_, rfl⟩;rw [hF] at hFn |-;rw [hfb];have hfb2 : ∀ hi : F < ps.length, (ps[F].1 = key ↔ fb = true) := fun hi => by rw [<- hfb]; unfold findB; rw [hF, List.getElem?_eq_getElem hi]; simp
 have hfb3 : ¬ F < ps.length -> fb = false := fun hi => by rw [<- hfb]; unfold findB; rw [hF, List.getElem?_eq_none (by omega)]; simp
 rw [hF] at hfl;have Hfl := zhI hfl;have Hfb2 := zhI hfb2;have Hfb3 := zhI hfb3;have Hrow := zhI h;obtain ⟨n, hn⟩ : ∃ n, ps.length = n := ⟨_, rfl⟩;have hcap : n <= c := by rcases hs with ⟨_, h, _⟩ | ⟨_, _, h, _⟩ <;> omega
 rw [hn] at hFn hl |-;have Hn := zhI hn;clear hn hfl hfb2 hfb3 hF hfb h hs ha;have hcmp := fun k v W => zng k v key W;have Hcmp := zhI hcmp;clear hcmp;go_enter Tryz.func138, Tryz.ntmps138;go_wp2
 go_loopw [9, 10] (fun i j wr => ∃ a b : Nat, i = .int .i64 a /\ j = .int .i64 b /\ a <= F /\ F <= b /\ b <= n /\ Below w.heap.size w wr) (fun i j _ => (intOf j).toNat - (intOf i).toNat)
 case atStart => exact ⟨0, n, rfl, rfl, Nat.zero_le _, hFn, Nat.le_refl _, Below.refl _ _⟩
 case round =>
  obtain ⟨a, b, rfl, rfl, haF, hFb, hbn, hB⟩ := hrel;have hz := hB.size
  by_cases hlt : a < b
  .
   have hlk : (a + b) / 2 < ps.length := by rw [Hn.out]; omega
   obtain ⟨g, c', e, c0, c1, -, hg⟩ := zbY Hrow.out hlk;obtain ⟨rfl, rfl⟩ : o = some ⟨g, 0, none⟩ /\ c = c' := by simpa using e
   have hgl := (Hrow.out.lt g hg).2;have d0 : wr.cell? ⟨g, (a + b) / 2 * 2, none⟩ = some (.string ps[(a + b) / 2].1) := by rw [hB.cell hgl]; exact c0
   have d1 : wr.cell? ⟨g, (a + b) / 2 * 2 + 1, none⟩ = some (.string ps[(a + b) / 2].2) := by rw [hB.cell hgl]; exact c1
   have hgr : g < wr.heap.size := by omega
   have Hlt := zhI (Hfl.out _ hlk);obtain ⟨⟨ky, vy⟩, hkv⟩ : ∃ p : Kv, ps[(a + b) / 2] = p := ⟨_, rfl⟩;rw [hkv] at d0 d1 Hlt;simp only at d0 d1;have hcl := zmJ ky key;obtain ⟨r, hr⟩ : ∃ r, cmpK ky key = r := ⟨_, rfl⟩;have hcall := Hcmp.out ky vy wr;rw [hr] at hcall hcl;have Hcall := zhI hcall;have Hcl := zhI hcl;have HB := zhI hB;clear hkv c0 c1 e hg hcall hcl hr hlk hB
   by_cases hr0 : r < 0
   .
    have hmF : (a + b) / 2 < F := Hlt.out.2 (Hcl.out.1 hr0);have HmF := zhI hmF;clear hmF;go_wp2_with (refine Hcall.out.mono ?_; rintro e w2 ⟨rfl, hb2⟩);go_roundw
    case rel => have := HmF.out; exact ⟨(a + b) / 2 + 1, b, by rw [show ((a : Int) + (b : Int)) / 2 + 1 = (((a + b) / 2 + 1 : Nat) : Int) by omega], rfl, by omega, hFb, hbn, Below.then HB.out hb2 hz⟩
    case measure => simp [intOf]; omega
   .
    have hmF : ¬ (a + b) / 2 < F := fun h => hr0 (Hcl.out.2 (Hlt.out.1 h));have HmF := zhI hmF;clear hmF;go_wp2_with (refine Hcall.out.mono ?_; rintro e w2 ⟨rfl, hb2⟩);go_roundw
    case rel => have := HmF.out; exact ⟨a, (a + b) / 2, rfl, by rw [show ((a : Int) + (b : Int)) / 2 = (((a + b) / 2 : Nat) : Int) by omega], haF, by omega, by omega, Below.then HB.out hb2 hz⟩
    case measure => simp [intOf]; omega
  .
   obtain rfl : a = F := by omega
   obtain rfl : b = a := by omega
   by_cases hbn2 : b < n
   .
    have hlk : b < ps.length := by rw [Hn.out]; exact hbn2
    obtain ⟨g, c', e, c0, c1, -, hg⟩ := zbY Hrow.out hlk;obtain ⟨rfl, rfl⟩ : o = some ⟨g, 0, none⟩ /\ c = c' := by simpa using e
    have hgl := (Hrow.out.lt g hg).2;have d0 : wr.cell? ⟨g, b * 2, none⟩ = some (.string ps[b].1) := by rw [hB.cell hgl]; exact c0
    have d1 : wr.cell? ⟨g, b * 2 + 1, none⟩ = some (.string ps[b].2) := by rw [hB.cell hgl]; exact c1
    have hgr : g < wr.heap.size := by omega
    have Hfb := zhI (Hfb2.out hlk);obtain ⟨⟨ky, vy⟩, hkv⟩ : ∃ p : Kv, ps[b] = p := ⟨_, rfl⟩;rw [hkv] at d0 d1 Hfb;simp only at d0 d1;have hcl := zmU ky key;obtain ⟨r, hr⟩ : ∃ r, cmpK ky key = r := ⟨_, rfl⟩;have hcall := Hcmp.out ky vy wr;rw [hr] at hcall hcl;have Hcall := zhI hcall;have Hcl := zhI hcl;have HB := zhI hB;clear hkv c0 c1 e hg hcall hcl hr hlk hB;cases hr0 : (r == 0)
    .
     have hf : fb = false := by
      cases fb
      . rfl
      . exact absurd (Hcl.out.2 (Hfb.out.2 rfl)) (by simpa using hr0)
     subst hf;go_wp2_with (refine Hcall.out.mono ?_; rintro e w2 ⟨rfl, hb2⟩);refine bodyPost_ret (v := .tuple #[.int .i64 b, .bool false]) (by simp [results, Tryz.results138, go_sem]) rfl ?_;exact ⟨rfl, Below.then HB.out hb2 hz⟩
    . have hf : fb = true := Hfb.out.1 (Hcl.out.1 (by simpa using hr0));subst hf;go_wp2_with (refine Hcall.out.mono ?_; rintro e w2 ⟨rfl, hb2⟩);refine bodyPost_ret (v := .tuple #[.int .i64 b, .bool true]) (by simp [results, Tryz.results138, go_sem]) rfl ?_;exact ⟨rfl, Below.then HB.out hb2 hz⟩
   . have hf := Hfb3.out (by rw [Hn.out]; exact hbn2);subst hf;go_wp2;refine bodyPost_ret (v := .tuple #[.int .i64 b, .bool false]) (by simp [results, Tryz.results138, go_sem]) rfl ?_;exact ⟨rfl, hB⟩
theorem zh5 (base : Nat) (b : Nat) (leaf : Bool) (pv kv : Value) (page : Int) (ps : List Kv) (key : ByteArray) (w : World) (hx : Bx w b (nodeC leaf pv kv page) 129) (h : RowO w base 77 2 pv ps.length (kvsC ps)) (ha : Asc ps) (hl : ps.length <= 1000000) :
  Calls Tryz.prog 101 #[.pointer (some ⟨b, 0, none⟩), .string key] w fun e w' => e = .returned (.tuple #[.int .i64 (findI ps key), .bool (findB ps key)]) /\ Below w.heap.size w w' := by
 have hb := znh base pv ps key w h ha hl;obtain ⟨o, c, rfl, -, -⟩ := h.at;have Hb := zhI hb;have cX := hx.cell;have lX := hx.lt;unfold nodeC at cX;clear hb h ha;go_enter Tryz.func101, Tryz.ntmps101;go_wp2_with fail;refine Hb.out.mono ?_;rintro e w2 ⟨rfl, hb2⟩;go_wp2;refine bodyPost_ret (v := .tuple #[.int .i64 (findI ps key), .bool (findB ps key)]) (by simp [results, Tryz.results101, go_sem]) rfl ?_;exact ⟨rfl, hb2⟩
def chP (key : ByteArray) (l : List Nd) : Nat := (l.takeWhile fun k => !kLt key k.least).length
theorem zm3 (key : ByteArray) : chP key [] = 0 := rfl
theorem znm (key : ByteArray) (l : List Nd) : chP key l <= l.length := (List.takeWhile_prefix _).length_le
theorem zaS {kids : List Nd} (key : ByteArray) (h : kids ≠ []) : zay kids key < kids.length := by
 have : zay kids key <= kids.tail.length := znm key kids.tail;rw [List.length_tail] at this;have : 0 < kids.length := List.length_pos_iff.2 h;omega
theorem zlX {key : ByteArray} {l : List Nd} {k : Nat} (h : k < l.length) : chP key (l.drop k) = if kLt key l[k].least = true then 0 else 1 + chP key (l.drop (k + 1)) := by
 unfold chP;rw [List.drop_eq_getElem_cons h, List.takeWhile_cons];cases kLt key l[k].least <;> simp <;> omega
set_option maxHeartbeats 1600000 in
theorem zfK (base : Nat) (t : AT) (key : ByteArray) (w : World) (h : Lies base w t) (hk0 : t.kids ≠ []) (hf : ∀ c ∈ t.kids, c.nd.first = true) (hl : t.kids.length <= 1000) :
  Calls Tryz.prog 100 #[t.ptr, .string key] w fun e w' => e = .returned (.int .i64 (zay (t.kids.map AT.nd) key)) /\ w' = w := by
 obtain ⟨b, pv, kv, ps, kids, page⟩ := t;simp only [AT.kids] at hk0 hf hl |-;have hx := h.hx;have hk := h.hk;have hc := h.hc;simp only [AT.b, AT.pv, AT.kv, AT.kids, AT.page] at hx hk hc;simp only [AT.ptr, AT.b];have hk1 : 0 < kids.length := List.length_pos_iff.2 hk0;obtain ⟨g, c, rfl, -, hle, hg⟩ := za6 (i := 0) hk hk1;have hgl := (hk.lt g hg).2;have hpt : ∀ i (hi : i < kids.length), w.cell? ⟨g, i, none⟩ = some (.pointer (some ⟨kids[i].b, 0, none⟩)) := fun i hi => by
  obtain ⟨g', c', e, hcell, -, -⟩ := za6 hk hi;obtain ⟨rfl, rfl⟩ : g = g' /\ c = c' := by simpa using e
  exact hcell
 obtain ⟨K, hK⟩ : ∃ K, kids.map AT.nd = K := ⟨_, rfl⟩;have hKl : K.length = kids.length := by rw [<- hK, List.length_map]
 obtain ⟨n, hn⟩ : ∃ n, kids.length = n := ⟨_, rfl⟩;have hcp : zay K key = chP key (K.drop 1) := by unfold zay chP; rw [List.drop_one]
 rw [hK, hcp];obtain ⟨R, hR⟩ : ∃ R, chP key (K.drop 1) = R := ⟨_, rfl⟩;rw [hR];rw [hn] at hx hl hle hk1 hKl;have HR := zhI hR;have Hn := zhI hn;have HK := zhI hK;have HKl := zhI hKl;have Hpt := zhI hpt;have cX := hx.cell;have lX := hx.lt;unfold nodeC at cX;clear hR hn hK hKl hpt hcp hx hk h hk0 hg;go_enter Tryz.func100, Tryz.ntmps100;go_wp2
 go_loopw [5] (fun i wr => ∃ k : Nat, i = .int .i64 k /\ k < n /\ Hid (R = k + chP key (K.drop (k + 1))) /\ wr = w) (fun i _ => n - (intOf i).toNat)
 case atStart => exact ⟨0, rfl, hk1, zhI (by simpa using HR.out.symm), rfl⟩
 case round =>
  obtain ⟨k, rfl, hkn, Hrk, rfl⟩ := hrel
  by_cases hlt : k + 1 < n
  .
   have hlk : k + 1 < kids.length := by rw [Hn.out]; exact hlt
   have hlK : k + 1 < K.length := by rw [HKl.out]; exact hlt
   have hKk : K[k + 1] = kids[k + 1].nd := by simp only [<- HK.out, List.getElem_map]
   have d0 := Hpt.out (k + 1) hlk;have hls := ziW base kids[k + 1] wr (hc _ (List.getElem_mem hlk)) (hf _ (List.getElem_mem hlk));have Hd := zhI (zlX (key := key) hlK);rw [hKk] at Hd;obtain ⟨lk, hlkk⟩ : ∃ s, kids[k + 1].nd.least = s := ⟨_, rfl⟩;obtain ⟨cb, hcb⟩ : ∃ x, kids[k + 1].b = x := ⟨_, rfl⟩;unfold AT.ptr at hls;rw [hlkk] at hls Hd;rw [hcb] at hls d0;have Hls := zhI hls;have hlt' : (k : Int) + 1 < (n : Int) := by omega
   clear hls hlkk hcb hKk hlk hlK;cases hlq : kLt key lk with
   | true =>
    have q1 : Go.Op.bytesLess lk.toList key.toList = false := zhh hlq;have q2 : ¬ lk.toList = key.toList := fun e => zdi hlq (zaH e.symm);have q3 : (lk.toList == key.toList) = false := by rw [beq_eq_false_iff_ne]; exact q2
    have hend : Hid (R = k) := zhI (by rw [Hrk.out, Hd.out, if_pos hlq]; rfl);clear Hrk Hd hlq;go_wp2_with (refine Hls.out.mono ?_; rintro e w2 ⟨rfl, rfl⟩);go_ret;exact ⟨by rw [hend.out]; rfl, rfl⟩
   | false =>
    have hnx : Hid (R = (k + 1) + chP key (K.drop (k + 1 + 1))) := zhI (by rw [Hrk.out, Hd.out, if_neg (by rw [hlq]; decide)]; omega);cases hl2 : kLt lk key with
    | true =>
     have q1 : Go.Op.bytesLess lk.toList key.toList = true := hl2;clear Hrk Hd hlq hl2;go_wp2_with (refine Hls.out.mono ?_; rintro e w2 ⟨rfl, rfl⟩);go_roundw
     case rel => exact ⟨k + 1, by go_num, hlt, hnx, trivial⟩
     case measure => simp [intOf]; omega
    | false =>
     obtain rfl : lk = key := zci hl2 hlq;have q1 : Go.Op.bytesLess lk.toList lk.toList = false := zbH _;clear Hrk Hd hlq hl2;go_wp2_with (refine Hls.out.mono ?_; rintro e w2 ⟨rfl, rfl⟩);go_roundw
     case rel => exact ⟨k + 1, by go_num, hlt, hnx, trivial⟩
     case measure => simp [intOf]; omega
  .
   have hend : Hid (R = k) := zhI (by rw [Hrk.out, List.drop_of_length_le (by rw [HKl.out]; omega), zm3]; rfl);have hlt' : ¬ (k : Int) + 1 < (n : Int) := by omega
   clear Hrk;go_wp2;go_ret;exact ⟨by rw [hend.out]; rfl, rfl⟩
end Go.Proofs.YtlefmmhlpgmbjaaGreat
