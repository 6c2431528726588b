/- The page of a node: btree.encode. Lazy's law for a region inside a fence that lets everything pass (the body of a range over a function); rows of cells read, and rows compared, in the one walk. 'T{x}' and appends of elements of many cells. No function of the program is named here. Guarded operations that are wanted: load of a row, list of one. The page of an inner node: btree.encode. Nodes of the reference in memory; quiltref42.short, least. The page of a node: quiltref42.Bytes. Strings behind their lengths: btree.readText, quiltref42.text. The pairs of a leaf: (*loader).leaf. A map from ints to bools that holds only true: a set of pages. Plain laws of loading: what a loaded node is. -/
import Derived.Test.YtlefmmhlpgmbjaaGreatQ05
import Derived.Test.YtlefmmhlpgmbjaaGreatQ04
import Derived.OrdersIn
import Derived.RangeFuncCalls
import Derived.Maps.OwnSet
import Derived.Test.YtlefmmhlpgmbjaaGreatQ01
namespace Go.Proofs.YtlefmmhlpgmbjaaGreat
set_option maxRecDepth 100000
open Go.RowKit
section
variable {P : Program} {Q : Exit -> Act -> World -> Prop} {a : Act} {w : World}
theorem wp_region_startB {id : Nat} {l : List Oper} (listed : Array Bool) (fuel : Nat) (hm : P.follows .mixedOrders = true) (hl : Array.replicate l.length false = listed) (hf : l.length = fuel) (h : wpAny P .any l.toArray Q fuel listed a w.drew) : (Code.region id l.toArray true).wp P Q a w := by
 refine wp_region_any hm ?_
 have e : l.toArray.size = fuel := by simpa using hf
 rw [e, <- hf, hl, hf]
 exact h
end
def KvOk (p : Kv) : Prop := p.1.size <= 48 /\ p.2.size <= 80
def EncOk (n : Nd) : Prop := (n.kids = [] /\ n.ps.length <= 3 /\ ∀ p ∈ n.ps, KvOk p) \/ (2 <= n.kids.length /\ n.kids.length <= 8 /\ ∀ k ∈ n.kids, k.first = true /\ k.least.size <= 48 /\ 0 <= k.page /\ k.page <= 1000000)
def kvT (p : Kv) : List UInt8 := textL p.1 ++ textL p.2
theorem kvT_len {p : Kv} (h : KvOk p) : (kvT p).length <= 130 := by
 unfold kvT; rw [zlA, textL_len, textL_len]; have := h.1; have := h.2; omega
theorem flatLen {α : Type} {f : α -> List UInt8} {m : Nat} : ∀ {l : List α}, (∀ x ∈ l, (f x).length <= m) -> ((l.map f).flatten).length <= l.length * m
 | [], _ => by simp
 | x :: l, h => by
  have h1 := h x (by simp)
  have h2 := flatLen (f := f) (l := l) fun y hy => h y (by simp [hy])
  rw [List.map_cons, List.flatten_cons, zlA, zlC, Nat.add_mul]
  omega
def lfE (ps : List Kv) (k : Nat) : List UInt8 := 76 :: UInt8.ofNat ps.length :: ((ps.take k).map kvT).flatten
theorem lfE_all (ps : List Kv) : lfE ps ps.length = encLf ps := by unfold lfE encLf kvT; rw [List.take_length]
theorem lfE_succ {ps : List Kv} {k : Nat} (h : k < ps.length) : lfE ps (k + 1) = lfE ps k ++ textL ps[k].1 ++ textL ps[k].2 := by
 unfold lfE
 rw [List.take_succ_eq_append_getElem h, List.map_append, List.flatten_append]
 simp only [List.map_cons, List.map_nil, List.flatten_cons, List.flatten_nil, List.append_nil, kvT, List.cons_append, List.append_assoc]
theorem lfE_len {ps : List Kv} (h : ∀ p ∈ ps, KvOk p) (hl : ps.length <= 3) (k : Nat) : (lfE ps k).length <= 392 := by
 unfold lfE
 have := flatLen (f := kvT) (m := 130) (l := ps.take k) fun x hx => kvT_len (h x (List.mem_of_mem_take hx))
 rw [zlC, zlC]
 have h2 : (ps.take k).length <= 3 := by rw [List.length_take]; omega
 have : (ps.take k).length * 130 <= 390 := by omega
 omega
set_option maxHeartbeats 4000000 in
theorem bt_encode_leaf (base : Nat) (t : AT) (w : World) (h : Lies base w t) (hk0 : t.kids = []) (h3 : t.ps.length <= 3) (hok : ∀ p ∈ t.ps, KvOk p) :
  Calls Tryz.prog 119 #[t.ptr] w fun e w' => e = .returned (.string (bs (padZ (encLf t.ps)))) /\ Below w.heap.size w w' := by
 obtain ⟨b, pv, kv, ps, kids, page⟩ := t
 simp only [AT.kids, AT.ps] at hk0 h3 hok
 subst hk0
 have hx := h.hx
 have hp := h.hp
 simp only [AT.b, AT.pv, AT.kv, AT.ps, AT.kids, AT.page, List.isEmpty_nil] at hx hp
 simp only [AT.ptr, AT.b, AT.ps]
 obtain ⟨po, pc, rfl, hsl, hrow⟩ := hp.at
 obtain ⟨n, hn⟩ : ∃ n, ps.length = n := ⟨_, rfl⟩
 obtain ⟨nb, hnb⟩ : ∃ c : UInt8, UInt8.ofNat n = c := ⟨_, rfl⟩
 have hu : n % 256 = nb.toNat := by rw [<- hnb, u8_of]
 rw [hn] at hx hsl h3
 have hl0 : lfE ps 0 = [76, nb] := by unfold lfE; rw [hn, hnb]; rfl
 have Hn := zhI hn
 have Hl0 := zhI hl0
 have Hu : Hid ((nb.toNat : Int) = (n : Int)) := zhI (by omega)
 have cX := hx.cell
 have lX := hx.lt
 unfold nodeC at cX hx
 clear hl0 hn hnb hu
 go_enter Tryz.func119, Tryz.ntmps119
 go_wp2
 clear cX lX
 go_loopw [3, 27] (fun v i wr => ∃ k : Nat, k <= n /\ i = .int .i64 k /\ wr.ownsRow w.heap.size 5 1 v (lfE ps k).length (bytesV (lfE ps k)) /\ Below w.heap.size w wr) (fun _ i _ => n - (intOf i).toNat)
 case atStart =>
  refine ⟨0, by omega, rfl, ?_, Below.one _ _⟩
  rw [Hl0.out, show bytesV [76, nb] = [.int .u8 76, .int .u8 (n : Int)] by simp [bytesV, Hu.out]]
  exact ⟨by simp, .inr ⟨w.heap.size, 2, #[.int .u8 76, .int .u8 (n : Int)], rfl, Nat.le_refl _, heap_alloc_new w _, by simp, by simp [maxLen], by simp, by simp⟩⟩
 case round =>
  obtain ⟨k, hk, rfl, hown, hB⟩ := hrel
  have hz := hB.size
  have hx2 := hx.belowAll hB
  have hlen := lfE_len hok (by rw [Hn.out]; exact h3)
  by_cases hlt : k < n
  .
   have hlk : k < ps.length := by rw [Hn.out]; exact hlt
   obtain ⟨g, c, e, c0, c1, -, hg⟩ := pair_row hp hlk
   obtain ⟨rfl, -, -⟩ : po = some ⟨g, 0, none⟩ /\ ps.length = ps.length /\ pc = c := by simpa using e
   have hgl := (hp.lt g hg).2
   have d0 : wr.cell? ⟨g, k * 2, none⟩ = some (.string ps[k].1) := by rw [hB.cell hgl]; exact c0
   have d1 : wr.cell? ⟨g, k * 2 + 1, none⟩ = some (.string ps[k].2) := by rw [hB.cell hgl]; exact c1
   have hko := hok _ (List.getElem_mem hlk)
   have hl1 := hlen k
   have hl2 := hlen (k + 1)
   rw [lfE_succ hlk] at hl2
   have Hs := zhI (lfE_succ hlk)
   obtain ⟨⟨ky, vy⟩, hkv⟩ : ∃ p : Kv, ps[k] = p := ⟨_, rfl⟩
   rw [hkv] at d0 d1 hko hl2 Hs
   obtain ⟨L, hL⟩ : ∃ L, lfE ps k = L := ⟨_, rfl⟩
   rw [hL] at hown hl1 hl2 Hs
   simp only at d0 d1 hl2 Hs
   clear e c0 c1 hkv hL
   have hgr : g < wr.heap.size := by omega
   have xb := Bx.new wr #[.string ky, .string vy] 77
   have hB1 := hB.alloc hz (.cells #[.string ky, .string vy] 77)
   have hown1 := hown.alloc (.cells #[.string ky, .string vy] 77)
   have hz1 : w.heap.size <= (wr.alloc (.cells #[.string ky, .string vy] 77)).heap.size := by simp; omega
   go_upto_region 6 with fail
   obtain ⟨B, hBe⟩ : ∃ B, wr.heap.size = B := ⟨_, rfl⟩
   obtain ⟨W1, hW1⟩ : ∃ W1, wr.alloc (.cells #[.string ky, .string vy] 77) = W1 := ⟨_, rfl⟩
   simp only [hW1, hBe] at *
   clear hW1 d0 d1 hB hown hx2
   refine wp_region_startB #[false, false, false, false, false, false, false, false] 8 (by kernel_rfl) (by rfl) rfl ?_
   replace xb : Bx W1.drew B #[.string ky, .string vy] 77 := Bx.drew xb
   replace hB1 : Below w.heap.size w W1.drew := Below.drew hB1
   replace hown1 : W1.drew.ownsRow w.heap.size 5 1 u3 L.length (bytesV L) := hown1
   replace hz1 : w.heap.size <= W1.drew.heap.size := hz1
   generalize W1.drew = W2 at *
   have k1 : ky.size <= 1000000 := by have := hko.1; simp at this; omega
   have k2 : vy.size <= 1000000 := by have := hko.2; simp at this; omega
   have hl3 : (L ++ textL ky).length <= 1000000 := by rw [zlA] at hl2; omega
   have H1 := zhI (bt_text w.heap.size u3 L ky W2 hown1 hz1 k1 (by omega))
   clear hown1
   refine wpAny_take (i := 0) (v := u3) rfl (by kernel_rfl) (by kernel_rfl) (by kernel_rfl) (fun _ _ _ h => h) (Or.inl ⟨by rfl, fun w => by first | rfl | (go_simp; try with_reducible rfl)⟩) ?_
   simp only [List.getElem_toArray, List.getElem_cons_zero, Act.put, zsP]
   refine wpAny_take (i := 1) (v := (.pointer (some ⟨B, 0, none⟩))) rfl (by kernel_rfl) (by kernel_rfl) (by kernel_rfl) (fun _ _ _ h => h) (Or.inl ⟨by rfl, fun w => by first | rfl | (go_simp; try with_reducible rfl)⟩) ?_
   simp only [zgP, Act.put, zsP]
   refine wpAny_take (i := 4) (v := (.pointer (some ⟨B, 1, none⟩))) rfl (by kernel_rfl) (by kernel_rfl) (by kernel_rfl) (fun _ _ _ h => h) (Or.inl ⟨by rfl, fun w => by first | rfl | (go_simp; try with_reducible rfl)⟩) ?_
   simp only [zgP, Act.put, zsP]
   refine wpAny_ready (rs := [2, 5]) (by kernel_rfl) (by simp) ?_
   refine AllReady.cons rfl (fun K hK => ?_) (AllReady.cons rfl (fun K hK => ?_) AllReady.nil)
   .
    have cB := xb.cell
    go_simp
    refine hK _ _ ?_
    clear hK K cB
    simp only [zsP]
    refine wpAny_ready (rs := [3, 5]) (by kernel_rfl) (by simp) ?_
    refine AllReady.cons rfl (fun K hK => ?_) (AllReady.cons rfl (fun K hK => ?_) AllReady.nil)
    .
     go_simp
     refine H1.out.mono ?_
     rintro e W3 ⟨v1, rfl, hown3, hb3, hk3⟩
     refine hK _ _ ?_
     clear hK K H1
     simp only [zsP]
     replace xb := hk3 _ _ _ (by decide) xb
     replace hB1 := hB1.trans hb3
     replace hz1 : w.heap.size <= W3.heap.size := hB1.size
     clear hb3 hk3
     refine wpAny_ready (rs := [5]) (by kernel_rfl) (by simp) ?_
     refine AllReady.cons rfl (fun K hK => ?_) AllReady.nil
     have cB := xb.cell
     go_simp
     refine hK _ _ ?_
     clear hK K cB
     simp only [zsP]
     have H2 := zhI (bt_text w.heap.size v1 (L ++ textL ky) vy W3 hown3 hz1 k2 hl3)
     clear hown3
     refine wpAny_ready (rs := [6]) (by kernel_rfl) (by simp) ?_
     refine AllReady.cons rfl (fun K hK => ?_) AllReady.nil
     go_simp
     refine H2.out.mono ?_
     rintro e W4 ⟨v2, rfl, hown4, hb4, hk4⟩
     refine hK _ _ ?_
     clear hK K H2
     simp only [zsP]
     refine wpAny_ready (rs := [7]) (by kernel_rfl) (by simp) ?_
     refine AllReady.cons rfl (fun K hK => ?_) AllReady.nil
     go_simp
     refine hK _ _ ?_
     clear hK K
     simp only [zsP]
     refine wpAny_done (by kernel_rfl) ?_ _
     go_wp2
     go_roundw
     case rel => exact ⟨k + 1, by omega, by go_num, by rw [Hs.out]; exact hown4, hB1.trans hb4⟩
     case measure => simp [intOf]; omega
    .
     have cB := xb.cell
     go_simp
     refine hK _ _ ?_
     clear hK K cB
     simp only [zsP]
     refine wpAny_ready (rs := [3]) (by kernel_rfl) (by simp) ?_
     refine AllReady.cons rfl (fun K hK => ?_) AllReady.nil
     go_simp
     refine H1.out.mono ?_
     rintro e W3 ⟨v1, rfl, hown3, hb3, hk3⟩
     refine hK _ _ ?_
     clear hK K H1
     simp only [zsP]
     replace xb := hk3 _ _ _ (by decide) xb
     replace hB1 := hB1.trans hb3
     replace hz1 : w.heap.size <= W3.heap.size := hB1.size
     clear hb3 hk3
     have H2 := zhI (bt_text w.heap.size v1 (L ++ textL ky) vy W3 hown3 hz1 k2 hl3)
     clear hown3
     refine wpAny_ready (rs := [6]) (by kernel_rfl) (by simp) ?_
     refine AllReady.cons rfl (fun K hK => ?_) AllReady.nil
     go_simp
     refine H2.out.mono ?_
     rintro e W4 ⟨v2, rfl, hown4, hb4, hk4⟩
     refine hK _ _ ?_
     clear hK K H2
     simp only [zsP]
     refine wpAny_ready (rs := [7]) (by kernel_rfl) (by simp) ?_
     refine AllReady.cons rfl (fun K hK => ?_) AllReady.nil
     go_simp
     refine hK _ _ ?_
     clear hK K
     simp only [zsP]
     refine wpAny_done (by kernel_rfl) ?_ _
     go_wp2
     go_roundw
     case rel => exact ⟨k + 1, by omega, by go_num, by rw [Hs.out]; exact hown4, hB1.trans hb4⟩
     case measure => simp [intOf]; omega
   .
    have cB := xb.cell
    go_simp
    refine hK _ _ ?_
    clear hK K cB
    simp only [zsP]
    refine wpAny_ready (rs := [2]) (by kernel_rfl) (by simp) ?_
    refine AllReady.cons rfl (fun K hK => ?_) AllReady.nil
    have cB := xb.cell
    go_simp
    refine hK _ _ ?_
    clear hK K cB
    simp only [zsP]
    refine wpAny_ready (rs := [3]) (by kernel_rfl) (by simp) ?_
    refine AllReady.cons rfl (fun K hK => ?_) AllReady.nil
    go_simp
    refine H1.out.mono ?_
    rintro e W3 ⟨v1, rfl, hown3, hb3, hk3⟩
    refine hK _ _ ?_
    clear hK K H1
    simp only [zsP]
    replace xb := hk3 _ _ _ (by decide) xb
    replace hB1 := hB1.trans hb3
    replace hz1 : w.heap.size <= W3.heap.size := hB1.size
    clear hb3 hk3
    have H2 := zhI (bt_text w.heap.size v1 (L ++ textL ky) vy W3 hown3 hz1 k2 hl3)
    clear hown3
    refine wpAny_ready (rs := [6]) (by kernel_rfl) (by simp) ?_
    refine AllReady.cons rfl (fun K hK => ?_) AllReady.nil
    go_simp
    refine H2.out.mono ?_
    rintro e W4 ⟨v2, rfl, hown4, hb4, hk4⟩
    refine hK _ _ ?_
    clear hK K H2
    simp only [zsP]
    refine wpAny_ready (rs := [7]) (by kernel_rfl) (by simp) ?_
    refine AllReady.cons rfl (fun K hK => ?_) AllReady.nil
    go_simp
    refine hK _ _ ?_
    clear hK K
    simp only [zsP]
    refine wpAny_done (by kernel_rfl) ?_ _
    go_wp2
    go_roundw
    case rel => exact ⟨k + 1, by omega, by go_num, by rw [Hs.out]; exact hown4, hB1.trans hb4⟩
    case measure => simp [intOf]; omega
  .
   obtain rfl : k = n := by omega
   have hl1 := hlen k
   rw [show lfE ps k = encLf ps by rw [<- lfE_all, Hn.out]] at hown hl1
   obtain ⟨o, c, rfl, hs, hr, hob⟩ := ownsRow_at hown
   have hne : o ≠ none := by
    rintro rfl
    have := (hs.nil rfl).1
    simp [encLf] at this
   obtain ⟨ad, rfl⟩ := Option.ne_none_iff_exists'.1 hne
   obtain ⟨m, hm⟩ : ∃ m, (encLf ps).length = m := ⟨_, rfl⟩
   have hpad := bt_padded (encLf ps) ad c wr (by omega) hr
   rw [hm] at hpad |-
   clear hne hs hr hob hown hm
   go_wp2_with fail
   refine hpad.mono ?_
   rintro e w2 ⟨rfl, hb2⟩
   go_wp2
   go_ret
   exact ⟨rfl, Below.then hB hb2 hz⟩
section
variable {F : Fence} {nF : Nat} {P : Program} {ops : Array Oper} {md : Region.Mode} {W0 : World} {an : Anns} {Q : Exit -> Act -> World -> Prop}
end
section
variable {P : Program} {o : Oper} {a : Act} {C : World -> Prop} {K : Act -> Prop}
theorem lz_value {W : World} {v : Value} (hr : (execOp a.eval o).run P W = .ok (.value v) W) : lzAt P o a W (lzPost (annK v) W) := by
 unfold lzAt
 rw [hr]
 exact ⟨Below.refl _ _, fun _ => undef, rfl, fun _ _ => trivial⟩
end
section
variable {P : Program} {ops : Array Oper} {rest : List Oper} {o : Oper} {a : Act} {Q : Exit -> Act -> World -> Prop} {w : World}
end
section
variable {P : Program} {ops : Array Oper} {rest : List Oper} {o : Oper} {a : Act} {Q : Exit -> Act -> World -> Prop} {w : World}
end
def annBl2 (x y : Value) (e : TypeId) : Ann := ⟨fun r => .slice (some ⟨r.lo, 0, none⟩) 2 2, fun r W => Bx W r.lo #[x, y] e⟩
def KidOk (n : Nd) : Prop := n.first = true /\ n.least.size <= 48 /\ 0 <= n.page /\ n.page <= 1000000
def inE (kids : List Nd) (k : Nat) : List UInt8 := 78 :: UInt8.ofNat kids.length :: ((kids.take k).map fun c => pageB c.page).flatten
def inF (kids : List Nd) (k : Nat) : List UInt8 := inE kids kids.length ++ ((kids.tail.take k).map fun c => textL c.least).flatten
theorem inE_succ {kids : List Nd} {k : Nat} (h : k < kids.length) : inE kids (k + 1) = inE kids k ++ pageB kids[k].page := by
 unfold inE
 rw [List.take_succ_eq_append_getElem h, List.map_append, List.flatten_append]
 simp only [List.map_cons, List.map_nil, List.flatten_cons, List.flatten_nil, List.append_nil, List.cons_append]
theorem inF_succ {kids : List Nd} {k : Nat} (h : k < kids.tail.length) : inF kids (k + 1) = inF kids k ++ textL kids.tail[k].least := by
 unfold inF
 rw [List.take_succ_eq_append_getElem h, List.map_append, List.flatten_append]
 simp only [List.map_cons, List.map_nil, List.flatten_cons, List.flatten_nil, List.append_nil, List.append_assoc]
theorem inF_zero (kids : List Nd) : inF kids 0 = inE kids kids.length := by unfold inF; simp
theorem inF_all (kids : List Nd) : inF kids kids.tail.length = encIn kids := by
 unfold inF inE encIn
 rw [List.take_length, List.take_length]
 simp
theorem pageB_len (p : Int) : (pageB p).length = 2 := rfl
theorem inE_len {kids : List Nd} (hl : kids.length <= 8) (k : Nat) : (inE kids k).length <= 18 := by
 unfold inE
 have := flatLen (f := fun c : Nd => pageB c.page) (m := 2) (l := kids.take k) fun x _ => Nat.le_of_eq (pageB_len _)
 rw [zlC, zlC]
 have h2 : (kids.take k).length <= 8 := by rw [List.length_take]; omega
 omega
theorem inF_len {kids : List Nd} (hk : ∀ c ∈ kids, KidOk c) (hl : kids.length <= 8) (k : Nat) : (inF kids k).length <= 361 := by
 unfold inF
 have h1 := inE_len hl kids.length
 have := flatLen (f := fun c : Nd => textL c.least) (m := 49) (l := kids.tail.take k) fun x hx => by
  have := (hk x (List.mem_of_mem_tail (List.mem_of_mem_take hx))).2.1
  rw [textL_len]; omega
 have h2 : (kids.tail.take k).length <= 7 := by rw [List.length_take, List.length_tail]; omega
 rw [zlA]
 omega
set_option maxHeartbeats 8000000 in
theorem bt_encode_inner (base : Nat) (t : AT) (w : World) (h : Lies base w t) (h2 : 2 <= t.kids.length) (h8 : t.kids.length <= 8) (hok : ∀ c ∈ t.kids, KidOk c.nd) :
  Calls Tryz.prog 119 #[t.ptr] w fun e w' => e = .returned (.string (bs (padZ (encIn (t.kids.map AT.nd))))) /\ Below w.heap.size w w' := by
 obtain ⟨b, pv, kv, ps, kids, page⟩ := t
 simp only [AT.kids] at h2 h8 hok
 have hx := h.hx
 have hk := h.hk
 have hc := h.hc
 simp only [AT.b, AT.pv, AT.kv, AT.kids, AT.page] at hx hk hc
 simp only [AT.ptr, AT.b, AT.kids]
 obtain ⟨g, c, rfl, -, hle, hg⟩ := ptr_row (i := 0) hk (by omega)
 have hgl := (hk.lt g hg).2
 have hpt : ∀ i (hi : i < kids.length), w.cell? ⟨g, i, none⟩ = some (.pointer (some ⟨kids[i].b, 0, none⟩)) := fun i hi => by
  obtain ⟨g', c', e, hcell, -, -⟩ := ptr_row hk hi
  obtain ⟨rfl, rfl⟩ : g = g' /\ c = c' := by simpa using e
  exact hcell
 have hem : kids.isEmpty = false := by cases kids <;> simp_all
 rw [hem] at hx
 obtain ⟨N, hN⟩ : ∃ N, kids.map AT.nd = N := ⟨_, rfl⟩
 have hNl : N.length = kids.length := by rw [<- hN, List.length_map]
 have hNk : ∀ c ∈ N, KidOk c := by
  intro c hc
  rw [<- hN] at hc
  obtain ⟨t, ht, rfl⟩ := List.mem_map.1 hc
  exact hok t ht
 obtain ⟨n, hn⟩ : ∃ n, kids.length = n := ⟨_, rfl⟩
 obtain ⟨nb, hnb⟩ : ∃ c : UInt8, UInt8.ofNat n = c := ⟨_, rfl⟩
 have hu : n % 256 = nb.toNat := by rw [<- hnb, u8_of]
 have hl0 : inE N 0 = [78, nb] := by unfold inE; rw [hNl, hn, hnb]; rfl
 rw [hn] at hx h2 h8 hle hNl
 have Hn := zhI hn
 have HN := zhI hN
 have HNl := zhI hNl
 have Hl0 := zhI hl0
 have Hu : Hid ((nb.toNat : Int) = (n : Int)) := zhI (by omega)
 have cX := hx.cell
 have lX := hx.lt
 unfold nodeC at cX hx
 have Hpt := zhI hpt
 rw [HN.out]
 clear hl0 hn hnb hu hN hNl hem hpt hok h hk
 go_enter Tryz.func119, Tryz.ntmps119
 go_wp2
 clear cX lX
 go_loopw [6, 53] (fun v i wr => ∃ k : Nat, k <= n /\ i = .int .i64 k /\ wr.ownsRow w.heap.size 5 1 v (inE N k).length (bytesV (inE N k)) /\ Below w.heap.size w wr) (fun _ i _ => n - (intOf i).toNat)
 case atStart =>
  refine ⟨0, by omega, rfl, ?_, Below.one _ _⟩
  rw [Hl0.out, show bytesV [78, nb] = [.int .u8 78, .int .u8 (n : Int)] by simp [bytesV, Hu.out]]
  exact ⟨by simp, .inr ⟨w.heap.size, 2, #[.int .u8 78, .int .u8 (n : Int)], rfl, Nat.le_refl _, heap_alloc_new w _, by simp, by simp [maxLen], by simp, by simp⟩⟩
 case round =>
  obtain ⟨k, hk, rfl, hown, hB⟩ := hrel
  have hz := hB.size
  have hx2 := hx.belowAll hB
  have hlen := inE_len (kids := N) (by rw [HNl.out]; exact h8)
  by_cases hlt : k < n
  .
   have hlk : k < kids.length := by rw [Hn.out]; exact hlt
   have hlN : k < N.length := by rw [HNl.out]; exact hlt
   have d0 : wr.cell? ⟨g, k, none⟩ = some (.pointer (some ⟨kids[k].b, 0, none⟩)) := by rw [hB.cell hgl]; exact Hpt.out k hlk
   have hcl := (hc _ (List.getElem_mem hlk)).hx
   have hcb : kids[k].b < w.heap.size := hcl.lt
   have hpg : kids[k].page = N[k].page := by
    have : N[k] = kids[k].nd := by simp only [<- HN.out, List.getElem_map]
    rw [this, AT.nd_page]
   have hp0 := (hNk _ (List.getElem_mem hlN)).2.2.1
   have hl1 := hlen k
   have Hs := zhI (inE_succ hlN)
   have yc : Bx wr kids[k].b (nodeC kids[k].kids.isEmpty kids[k].pv kids[k].kv kids[k].page) 129 := hcl.belowAll hB
   rw [hpg] at yc
   have hcp : wr.cell? ⟨kids[k].b, 3, none⟩ = some (.int .i64 N[k].page) := by rw [yc.cell]; rfl
   obtain ⟨cb, hcbe⟩ : ∃ x, kids[k].b = x := ⟨_, rfl⟩
   obtain ⟨pg, hpge⟩ : ∃ x, N[k].page = x := ⟨_, rfl⟩
   have lC := yc.lt
   rw [hpge] at hcp hp0 Hs
   rw [hcbe] at d0 hcp lC
   obtain ⟨L, hL⟩ : ∃ L, inE N k = L := ⟨_, rfl⟩
   rw [hL] at hown hl1 Hs
   clear hL hpge hcbe hpg hcl hcb yc
   have hgr : g < wr.heap.size := by omega
   go_upto_region 13 with fail
   have cQ := Lat.cells wr
   obtain ⟨c1, hc1⟩ : ∃ c : UInt8, UInt8.ofNat (pg / 256).toNat = c := ⟨_, rfl⟩
   obtain ⟨c2, hc2⟩ : ∃ c : UInt8, UInt8.ofNat pg.toNat = c := ⟨_, rfl⟩
   have e1 : pg / 256 % 256 = (c1.toNat : Int) := by rw [<- hc1, u8_of]; omega
   have e2 : pg % 256 = (c2.toNat : Int) := by rw [<- hc2, u8_of]; omega
   have hpb : pageB pg = [c1, c2] := by unfold pageB; rw [hc1, hc2]
   rw [hpb] at Hs
   have HB := zhI hB
   have Ho := zhI hown
   clear hc1 hc2 hpb hB hown hx2
   refine wp_region_lz 13 2 #[true, true, true, true, true, true, true, true, true, true, true, true, true, false, false] (fun i => if i = 2 \/ i = 8 then some (annK (.pointer (some ⟨cb, 0, none⟩))) else if i = 12 then some (annBl2 (.int .u8 (c1.toNat : Int)) (.int .u8 (c2.toNat : Int)) 5) else none) (by kernel_rfl) (by rfl) (by rfl) (by kernel_rfl) ?_
   simp only [List.take_succ_cons, List.take_zero]
   refine LW.block 2 2 (by rfl) (by kernel_rfl) (by kernel_rfl) ?_
   simp only [ztP]
   repeat (first | go_big_quiet_skip | (go_big_quiet_want; go_big_quiet_op; go_big_quiet_on))
   refine wpQuiet_nil ?_
   refine LW.lzy _ (by rfl) (by rfl) ?_ ?_
   .
    intro yL _
    exact lz_value ((by rfl))
   intro _
   simp only [Act.put, zsP]
   (try simp only [annK])
   refine LW.block 5 8 (by rfl) (by kernel_rfl) (by kernel_rfl) ?_
   simp only [ztP]
   repeat (first | go_big_quiet_skip | (go_big_quiet_want; go_big_quiet_op; go_big_quiet_on))
   refine wpQuiet_nil ?_
   refine LW.lzy _ (by rfl) (by rfl) ?_ ?_
   .
    intro yL _
    exact lz_value ((by rfl))
   intro _
   simp only [Act.put, zsP]
   (try simp only [annK])
   refine LW.block 3 12 (by rfl) (by kernel_rfl) (by kernel_rfl) ?_
   simp only [ztP]
   repeat (first | go_big_quiet_skip | (go_big_quiet_want; go_big_quiet_op; go_big_quiet_on))
   refine wpQuiet_nil ?_
   refine LW.lzy _ (by rfl) (by rfl) ?_ ?_
   .
    intro yL _
    unfold lzAt
    go_simp
    exact ⟨Below.one _ _, fun _ => undef, rfl, fun w'' hb => (Bx.new yL.w _ _).belowAll hb⟩
   intro r12
   simp only [Act.put, zsP]
   refine LW.done ?_
   intro W8 hG
   have hx12 : Bx W8 r12.lo #[.int .u8 (c1.toNat : Int), .int .u8 (c2.toNat : Int)] 5 := hG.get 12 rfl rfl
   have hr12 := hG.range 12 r12 rfl
   have hb8 := hG.below
   obtain ⟨lo, hlo⟩ : ∃ x, r12.lo = x := ⟨_, rfl⟩
   have hB8 := Below.then HB.out hb8 hz
   have hown8 := ownsRow_belowAll Ho.out hb8
   have hz8 := hB8.size
   obtain ⟨i0, hi, hz0, hz1, hz2⟩ := info_parts infoU8
   have Hi := zhI (zaI hi (zaI hz0 (zaI hz1 hz2)))
   rw [hlo] at hx12
   simp only [annBl2, hlo]
   clear hG cQ hr12 hlo HB Ho hb8 hi hz0 hz1 hz2 d0 hcp lC
   refine wpAny_ready (rs := [13]) (by kernel_rfl) (by simp) ?_
   refine AllReady.cons rfl (fun K hK => ?_) AllReady.nil
   refine wp_app (.tmp 57) (.tmp 69) 139 rfl w.heap.size 5 i0 _ 1 1 Tryz.underlying139 Hi.out.1 Hi.out.2.1 Hi.out.2.2.1 Hi.out.2.2.2 rfl (by decide) u6 L.length (bytesV L) rfl hown8 (some ⟨lo, 0, none⟩) 2 2 (bytesV [c1, c2]) rfl (fun h => by cases h) rfl (RowAt.bx hx12) (bytesV_one _) (by unfold maxLen; omega) (by omega) hz8 ?_
   intro v5 w5 ho5 hg5
   refine hK _ _ ?_
   clear hK K
   have hB5 : Below w.heap.size w w5 := Below.grownOwn hB8 hown8 hg5 hz8
   have ho6 : w5.ownsRow w.heap.size 5 1 v5 (inE N (k + 1)).length (bytesV (inE N (k + 1))) := by rw [Hs.out, zlA, bytesV, List.map_append]; exact ho5
   clear ho5 hg5 hB8 hown8 hx12
   refine wpAny_ready (rs := [14]) (by kernel_rfl) (by simp) ?_
   refine AllReady.cons rfl (fun K hK => ?_) AllReady.nil
   go_simp
   refine hK _ _ ?_
   clear hK K
   refine wpAny_done (by kernel_rfl) ?_ _
   go_wp2
   go_roundw
   case rel => exact ⟨k + 1, by omega, by go_num, ho6, hB5⟩
   case measure => simp [intOf]; omega
  .
   obtain ⟨wo, rfl⟩ : ∃ wo, wo = wr := ⟨_, rfl⟩
   obtain rfl : k = n := by omega
   have hl1 := inF_len hNk (by rw [HNl.out]; exact h8)
   have hown0 : wo.ownsRow w.heap.size 5 1 u6 (inF N 0).length (bytesV (inF N 0)) := by rw [inF_zero, HNl.out]; exact hown
   have hck : ¬ c = 1 := by omega
   have hck2 : ¬ (c : Int) = 1 := by omega
   have Hown := zhI hown0
   have HB := zhI hB
   have cX := hx2.cell
   have lX := hx2.lt
   obtain ⟨m, hm⟩ : ∃ m, k = m + 1 := ⟨k - 1, by omega⟩
   have hsub : (k : Int) - 1 = (m : Int) := by omega
   have Hm := zhI hm
   clear hown hown0 hB hlen hm
   go_upto_region 16 with fail
   clear cX lX hx2
   go_loopw [6, 78] (fun v i wq => ∃ j : Nat, j <= m /\ i = .int .i64 j /\ wq.ownsRow w.heap.size 5 1 v (inF N j).length (bytesV (inF N j)) /\ Below w.heap.size w wq) (fun _ i _ => m - (intOf i).toNat)
   case atStart => exact ⟨0, by omega, rfl, Hown.out, HB.out⟩
   case round =>
    clear Hown HB
    obtain ⟨j, hj, rfl, hown, hB⟩ := hrel
    have hzq := hB.size
    by_cases hlt2 : j < m
    .
     have hlk : j + 1 < kids.length := by have := Hm.out; rw [Hn.out]; omega
     have hlN : j + 1 < N.length := by have := Hm.out; rw [HNl.out]; omega
     have hlt3 : j < N.tail.length := by have := Hm.out; rw [List.length_tail, HNl.out]; omega
     have d0 : wr.cell? ⟨g, 1 + j, none⟩ = some (.pointer (some ⟨kids[j + 1].b, 0, none⟩)) := by rw [hB.cell hgl, Nat.add_comm]; exact Hpt.out (j + 1) hlk
     have hN1 : N[j + 1] = kids[j + 1].nd := by simp only [<- HN.out, List.getElem_map]
     have hN2 : N.tail[j] = N[j + 1] := by simp
     have hko := hNk _ (List.getElem_mem hlN)
     have hle := bt_least base kids[j + 1] wr ((hc _ (List.getElem_mem hlk)).stays hB (Nat.le_refl _)) (by rw [<- hN1]; exact hko.1)
     have Hs := zhI (inF_succ hlt3)
     have hl2 := hl1 j
     rw [hN2] at Hs
     rw [<- hN1] at hle
     obtain ⟨sk, hsk⟩ : ∃ s, N[j + 1].least = s := ⟨_, rfl⟩
     have hks := hko.2.1
     rw [hsk] at hks hle Hs
     have htx := bt_text w.heap.size u6 (inF N j) sk wr hown hzq (by omega) (by omega)
     unfold AT.ptr at hle
     obtain ⟨cb, hcbe⟩ : ∃ x, kids[j + 1].b = x := ⟨_, rfl⟩
     rw [hcbe] at d0 hle
     have HB := zhI hB
     have Hle := zhI hle
     have Htx := zhI htx
     clear hle htx hown hB hN1 hN2 hko hsk hcbe hl2
     have hgr : g < wr.heap.size := by omega
     go_wp2_with fail
     refine Hle.out.mono ?_
     rintro e w2 ⟨rfl, rfl⟩
     go_wp2_with fail
     refine Htx.out.mono ?_
     rintro e w3 ⟨v3, rfl, hown3, hb3, -⟩
     have HR := zhI (zaI hown3 (HB.out.trans hb3))
     clear hown3 hb3 HB Hle Htx d0
     go_wp2
     go_roundw
     case rel => exact ⟨j + 1, by omega, by go_num, by rw [Hs.out]; exact HR.out.1, HR.out.2⟩
     case measure => simp [intOf]; omega
    .
     obtain rfl : j = m := by omega
     have hl2 := hl1 j
     have hjt : N.tail.length = j := by have := Hm.out; rw [List.length_tail, HNl.out]; omega
     rw [show inF N j = encIn N by rw [<- inF_all, hjt]] at hown hl2
     obtain ⟨o, c3, rfl, hs, hr, hob⟩ := ownsRow_at hown
     have hne : o ≠ none := by
      rintro rfl
      have := (hs.nil rfl).1
      simp [encIn] at this
     obtain ⟨ad, rfl⟩ := Option.ne_none_iff_exists'.1 hne
     obtain ⟨z, hz'⟩ : ∃ z, (encIn N).length = z := ⟨_, rfl⟩
     have hpad := bt_padded (encIn N) ad c3 wr (by omega) hr
     rw [hz'] at hpad |-
     have Hpad := zhI hpad
     clear hne hs hr hob hown hz' hpad hl1 hl2 hjt
     go_wp2_with fail
     refine Hpad.out.mono ?_
     rintro e w2 ⟨rfl, hb2⟩
     go_wp2
     go_ret
     exact ⟨rfl, Below.then hB hb2 hzq⟩
theorem bt_encode (base : Nat) (t : AT) (w : World) (h : Lies base w t) (hok : EncOk t.nd) :
  Calls Tryz.prog 119 #[t.ptr] w fun e w' => e = .returned (.string (bs (encD t.nd))) /\ Below w.heap.size w w' := by
 unfold encD encL
 rw [AT.nd_kids, AT.nd_ps]
 rcases hok with ⟨h1, h2, h3⟩ | ⟨h1, h2, h3⟩
 .
  rw [AT.nd_kids] at h1
  rw [AT.nd_ps] at h2 h3
  rw [if_pos h1]
  exact bt_encode_leaf base t w h (by simpa using h1) h2 h3
 .
  rw [AT.nd_kids, List.length_map] at h1 h2
  rw [if_neg (by intro e; rw [List.map_eq_nil_iff] at e; rw [e] at h1; simp at h1)]
  refine bt_encode_inner base t w h h1 h2 fun c hc => h3 _ ?_
  rw [AT.nd_kids]
  exact List.mem_map.2 ⟨c, hc, rfl⟩
def txtRes : Option (List UInt8 × List UInt8) -> Value
 | none => .tuple #[.string (bs []), .string (bs []), .bool false]
 | some (k, r) => .tuple #[.string (bs k), .string (bs r), .bool true]
theorem bs_get (L : List UInt8) (i : Nat) (_h : i < L.length) (h' : i < (bs L).size) : (bs L)[i] = L[i] := by
 show (bs L).data[i] = L[i]
 simp
set_option maxHeartbeats 2000000 in
theorem bt_readText (L : List UInt8) (w : World) (hl : L.length <= 1000000) :
  Calls Tryz.prog 177 #[.string (bs L)] w fun e w' => e = .returned (txtRes (textP L)) /\ Below w.heap.size w w' := by
 cases L with
 | nil =>
  go_enter Tryz.func177, Tryz.ntmps177
  go_wp2
  refine bodyPost_ret (v := .tuple #[.string (bs []), .string (bs []), .bool false]) (by simp [results, Tryz.results177, go_sem]) rfl ?_
  exact ⟨rfl, Below.refl _ _⟩
 | cons c r =>
  obtain ⟨s, hs⟩ : ∃ s, bs (c :: r) = s := ⟨_, rfl⟩
  have hz : s.size = r.length + 1 := by rw [<- hs, bs_size]; rfl
  have h0 : (h : 0 < s.size) -> s[0] = c := by subst hs; intro h; rw [bs_get _ _ (by simp)]; rfl
  have h0' := h0 (by omega)
  have hne : (s.toList == []) = false := by
   rw [beq_eq_false_iff_ne, ByteArray.toList_eq, <- hs, bs_list]; simp
  have hc := c.toNat_lt
  have Hs := zhI hs
  rw [hs]
  simp only [zlC] at hl
  cases g : decide (r.length < c.toNat)
  .
   have g' := of_decide_eq_false g
   have e1 : s.extract 1 (1 + c.toNat) = bs (r.take c.toNat) := by rw [<- hs, bs_cut]; simp
   have e2 : s.extract (1 + c.toNat) (r.length + 1) = bs (r.drop c.toNat) := by
    rw [<- hs, bs_cut]
    congr 1
    rw [List.take_of_length_le (by simp)]
    rw [Nat.add_comm, List.drop_succ_cons]
   have hres : txtRes (textP (c :: r)) = .tuple #[.string (bs (r.take c.toNat)), .string (bs (r.drop c.toNat)), .bool true] := by
    simp only [textP]; rw [if_neg (by omega)]; rfl
   rw [hres]
   have E1 := zhI e1
   have E2 := zhI e2
   clear hs h0 g e1 e2 hres
   obtain ⟨n, hn⟩ : ∃ n, c.toNat = n := ⟨_, rfl⟩
   have hc0 : (s[0]'(by omega)).toNat = n := by rw [h0']; exact hn
   rw [hn] at g' hc E1 E2 |-
   have q1 : ¬ (s.size : Int) < 1 + (n : Int) := by omega
   clear h0' hn
   go_enter Tryz.func177, Tryz.ntmps177
   go_wp2_with fail
   have cQ := Lat.cells w
   refine wp_region_lat (by kernel_rfl) (by kernel_rfl) ?_
   repeat (any_goals (first | go_big_quiet_skip | (go_big_quiet_want; go_big_quiet_op; first | go_big_quiet_on | go_big_quiet_call ((fail))) | quiet_step ((fail))))
   refine wpQuiet_nil ?_
   rintro W2 ⟨⟨_, hb2⟩, rfl⟩
   go_wp2
   refine bodyPost_ret (v := .tuple #[.string (s.extract 1 (1 + n)), .string (s.extract (1 + n) (r.length + 1)), .bool true]) (by simp [results, Tryz.results177, go_sem]) rfl ?_
   exact ⟨by rw [E1.out, E2.out], hb2⟩
  .
   have g' := of_decide_eq_true g
   have hres : txtRes (textP (c :: r)) = .tuple #[.string (bs []), .string (bs []), .bool false] := by
    simp only [textP]; rw [if_pos g']; rfl
   rw [hres]
   obtain ⟨n, hn⟩ : ∃ n, c.toNat = n := ⟨_, rfl⟩
   have hc0 : (s[0]'(by omega)).toNat = n := by rw [h0']; exact hn
   rw [hn] at g' hc
   clear hs h0 g hres h0' hn
   go_enter Tryz.func177, Tryz.ntmps177
   go_wp2
   refine bodyPost_ret (v := .tuple #[.string (bs []), .string (bs []), .bool false]) (by simp [results, Tryz.results177, go_sem]) rfl ?_
   exact ⟨rfl, Below.refl _ _⟩
theorem own_slice {w : World} {base k n : Nat} {e : TypeId} {v : Value} {xs : List Value} (h : w.ownsRow base e k v n xs) : ∃ o c, v = .slice o n c := by
 obtain ⟨o, c, e, _⟩ := ownsRow_at h
 exact ⟨o, c, e⟩
theorem infoPair : (Tryz.prog.info? 77).map (fun i => (i.zero, i.size, i.bytes)) = some (some (.agg #[.string .empty, .string .empty]), 2, 32) := by kernel_rfl
theorem textP_len {L k r : List UInt8} (h : textP L = some (k, r)) : k.length <= 255 /\ r.length < L.length := by
 cases L with
 | nil => cases h
 | cons c l =>
  simp only [textP] at h
  have hc := c.toNat_lt
  split at h
  .
   cases h
  .
   simp only [Option.some.injEq, Prod.mk.injEq] at h
   obtain ⟨rfl, rfl⟩ := h
   simp only [List.length_take, List.length_drop, zlC]
   omega
theorem leafP_none {n : Nat} {L : List UInt8} (hn : 0 < n) (h : pairP L = none) : leafP n L = none := by
 cases n with
 | zero => omega
 | succ n => rw [leafP, h]
theorem leafP_some {n : Nat} {L r : List UInt8} {x : Kv} (hn : 0 < n) (h : pairP L = some (x, r)) : leafP n L = (leafP (n - 1) r).map (x :: ·) := by
 cases n with
 | zero => omega
 | succ n => rw [leafP, h]; rfl
def LeafRes (o : Option (List Kv)) (w : World) (e : Ending) (w' : World) : Prop :=
 (match o with
 | none => e = .returned (.tuple #[.pointer none, .bool false])
 | some ps => ∃ pv, e = .returned (.tuple #[.pointer (some ⟨w.heap.size, 0, none⟩), .bool true]) /\ Lies w.heap.size w' (.mk w.heap.size pv (.slice none 0 0) ps [] 0)) /\ Below w.heap.size w w'
set_option maxHeartbeats 8000000 in
theorem bt_leaf (lp : Value) (L : List UInt8) (cnt : Nat) (w : World) (hl : L.length <= 1000000) (hc : cnt <= 1000) :
  Calls Tryz.prog 131 #[lp, .string (bs L), .int .i64 cnt] w (LeafRes (leafP cnt L) w) := by
 obtain ⟨ip, hip, hz0, hz1, hz2⟩ := info_parts infoPair
 have Hi := zhI (zaI hip (zaI hz0 (zaI hz1 hz2)))
 clear hip hz0 hz1 hz2
 obtain ⟨R, hR⟩ : ∃ R, LeafRes (leafP cnt L) w = R := ⟨_, rfl⟩
 rw [hR]
 have HR := zhI hR
 clear hR
 go_enter Tryz.func131, Tryz.ntmps131
 go_wp2
 go_loopw [1, 18] (fun s i wr => ∃ (k : Nat) (M : List UInt8) (ps : List Kv) (o : Option Addr) (c : Nat), k <= cnt /\ i = .int .i64 k /\ s = .string (bs M) /\ M.length <= 1000000 /\ Hid (leafP cnt L = (leafP (cnt - k) M).map (ps ++ ·) /\ ps.length = k) /\
  Bx wr w.heap.size (nodeC true (.slice o k c) (.slice none 0 0) 0) 129 /\ wr.ownsRow w.heap.size 77 2 (.slice o k c) k (kvsC ps) /\ Below w.heap.size w wr) (fun _ i _ => cnt - (intOf i).toNat)
 case atStart =>
  refine ⟨0, L, [], none, 0, by omega, rfl, rfl, hl, zhI ⟨?_, rfl⟩, Bx.new w _ _, World.ownsRow_nil _ _ _ _, Below.one _ _⟩
  simp
 case round =>
  obtain ⟨k, M, ps, o, c, hk, rfl, rfl, hM, H, x, hown, hB⟩ := hrel
  have hz := hB.size
  by_cases hlt : k < cnt
  .
   have hr1 := bt_readText M wr hM
   cases h1 : textP M with
   | none =>
    have HP : Hid (leafP cnt L = none) := zhI (by rw [H.out.1, leafP_none (by omega) (by unfold pairP; rw [h1])]; rfl)
    rw [h1] at hr1
    have hr2 := fun W => bt_readText [] W (by simp)
    simp only [txtRes, textP] at hr1 hr2
    clear h1 x hown H
    go_wp2_with fail
    refine hr1.mono ?_
    rintro e w1 ⟨rfl, hb1⟩
    go_wp2_with fail
    refine (hr2 _).mono ?_
    rintro e w2 ⟨rfl, hb2⟩
    have hB2 := Below.then hB (btr hb1 hb2) hz
    go_wp2
    rw [<- HR.out]
    unfold LeafRes
    rw [HP.out]
    exact ⟨rfl, hB2⟩
   | some p =>
    obtain ⟨ky, r⟩ := p
    obtain ⟨q1, q2⟩ := textP_len h1
    rw [h1] at hr1
    simp only [txtRes] at hr1
    have hr2 := fun W => bt_readText r W (by omega)
    obtain ⟨K, hK⟩ : ∃ K, bs ky = K := ⟨_, rfl⟩
    have hKz : K.size = ky.length := by rw [<- hK, bs_size]
    rw [hK] at hr1
    cases h2 : textP r with
    | none =>
     have HP : Hid (leafP cnt L = none) := zhI (by rw [H.out.1, leafP_none (by omega) (by unfold pairP; rw [h1]; simp only; rw [h2])]; rfl)
     rw [h2] at hr2
     simp only [txtRes] at hr2
     clear h1 h2 x hown H hK
     go_wp2_with fail
     refine hr1.mono ?_
     rintro e w1 ⟨rfl, hb1⟩
     go_wp2_with fail
     refine (hr2 _).mono ?_
     rintro e w2 ⟨rfl, hb2⟩
     have hB2 := Below.then hB (btr hb1 hb2) hz
     go_wp2
     rw [<- HR.out]
     unfold LeafRes
     rw [HP.out]
     exact ⟨rfl, hB2⟩
    | some p =>
     obtain ⟨vl, r2⟩ := p
     obtain ⟨q3, q4⟩ := textP_len h2
     rw [h2] at hr2
     simp only [txtRes] at hr2
     obtain ⟨V, hV⟩ : ∃ K, bs vl = K := ⟨_, rfl⟩
     have hVz : V.size = vl.length := by rw [<- hV, bs_size]
     rw [hV] at hr2
     cases g1 : decide (48 < ky.length)
     rotate_left
     .
      have g1' := of_decide_eq_true g1
      have HP : Hid (leafP cnt L = none) := zhI (by rw [H.out.1, leafP_none (by omega) (by unfold pairP; rw [h1]; simp only; rw [h2]; simp only; rw [if_pos (.inl g1')])]; rfl)
      clear h1 h2 x hown H hK hV
      go_wp2_with fail
      refine hr1.mono ?_
      rintro e w1 ⟨rfl, hb1⟩
      go_wp2_with fail
      refine (hr2 _).mono ?_
      rintro e w2 ⟨rfl, hb2⟩
      have hB2 := Below.then hB (btr hb1 hb2) hz
      go_wp2
      rw [<- HR.out]
      unfold LeafRes
      rw [HP.out]
      exact ⟨rfl, hB2⟩
     have g1' := of_decide_eq_false g1
     cases g2 : decide (80 < vl.length)
     rotate_left
     .
      have g2' := of_decide_eq_true g2
      have HP : Hid (leafP cnt L = none) := zhI (by rw [H.out.1, leafP_none (by omega) (by unfold pairP; rw [h1]; simp only; rw [h2]; simp only; rw [if_pos (.inr g2')])]; rfl)
      clear h1 h2 x hown H hK hV
      go_wp2_with fail
      refine hr1.mono ?_
      rintro e w1 ⟨rfl, hb1⟩
      go_wp2_with fail
      refine (hr2 _).mono ?_
      rintro e w2 ⟨rfl, hb2⟩
      have hB2 := Below.then hB (btr hb1 hb2) hz
      go_wp2
      rw [<- HR.out]
      unfold LeafRes
      rw [HP.out]
      exact ⟨rfl, hB2⟩
     have g2' := of_decide_eq_false g2
     have hpp : pairP M = some ((K, V), r2) := by
      unfold pairP; rw [h1]; simp only; rw [h2]; simp only; rw [if_neg (by omega), hK, hV]
     have HP : Hid (leafP cnt L = (leafP (cnt - (k + 1)) r2).map ((ps ++ [(K, V)]) ++ ·) /\ (ps ++ [(K, V)]).length = k + 1) := zhI ⟨by
      rw [H.out.1, leafP_some (by omega) hpp, show cnt - k - 1 = cnt - (k + 1) by omega, Option.map_map]
      congr 1
      funext y
      simp, by rw [zlA, H.out.2]; rfl⟩
     clear h1 h2 H hK hV hpp
     go_wp2_with fail
     refine hr1.mono ?_
     rintro e w1 ⟨rfl, hb1⟩
     go_wp2_with fail
     refine (hr2 _).mono ?_
     rintro e w2 ⟨rfl, hb2⟩
     have hb12 := btr hb1 hb2
     have hB2 := Below.then hB hb12 hz
     have x2 := x.belowAll hb12
     have hown2 := ownsRow_belowAll hown hb12
     have hz2 := hB2.size
     have cX := x2.cell
     have lX := x2.lt
     have fX := x2.free
     unfold nodeC at cX
     clear x hown hB hb1 hb2 hb12 hr1 hr2
     have H1c : Hid (∀ u ∈ [Value.string K, Value.string V], u.oneCell' = true) := zhI (by intro u hu; simp at hu; rcases hu with rfl | rfl <;> rfl)
     have HRW : Hid (RowAt (· = w2.heap.size) (w2.alloc (.cells #[.string K, .string V] 77)) (some ⟨w2.heap.size, 0, none⟩) [.string K, .string V]) := zhI (RowAt.bx (Bx.new w2 #[.string K, .string V] 77))
     have hown2a := hown2.alloc (.cells #[.string K, .string V] 77)
     have x2a := x2.alloc (.cells #[.string K, .string V] 77)
     go_wp2_with (at_builtin; refine wpList_app rfl _ _ 41 rfl w.heap.size 77 ip _ 2 32 Tryz.underlying41 Hi.out.1 Hi.out.2.1 Hi.out.2.2.1 Hi.out.2.2.2 rfl (by decide) (.slice o k c) k (kvsC ps) rfl hown2a (some ⟨w2.heap.size, 0, none⟩) 1 1 [.string K, .string V] rfl (by intro e; cases e) rfl HRW.out H1c.out (by unfold maxLen; omega) (by omega) (by simp; omega) ?_; intro v3 w3 hown3 hg3; obtain ⟨o3, c3, rfl⟩ := own_slice hown3; have x3 := x2a.grown hg3 (fun e => ownsRow_ne_bx hown2a x2a (by decide) e.symm); have cX3 := x3.cell; have fX3 := x3.free; have lX3 := x3.lt; unfold nodeC at cX3)
     go_roundw
     case rel =>
      refine ⟨k + 1, r2, ps ++ [(K, V)], o3, c3, by omega, by go_num, rfl, by omega, HP, ?_, ?_, ?_⟩
      .
       have := x3.set 1 (.slice o3 (k + 1) c3)
       unfold nodeC at this |-
       simpa using this
      .
       have e : kvsC (ps ++ [(K, V)]) = kvsC ps ++ [.string K, .string V] := by rw [kvsC_app]; rfl
       rw [e]
       exact ownsRow_set hown3 (a := ⟨w.heap.size, 1, none⟩) (ownsRow_ne_bx hown3 x3 (by decide)) _
      .
       exact below_set1 (Below.grownOwn (hB2.alloc hz2 _) hown2a hg3 (by simp; omega)) (Nat.le_refl _)
     case measure => simp [intOf]; omega
  .
   obtain rfl : k = cnt := by omega
   have hP : leafP k L = some ps := by
    rw [H.out.1, Nat.sub_self, leafP]
    simp
   have hlies : Lies w.heap.size wr (.mk w.heap.size (.slice o k c) (.slice none 0 0) ps [] 0) := by
    refine .mk _ _ _ _ _ _ (Nat.le_refl _) x ?_ ?_ (fun _ h => by cases h)
    .
     rw [H.out.2]; exact RowO.own hown
    .
     exact RowO.own (World.ownsRow_nil _ _ _ _)
   have HP := zhI hP
   have HL := zhI hlies
   clear hP hlies x hown
   go_wp2
   rw [<- HR.out]
   unfold LeafRes
   rw [HP.out]
   exact ⟨⟨_, rfl, HL.out⟩, hB⟩
theorem keyedInt : Maps.Keyed Tryz.prog 3 := Maps.int_keyed Tryz.underlying3
def PgOk (p : Int) : Prop := -9223372036854775808 <= p /\ p <= 9223372036854775807
theorem wf_pg {p : Int} (h : PgOk p) : (Lit.int .i64 p).wf = true := WalkArith.wf_i64 h
theorem keyI {p : Int} (h : PgOk p) : keyOf Tryz.prog 3 (.int .i64 p) = some (.int .i64 p) := Maps.keyOf_int_mk Tryz.underlying3 (wf_pg h)
def MapI (w : World) (b n : Nat) (l : List Int) : Prop :=
 ∃ D : DataW Unit, w.ownsMap Tryz.prog 3 (plainElem Tryz.prog 4) b n D /\ ∀ p, PgOk p -> D.atKey (.int .i64 p) (.lit (.bool false)) = .lit (.bool (decide (p ∈ l)))
theorem MapI.made (w : World) : MapI (w.alloc (.map #[] 0)) w.heap.size 0 [] := ⟨.map [], World.ownsMap_made _ _ _ _, fun _d _ => rfl⟩
theorem MapI.kept {w w' : World} {b n : Nat} {l : List Int} {row : Option Nat} (h : MapI w b n l) (hg : w.grownBy w' row) (hne : some b ≠ row) : MapI w' b n l := by
 obtain ⟨D, h1, h2⟩ := h
 exact ⟨D, h1.kept hg hne, h2⟩
theorem MapI.lt {w : World} {b n : Nat} {l : List Int} (h : MapI w b n l) : b < w.heap.size := by
 obtain ⟨D, h1, _⟩ := h
 exact h1.lt
theorem grownBy_below {B : Nat} {w w' : World} (h : Below B w w') (hB : w.heap.size <= B) (row : Option Nat) : w.grownBy w' row := ⟨h.os, h.tape, h.output, h.size, fun k hk _ => h.block k (znL hk hB)⟩
theorem MapI.below {w w' : World} {b n : Nat} {l : List Int} (h : MapI w b n l) (hb : Below w.heap.size w w') : MapI w' b n l := h.kept (grownBy_below hb (Nat.le_refl _) none) (by simp)
section
variable {ops : Array Oper} {rest : List Oper} {o : Oper} {a : Act} {Q : Exit -> Act -> World -> Prop} {w : World}
theorem wpList_putI (hg : o.guard = none) (m x v : Operand) (hop : o.op = Op.mapUpdate 119 m x v) {b n : Nat} {l : List Int} (hm : a.eval m = .map (some b)) (hown : MapI w b n l) (hn : n < maxLen)
  (p : Int) (hp : PgOk p) (hx : a.eval x = .int .i64 p) (hv : a.eval v = .bool true) (hK : ∀ w', MapI w' b (n + 1) (l ++ [p]) -> w.grownBy w' (some b) -> wpList Tryz.prog ops Q rest (a.put o.dst undef) w') : wpList Tryz.prog ops Q (o :: rest) a w := by
 obtain ⟨D, h1, h2⟩ := hown
 refine wpList_mapUpdate_own w hg m x v 119 hop 3 4 keyedInt Tryz.underlying119 _ b n D hm h1 hn (.int .i64 p) (.bool true) (.int .i64 p) hx hv (keyI hp) (.lit (.bool true)) [] (plainElem_bool Tryz.underlying4 true) fun w' ho hgr => hK w' ⟨_, ho, fun e he => ?_⟩ hgr
 by_cases hed : e = p
 .
  subst hed
  rw [Maps.atKey_put_same h1.isMap (keyedInt.key (keyI hp))]
  simp
 .
  rw [Maps.atKey_put_other (fun h => hed (by injection h)), h2 e he]
  simp [hed]
theorem zeroBoolB (w : World) : (zeroValue 4).run Tryz.prog w = .ok (.bool false) w := by kernel_rfl
theorem run_getI {b n : Nat} {l : List Int} (h : MapI w b n l) (p : Int) (hp : PgOk p) : (Instr.lookup 119 (.map (some b)) (.int .i64 p) false).run Tryz.prog w = .ok (.bool (decide (p ∈ l))) w := by
 obtain ⟨D, h1, h2⟩ := h
 obtain ⟨v, ps, hr, hv⟩ := h1.lookup keyedInt Tryz.underlying119 (zeroBoolB w) (plainElem_bool Tryz.underlying4 false) (keyI hp)
 rw [h2 p hp] at hv
 rw [hr]
 unfold plainElem at hv
 simp only [Tryz.underlying4] at hv
 cases v <;> simp at hv
 rw [hv.1]
end
theorem pairP_ok {L r : List UInt8} {x : Kv} (h : pairP L = some (x, r)) : KvOk x := by
 unfold pairP at h
 split at h
 .
  cases h
 .
  split at h
  .
   cases h
  .
   split at h
   .
    cases h
   .
    rename_i hn
    simp only [Option.some.injEq, Prod.mk.injEq] at h
    obtain ⟨rfl, rfl⟩ := h
    unfold KvOk
    simp only [bs_size]
    omega
theorem leafP_ok : ∀ {n : Nat} {L : List UInt8} {ps : List Kv}, leafP n L = some ps -> ps.length = n /\ ∀ p ∈ ps, KvOk p
 | 0, _, _, h => by
  simp only [leafP, Option.some.injEq] at h
  subst h
  exact ⟨rfl, fun _ h => by cases h⟩
 | n + 1, L, ps, h => by
  rw [leafP] at h
  split at h
  .
   cases h
  .
   rename_i x r hx
   obtain ⟨q, hq, rfl⟩ := Option.map_eq_some_iff.1 h
   obtain ⟨h1, h2⟩ := leafP_ok hq
   refine ⟨by rw [zlC, h1], fun p hp => ?_⟩
   rcases zmC.1 hp with rfl | hp
   .
    exact pairP_ok hx
   .
    exact h2 p hp
theorem kidsV_ok {g : Int -> List Int -> Option (Nd × Nat × List Int)} : ∀ {l : List Int} {o : Option Nat} {u u' : List Int} {ns : List Nd} {k : Nat}, kidsV g l o u = some (ns, k, u') ->
  ns.length = l.length /\ ∀ x ∈ ns, ∃ p u1 k1 u2, g p u1 = some (x, k1, u2)
 | [], _, _, _, _, _, h => by
  simp only [kidsV, Option.some.injEq, Prod.mk.injEq] at h
  obtain ⟨rfl, -, -⟩ := h
  exact ⟨rfl, fun _ h => by cases h⟩
 | p :: r, o, u, u', ns, k, h => by
  rw [kidsV] at h
  split at h
  .
   cases h
  .
   rename_i n k1 u1 hg
   split at h
   .
    cases h
   .
    obtain ⟨⟨m, k2, u2⟩, hm, e⟩ := Option.map_eq_some_iff.1 h
    simp only [Prod.mk.injEq] at e
    obtain ⟨rfl, rfl, rfl⟩ := e
    obtain ⟨h1, h2⟩ := kidsV_ok hm
    refine ⟨by rw [zlC, zlC, h1], fun x hx => ?_⟩
    rcases zmC.1 hx with rfl | hx
    .
     exact ⟨p, u, k1, u1, hg⟩
    .
     exact h2 x hx
def GoodN (frm til : Int) (n : Nd) : Prop := n.first = true /\ n.least.size <= 48 /\ frm + 2 <= n.page /\ n.page < til /\ EncOk n
theorem first_leaf {ps : List Kv} {pg : Int} (h : 0 < ps.length) : (Nd.mk ps [] pg).first = true := by
 rw [Nd.first]
 cases ps with
 | nil => simp at h
 | cons => rfl
theorem least_leaf {ps : List Kv} {pg : Int} (h : ∀ p ∈ ps, KvOk p) : (Nd.mk ps [] pg).least.size <= 48 := by
 rw [Nd.least]
 cases ps with
 | nil => exact Nat.zero_le _
 | cons x l => exact (h x (by simp)).1
theorem loadP_ok {d : Dsk} {frm til : Int} (h0 : 0 <= frm) (h1 : til <= 1000000) : ∀ (f : Nat) {root : Bool} {page : Int} {used u : List Int} {n : Nd} {k : Nat}, loadP d frm til f root page used = some (n, k, u) -> GoodN frm til n /\ n.page = page
 | 0, _, _, _, _, _, _, h => by cases h
 | f + 1, root, page, used, u, n, k, h => by
  rw [loadP] at h
  split at h
  .
   cases h
  .
   rename_i hp
   split at h
   .
    split at h
    .
     cases h
    .
     rename_i hc
     split at h
     .
      cases h
     .
      rename_i ps hps
      split at h
      .
       simp only [Option.some.injEq, Prod.mk.injEq] at h
       obtain ⟨rfl, -, -⟩ := h
       obtain ⟨e1, e2⟩ := leafP_ok hps
       refine ⟨⟨first_leaf (by omega), least_leaf e2, by show frm + 2 <= page; omega, by show page < til; omega, .inl ⟨rfl, by show ps.length <= 3; omega, e2⟩⟩, rfl⟩
      .
       cases h
   .
    split at h
    .
     cases h
    .
     rename_i hc
     split at h
     .
      cases h
     .
      rename_i kids k1 u1 hk
      split at h
      .
       simp only [Option.some.injEq, Prod.mk.injEq] at h
       obtain ⟨rfl, -, -⟩ := h
       obtain ⟨e1, e2⟩ := kidsV_ok hk
       have hlen : kids.length = ((pageL d page).getD 1 0).toNat := by rw [e1]; simp [kidPgs]
       have hgood : ∀ x ∈ kids, GoodN frm til x := fun x hx => by
        obtain ⟨p, u2, k2, u3, hg⟩ := e2 x hx
        exact (loadP_ok h0 h1 f hg).1
       have henc : EncOk (Nd.mk [] kids page) := .inr ⟨by show 2 <= kids.length; omega, by show kids.length <= 8; omega, fun x hx => by
        obtain ⟨g1, g2, g3, g4, _⟩ := hgood x hx
        exact ⟨g1, g2, by omega, by omega⟩⟩
       refine ⟨⟨?_, ?_, by show frm + 2 <= page; omega, by show page < til; omega, henc⟩, rfl⟩
       .
        cases kids with
        | nil => rw [List.length_nil] at hlen; omega
        | cons c r => rw [Nd.first]; exact (hgood c (by simp)).1
       .
        cases kids with
        | nil => rw [List.length_nil] at hlen; omega
        | cons c r => rw [Nd.least]; exact (hgood c (by simp)).2.1
      .
       cases h
theorem nodup_len : ∀ (n : Nat) (l : List Int) (a : Int), l.Nodup -> (∀ x ∈ l, a <= x /\ x < a + n) -> l.length <= n
 | 0, [], _, _, _ => Nat.le_refl _
 | 0, x :: l, a, _, h => by have := h x (by simp); omega
 | n + 1, l, a, hn, h => by
  have h1 := nodup_len n (l.erase (a + n)) a (hn.erase _) fun x hx => by
   have h2 := h x (List.mem_of_mem_erase hx)
   have h3 : x ≠ a + n := fun e => by subst e; exact (List.Nodup.not_mem_erase hn) hx
   omega
  have h4 := List.length_erase (l := l) (a := a + (n : Int))
  split at h4 <;> omega
def UsedOk (frm til : Int) (u : List Int) : Prop := u.Nodup /\ ∀ p ∈ u, frm + 2 <= p /\ p < til
theorem UsedOk.len {frm til : Int} {u : List Int} (h : UsedOk frm til u) (hf : frm + 2 <= til) : u.length <= (til - frm - 2).toNat :=
 nodup_len _ u (frm + 2) h.1 fun x hx => by have := h.2 x hx; omega
theorem UsedOk.snoc {frm til page : Int} {u : List Int} (h : UsedOk frm til u) (h1 : frm + 2 <= page) (h2 : page < til) (h3 : page ∉ u) : UsedOk frm til (u ++ [page]) := by
 refine ⟨?_, fun p hp => ?_⟩
 .
  rw [List.nodup_append]
  exact ⟨h.1, by simp, fun x hx y hy e => by simp at hy; subst hy; subst e; exact h3 hx⟩
 .
  rcases zmA.1 hp with hp | hp
  .
   exact h.2 p hp
  .
   simp at hp; subst hp; exact ⟨h1, h2⟩
theorem kidsV_used {frm til : Int} {g : Int -> List Int -> Option (Nd × Nat × List Int)} (hg : ∀ p u n k u', g p u = some (n, k, u') -> UsedOk frm til u -> UsedOk frm til u' /\ u.length <= u'.length) :
  ∀ {l : List Int} {o : Option Nat} {u u' : List Int} {ns : List Nd} {k : Nat}, kidsV g l o u = some (ns, k, u') -> UsedOk frm til u -> UsedOk frm til u' /\ u.length <= u'.length
 | [], _, _, _, _, _, h, hu => by
  simp only [kidsV, Option.some.injEq, Prod.mk.injEq] at h
  obtain ⟨-, -, rfl⟩ := h
  exact ⟨hu, Nat.le_refl _⟩
 | p :: r, o, u, u', ns, k, h, hu => by
  rw [kidsV] at h
  split at h
  .
   cases h
  .
   rename_i n k1 u1 hx
   split at h
   .
    cases h
   .
    obtain ⟨⟨m, k2, u2⟩, hm, e⟩ := Option.map_eq_some_iff.1 h
    simp only [Prod.mk.injEq] at e
    obtain ⟨rfl, rfl, rfl⟩ := e
    obtain ⟨a1, a2⟩ := hg _ _ _ _ _ hx hu
    obtain ⟨b1, b2⟩ := kidsV_used hg hm a1
    exact ⟨b1, by omega⟩
theorem loadP_used {d : Dsk} {frm til : Int} : ∀ (f : Nat) {root : Bool} {page : Int} {used u : List Int} {n : Nd} {k : Nat}, loadP d frm til f root page used = some (n, k, u) -> UsedOk frm til used -> UsedOk frm til u /\ used.length < u.length
 | 0, _, _, _, _, _, _, h, _ => by cases h
 | f + 1, root, page, used, u, n, k, h, hu => by
  rw [loadP] at h
  split at h
  .
   cases h
  .
   rename_i hp
   have hu2 := hu.snoc (page := page) (by omega) (by omega) fun hm => hp (.inr (.inr hm))
   split at h
   .
    split at h
    .
     cases h
    .
     split at h
     .
      cases h
     .
      split at h
      .
       simp only [Option.some.injEq, Prod.mk.injEq] at h
       obtain ⟨-, -, rfl⟩ := h
       exact ⟨hu2, by simp⟩
      .
       cases h
   .
    split at h
    .
     cases h
    .
     split at h
     .
      cases h
     .
      rename_i kids k1 u1 hk
      split at h
      .
       simp only [Option.some.injEq, Prod.mk.injEq] at h
       obtain ⟨-, -, rfl⟩ := h
       obtain ⟨a1, a2⟩ := kidsV_used (fun p u n k u' hg hu' => by
        have := loadP_used f hg hu'
        exact ⟨this.1, by omega⟩) hk hu2
       refine ⟨a1, ?_⟩
       rw [zlA] at a2
       simp at a2
       omega
      .
       cases h
theorem kidsV_dep {m : Nat} {g : Int -> List Int -> Option (Nd × Nat × List Int)} (hg : ∀ p u n k u', g p u = some (n, k, u') -> k <= m) :
  ∀ {l : List Int} {o : Option Nat} {u u' : List Int} {ns : List Nd} {k : Nat}, kidsV g l o u = some (ns, k, u') -> o.getD 0 <= m -> k <= m
 | [], _, _, _, _, _, h, ho => by
  simp only [kidsV, Option.some.injEq, Prod.mk.injEq] at h
  obtain ⟨-, rfl, -⟩ := h
  exact ho
 | p :: r, o, u, u', ns, k, h, ho => by
  rw [kidsV] at h
  split at h
  .
   cases h
  .
   rename_i n k1 u1 hx
   split at h
   .
    cases h
   .
    obtain ⟨⟨m', k2, u2⟩, hm, e⟩ := Option.map_eq_some_iff.1 h
    simp only [Prod.mk.injEq] at e
    obtain ⟨rfl, rfl, rfl⟩ := e
    exact kidsV_dep hg hm (by simpa using hg _ _ _ _ _ hx)
theorem loadP_dep {d : Dsk} {frm til : Int} : ∀ (f : Nat) {root : Bool} {page : Int} {used u : List Int} {n : Nd} {k : Nat}, loadP d frm til f root page used = some (n, k, u) -> k <= f
 | 0, _, _, _, _, _, _, h => by cases h
 | f + 1, root, page, used, u, n, k, h => by
  rw [loadP] at h
  split at h
  .
   cases h
  .
   split at h
   .
    split at h
    .
     cases h
    .
     split at h
     .
      cases h
     .
      split at h
      .
       simp only [Option.some.injEq, Prod.mk.injEq] at h
       omega
      .
       cases h
   .
    split at h
    .
     cases h
    .
     split at h
     .
      cases h
     .
      rename_i kids k1 u1 hk
      split at h
      .
       simp only [Option.some.injEq, Prod.mk.injEq] at h
       have := kidsV_dep (fun p u n k u' hg => loadP_dep f hg) hk (Nat.zero_le _)
       omega
      .
       cases h
end Go.Proofs.YtlefmmhlpgmbjaaGreat
