/- Memory, in general: rows of cells that can be read, appending to a row of the call's own from any source, and how such rows read afterwards. No function of the program is named here. The data of layer 40 as plain Lean, how they lie in memory, and what the functions of the layer compute. No function of the program is named here. What the other functions of layer 40 compute, as plain Lean; the shapes of their posts. What the functions of layer 41 (pagelog) compute, as plain Lean: numbers of 8 bytes, headers, streams of records, logs. No function of the program is named here. The two functions Check of layer 40: each returns 'chk' of the disk, for every disk. Contracts of taken, share, power, operate, content and the reference's Read (layer 40). -/
import Derived.Test.YtlefmmhlpgmbjaaGreatRows
import Derived.WalkKit
import Derived.Lib.Hide
import Derived.Deep.Draws
import Derived.Laws.CopyOwn
import Derived.Lib.ItoaNum
import Derived.BigQuiet
import Derived.Deep.QuietTactic
namespace Go.Proofs.YtlefmmhlpgmbjaaGreat
open Go.RowKit
theorem zsP {α : Type _} : (∀ (l : List α) (i : Nat) (a : α), l.toArray.setIfInBounds i a = (l.set i a).toArray) /\ (∀ (x : α) (l : List α) (a : α), (x :: l).set 0 a = a :: l) /\ ∀ (x : α) (l : List α) (n : Nat) (a : α), (x :: l).set (n + 1) a = x :: l.set n a := ⟨fun _ _ _ => List.setIfInBounds_toArray .., fun _ _ _ => List.set_cons_zero, fun _ _ _ _ => List.set_cons_succ⟩
theorem ztP {α : Type _} : (∀ (n : Nat) (x : α) (l : List α), (x :: l).take (n + 1) = x :: l.take n) /\ (∀ l : List α, l.take 0 = []) /\ (∀ (n : Nat) (x : α) (l : List α), (x :: l).drop (n + 1) = l.drop n) /\ ∀ l : List α, l.drop 0 = l := ⟨fun _ _ _ => List.take_succ_cons, fun _ => List.take_zero, fun _ _ _ => List.drop_succ_cons, fun _ => List.drop_zero⟩
theorem zgP {α : Type _} : (∀ (l : List α) (i : Nat) (h : i < l.toArray.size), l.toArray[i] = l[i]'(by simpa using h)) /\ (∀ (x : α) (l : List α) (i : Nat) (h : i + 1 < (x :: l).length), (x :: l)[i + 1] = l[i]'(Nat.lt_of_succ_lt_succ h)) /\ ∀ (x : α) (l : List α) (h : 0 < (x :: l).length), (x :: l)[0] = x := ⟨fun _ _ _ => List.getElem_toArray _, fun _ _ _ _ => List.getElem_cons_succ .., fun _ _ _ => List.getElem_cons_zero ..⟩
theorem zhI {p : Prop} (h : p) : Hid p := Lib.hid h
theorem zaI {p q : Prop} (h : p) (k : q) : p /\ q := ⟨h, k⟩
theorem znL {a b c : Nat} (h : a < b) (k : b <= c) : a < c := Nat.lt_of_lt_of_le h k
theorem znT {a b c : Nat} (h : a <= b) (k : b <= c) : a <= c := Nat.le_trans h k
theorem zlA {α : Type _} {l m : List α} : (l ++ m).length = l.length + m.length := List.length_append
theorem zlC {α : Type _} {x : α} {l : List α} : (x :: l).length = l.length + 1 := List.length_cons
theorem zmA {α : Type _} {x : α} {l m : List α} : x ∈ l ++ m ↔ x ∈ l \/ x ∈ m := List.mem_append
theorem zmC {α : Type _} {x y : α} {l : List α} : x ∈ y :: l ↔ x = y \/ x ∈ l := List.mem_cons
theorem zmS {α : Type _} {x y : α} : x ∈ [y] ↔ x = y := List.mem_singleton
end Go.Proofs.YtlefmmhlpgmbjaaGreat
namespace Go.Proofs.YtlefmmhlpgmbjaaGreat
set_option maxRecDepth 100000
open Go.RowKit
set_option maxHeartbeats 400000 in
theorem Below.drewN {B : Nat} {w w' : World} (h : Below B w w') (n : Nat) : Below B w (w'.drewN n) := ⟨h.os, h.tape, h.output, h.size, h.block⟩
theorem bcell {B : Nat} {W w1 : World} (hb : Below B W w1) : (∀ b o, b < B -> w1.cell? ⟨b, o, none⟩ = W.cell? ⟨b, o, none⟩) /\ (∀ b o, b < B -> w1.frozen? ⟨b, o, none⟩ = W.frozen? ⟨b, o, none⟩) :=
 ⟨fun b o h => hb.cell (p := ⟨b, o, none⟩) h, fun b o h => hb.frozen (p := ⟨b, o, none⟩) h⟩
def SlW (o : Option Addr) (n c : Nat) : Prop := (o = none /\ n = 0 /\ c = 0) \/ (∃ a, o = some a /\ n <= c /\ c <= maxLen)
theorem SlW.nil {o : Option Addr} {n c : Nat} (h : SlW o n c) : o = none -> n = 0 /\ c = 0 := by
 intro e;rcases h with ⟨_, h⟩ | ⟨a, h, _⟩
 . exact h
 . rw [e] at h; cases h
def InS (S : Nat -> Prop) (w : World) : Prop := ∀ b, S b -> b < w.heap.size
def Gr (S : Nat -> Prop) (w w' : World) (b : Nat) : Prop := S b \/ (w.heap.size <= b /\ b < w'.heap.size)
theorem Gr.new {S : Nat -> Prop} {w w' : World} {b : Nat} (h : w.heap.size <= b) (h' : b < w'.heap.size) : Gr S w w' b := .inr ⟨h, h'⟩
theorem InS.gr {S : Nat -> Prop} {w w' : World} {B : Nat} (h : InS S w) (hb : Below B w w') : InS (Gr S w w') w' := by
 rintro b (hs | hs)
 . exact znL (h b hs) hb.size
 . exact hs.2
def Same (S : Nat -> Prop) (w w' : World) : Prop := ∀ b, S b -> w'.heap[b]? = w.heap[b]?
theorem Same.refl (S : Nat -> Prop) (w : World) : Same S w w := fun _ _ => rfl
theorem Same.set {S : Nat -> Prop} {w w' : World} (h : Same S w w') {a : Addr} (ha : ¬ S a.block) (v : Value) : Same S w (w'.setCell a v) := fun b hb => (Below.heap_setCell w' a v b (fun e => ha (e ▸ hb))).trans (h b hb)
theorem Same.of_below {S : Nat -> Prop} {w w' : World} {B : Nat} (h : Below B w w') (hS : ∀ b, S b -> b < B) : Same S w w' := fun b hb => h.block b (hS b hb)
theorem Same.cell {S : Nat -> Prop} {w w' : World} (h : Same S w w') {p : Addr} (hp : S p.block) : w'.cell? p = w.cell? p := World.cell?_of_block (w := w) (h p.block hp)
def RowAt (S : Nat -> Prop) (w : World) (o : Option Addr) (l : List Value) : Prop :=
 ∀ j (h : j < l.length), ∃ b off, o = some ⟨b, off, none⟩ /\ w.cell? ⟨b, off + j, none⟩ = some l[j] /\ S b
theorem RowAt.below {S : Nat -> Prop} {w w' : World} {o : Option Addr} {l : List Value} (h : RowAt S w o l) (hb : Below w.heap.size w w') : RowAt S w' o l := by
 intro i hi;obtain ⟨b, off, ho, hc, hs⟩ := h i hi;exact ⟨b, off, ho, by rw [hb.cell (World.block_lt_of_cell? w _ hc)]; exact hc, hs⟩
theorem RowAt.same {S : Nat -> Prop} {w w' : World} {o : Option Addr} {l : List Value} (h : RowAt S w o l) (hb : Same S w w') : RowAt S w' o l := by
 intro i hi;obtain ⟨b, off, ho, hc, hs⟩ := h i hi;exact ⟨b, off, ho, by rw [hb.cell hs]; exact hc, hs⟩
theorem RowAt.mono {S T : Nat -> Prop} {w : World} {o : Option Addr} {l : List Value} (h : RowAt S w o l) (hT : ∀ b, S b -> T b) : RowAt T w o l := by
 intro i hi;obtain ⟨b, off, ho, hc, hs⟩ := h i hi;exact ⟨b, off, ho, hc, hT b hs⟩
theorem RowAt.nil (S : Nat -> Prop) (w : World) (o : Option Addr) : RowAt S w o [] := by intro j h; exact absurd h (by simp)
theorem RowAt.src {S : Nat -> Prop} {w : World} {o : Option Addr} {l : List Value} (h : RowAt S w o l) : ∀ ad, o = some ad -> ∀ j u, l[j]? = some u -> w.cell? (ad.add j) = some u := by
 intro ad e j u hu;obtain ⟨hj, rfl⟩ := List.getElem?_eq_some_iff.1 hu;obtain ⟨b, off, e', hc, _⟩ := h j hj;rw [e] at e';obtain rfl := Option.some.inj e';rw [Addr.add_lit];exact hc
theorem RowAt.cut {S : Nat -> Prop} {w : World} {b off : Nat} {l : List Value} (h : RowAt S w (some ⟨b, off, none⟩) l) (k m : Nat) : RowAt S w (some ⟨b, off + k, none⟩) ((l.drop k).take m) := by
 intro j hj;have hj' : k + j < l.length := by simp at hj; omega
 obtain ⟨b', off', e, hc, hs⟩ := h (k + j) hj';obtain ⟨rfl, rfl⟩ : b = b' /\ off = off' := by simpa using e
 exact ⟨b, off + k, rfl, by rw [Nat.add_assoc]; simpa using hc, hs⟩
theorem zai {w : World} {base : Nat} {e : TypeId} {size : Nat} {v : Value} {n : Nat} {xs : List Value} (h : w.ownsRow base e size v n xs) :
  ∃ o c, v = .slice o n c /\ SlW o n c /\ RowAt (fun b => base <= b /\ b < w.heap.size) w o xs /\ (Value.slice o n c).ownBlock = v.ownBlock := by
 rcases h.2 with ⟨rfl, rfl⟩ | ⟨g, cap, cur, rfl, hb, hg, h1, h2, h3, h4⟩
 . have hx : xs = [] := List.eq_nil_of_length_eq_zero (by simpa using h.1);subst hx;exact ⟨none, 0, rfl, .inl ⟨rfl, rfl, rfl⟩, RowAt.nil _ _ _, rfl⟩
 . refine ⟨some ⟨g, 0, none⟩, cap, rfl, .inr ⟨_, rfl, h1, h2⟩, ?_, rfl⟩;intro j hj;refine ⟨g, 0, rfl, ?_, hb, (Array.getElem?_eq_some_iff.1 hg).1⟩;have := h.cells (g := g) rfl j xs[j] (by simp [hj]);rw [Addr.add_lit] at this;exact this
theorem ownsRow_below {w w' : World} {B base : Nat} {e : TypeId} {size : Nat} {v : Value} {n : Nat} {xs : List Value} (h : w.ownsRow base e size v n xs) (hb : Below B w w') (hB : ∀ k, v.ownBlock = some k -> k < B) : w'.ownsRow base e size v n xs := by
 refine ⟨h.1, ?_⟩;rcases h.2 with hn | ⟨g, cap, cur, rfl, hbg, hg, rest⟩
 . exact .inl hn
 . refine .inr ⟨g, cap, cur, rfl, hbg, ?_, rest⟩;rw [hb.block g (hB g rfl)]; exact hg
theorem zae {w w' : World} {base : Nat} {e : TypeId} {size : Nat} {v : Value} {n : Nat} {xs : List Value} (h : w.ownsRow base e size v n xs) (hb : Below w.heap.size w w') : w'.ownsRow base e size v n xs :=
 ownsRow_below h hb fun k hk => (h.lt k hk).2
theorem zb2 (w : World) (base g : Nat) (e : TypeId) (size : Nat) (hg : g = w.heap.size) (hb : base <= g) : (w.alloc (.cells #[] e)).ownsRow base e size (.slice (some ⟨g, 0, none⟩) 0 0) 0 [] := by
 subst hg;exact World.ownsRow_made w #[] 0 hb (by simp [maxLen]) (by simp)
theorem zdJ {w w' : World} {row : Option Nat} {b o : Nat} {v : Value} (hg : w.grownBy w' row) (h : w.cell? ⟨b, o, none⟩ = some v) (hne : some b ≠ row) : w'.cell? ⟨b, o, none⟩ = some v := hg.cell h hne
def Bx (w : World) (b : Nat) (cs : Array Value) (t : TypeId) : Prop := w.heap[b]? = some (.cells cs t (0, 0))
theorem Bx.new (w : World) (cs : Array Value) (t : TypeId) : Bx (w.alloc (.cells cs t)) w.heap.size cs t := heap_alloc_new w _
theorem Bx.newAt (w : World) (cs : Array Value) (t : TypeId) (g : Nat) (hg : g = w.heap.size) : Bx (w.alloc (.cells cs t)) g cs t := hg ▸ Bx.new w cs t
theorem Bx.lt {w : World} {b : Nat} {cs : Array Value} {t : TypeId} (h : Bx w b cs t) : b < w.heap.size := (Array.getElem?_eq_some_iff.1 h).1
theorem Bx.alloc {w : World} {b : Nat} {cs : Array Value} {t : TypeId} (h : Bx w b cs t) (o : Obj) : Bx (w.alloc o) b cs t := (Below.heap_alloc w o b h.lt).trans h
theorem Bx.below {w w' : World} {B b : Nat} {cs : Array Value} {t : TypeId} (h : Bx w b cs t) (hb : Below B w w') (hB : b < B) : Bx w' b cs t := (hb.block b hB).trans h
theorem Bx.belowAll {w w' : World} {b : Nat} {cs : Array Value} {t : TypeId} (h : Bx w b cs t) (hb : Below w.heap.size w w') : Bx w' b cs t := h.below hb h.lt
theorem Bx.drew {w : World} {b : Nat} {cs : Array Value} {t : TypeId} (h : Bx w b cs t) : Bx w.drew b cs t := h
theorem Bx.drewN {w : World} {b : Nat} {cs : Array Value} {t : TypeId} (h : Bx w b cs t) (n : Nat) : Bx (w.drewN n) b cs t := h
theorem Bx.cell {w : World} {b : Nat} {cs : Array Value} {t : TypeId} (h : Bx w b cs t) (k : Nat) : w.cell? ⟨b, k, none⟩ = cs[k]? := by
 unfold Bx at h; simp [World.cell?, h]
theorem Bx.free {w : World} {b : Nat} {cs : Array Value} {t : TypeId} (h : Bx w b cs t) (k : Nat) : w.frozen? ⟨b, k, none⟩ = false := by
 unfold Bx at h; simp [World.frozen?, h]
theorem Bx.set {w : World} {b : Nat} {cs : Array Value} {t : TypeId} (h : Bx w b cs t) (k : Nat) (v : Value) : Bx (w.setCell ⟨b, k, none⟩ v) b (cs.setIfInBounds k v) t := heap_setCell_same w b k cs t v h
theorem Bx.setO {w : World} {b : Nat} {cs : Array Value} {t : TypeId} (h : Bx w b cs t) {a : Addr} (hne : b ≠ a.block) (v : Value) : Bx (w.setCell a v) b cs t := (Below.heap_setCell w a v b hne).trans h
theorem Bx.grown {w w' : World} {b : Nat} {cs : Array Value} {t : TypeId} {row : Option Nat} (h : Bx w b cs t) (hg : w.grownBy w' row) (hne : some b ≠ row) : Bx w' b cs t := (hg.block b h.lt hne).trans h
theorem RowAt.bx {w : World} {b : Nat} {cs : Array Value} {t : TypeId} (h : Bx w b cs t) : RowAt (· = b) w (some ⟨b, 0, none⟩) cs.toList := by
 intro j hj;exact ⟨b, 0, rfl, by rw [h.cell]; simp at hj; simp [hj], rfl⟩
theorem zac {w : World} {base : Nat} {e : TypeId} {size : Nat} {v : Value} {n : Nat} {xs : List Value} (h : w.ownsRow base e size v n xs) {a : Addr} (ha : v.ownBlock ≠ some a.block) (u : Value) : (w.setCell a u).ownsRow base e size v n xs := ownsRow_setCell_other h ha u
theorem Same.alloc {S : Nat -> Prop} {w w' : World} (h : Same S w w') (hS : InS S w') (o : Obj) : Same S w (w'.alloc o) := fun b hb => (Below.heap_alloc w' o b (hS b hb)).trans (h b hb)
theorem Same.grown {S : Nat -> Prop} {w w' w'' : World} {row : Option Nat} (h : Same S w w') (hg : w'.grownBy w'' row) (hS : InS S w') (hr : ∀ b, row = some b -> ¬ S b) : Same S w w'' :=
 fun b hb => (hg.block b (hS b hb) fun e => hr b e.symm hb).trans (h b hb)
theorem InS.size {S : Nat -> Prop} {w w' : World} (h : InS S w) (hz : w.heap.size <= w'.heap.size) : InS S w' := fun b hs => znL (h b hs) hz
theorem Same.set4 {S : Nat -> Prop} {w w' : World} {b : Nat} {v0 v1 v2 v3 : Value} (h : Same S w w') (hb : ¬ S b) :
  Same S w ((((w'.setCell ⟨b, 0, none⟩ v0).setCell ⟨b, 1, none⟩ v1).setCell ⟨b, 2, none⟩ v2).setCell ⟨b, 3, none⟩ v3) :=
 (((h.set (a := ⟨b, 0, none⟩) hb _).set (a := ⟨b, 1, none⟩) hb _).set (a := ⟨b, 2, none⟩) hb _).set (a := ⟨b, 3, none⟩) hb _
theorem Same.set1 {S : Nat -> Prop} {w w' : World} {b k : Nat} {v : Value} (h : Same S w w') (hb : ¬ S b) : Same S w (w'.setCell ⟨b, k, none⟩ v) := h.set (a := ⟨b, k, none⟩) hb _
theorem zaB {B : Nat} {w w' : World} {b : Nat} {v0 v1 v2 v3 : Value} (h : Below B w w') (hb : B <= b) :
  Below B w ((((w'.setCell ⟨b, 0, none⟩ v0).setCell ⟨b, 1, none⟩ v1).setCell ⟨b, 2, none⟩ v2).setCell ⟨b, 3, none⟩ v3) :=
 (((h.setCell (p := ⟨b, 0, none⟩) hb _).setCell (p := ⟨b, 1, none⟩) hb _).setCell (p := ⟨b, 2, none⟩) hb _).setCell (p := ⟨b, 3, none⟩) hb _
theorem zaa {B : Nat} {w w' : World} {b k : Nat} {v : Value} (h : Below B w w') (hb : B <= b) : Below B w (w'.setCell ⟨b, k, none⟩ v) := h.setCell (p := ⟨b, k, none⟩) hb _
theorem Bx.set4 {w : World} {b : Nat} {u0 u1 u2 u3 v0 v1 v2 v3 : Value} {t : TypeId} (h : Bx w b #[u0, u1, u2, u3] t) :
  Bx ((((w.setCell ⟨b, 0, none⟩ v0).setCell ⟨b, 1, none⟩ v1).setCell ⟨b, 2, none⟩ v2).setCell ⟨b, 3, none⟩ v3) b #[v0, v1, v2, v3] t := by
 simpa using (((h.set 0 v0).set 1 v1).set 2 v2).set 3 v3
theorem Bx.setO4 {w : World} {b b' : Nat} {cs : Array Value} {v0 v1 v2 v3 : Value} {t : TypeId} (h : Bx w b cs t) (hne : b ≠ b') :
  Bx ((((w.setCell ⟨b', 0, none⟩ v0).setCell ⟨b', 1, none⟩ v1).setCell ⟨b', 2, none⟩ v2).setCell ⟨b', 3, none⟩ v3) b cs t :=
 (((h.setO (a := ⟨b', 0, none⟩) hne _).setO (a := ⟨b', 1, none⟩) hne _).setO (a := ⟨b', 2, none⟩) hne _).setO (a := ⟨b', 3, none⟩) hne _
theorem zgQ {w : World} {base : Nat} {e : TypeId} {size : Nat} {v : Value} {n : Nat} {xs : List Value} (h : w.ownsRow base e size v n xs) {b k : Nat} (hb : b < base) (u : Value) : (w.setCell ⟨b, k, none⟩ u).ownsRow base e size v n xs :=
 ownsRow_setCell_below h (a := ⟨b, k, none⟩) hb u
theorem zab {w : World} {base b : Nat} {e t : TypeId} {size : Nat} {v : Value} {n : Nat} {xs : List Value} {cs : Array Value} (h : w.ownsRow base e size v n xs) (hb : Bx w b cs t) (hne : e ≠ t) : v.ownBlock ≠ some b := by
 intro hv;rcases h.2 with ⟨rfl, _⟩ | ⟨g, cap, cur, rfl, _, hg, _⟩
 . simp [Value.ownBlock] at hv
 . simp [Value.ownBlock] at hv;subst hv;unfold Bx at hb;rw [hg] at hb;simp at hb;exact hne hb.2
theorem Same.of_grown {S : Nat -> Prop} {w w' : World} {row : Option Nat} (hg : w.grownBy w' row) (hS : InS S w) (hr : ∀ b, row = some b -> ¬ S b) : Same S w w' :=
 fun b hb => hg.block b (hS b hb) fun e => hr b e.symm hb
section
variable {S : Nat -> Prop} {P : Program} {ops : Array Oper} {rest : List Oper} {o : Oper} {a : Act} {Q : Exit -> Act -> World -> Prop} {w : World}
theorem zke {K : Act -> World -> Prop} (s x : Operand) (t : TypeId)
  (hop : o.op = Op.call { callee := Callee.builtin Builtin.append, args := #[s, x], argTypes := #[t, t] })
  (base : Nat) (e : TypeId) (i : TypeInfo) (z : Value) (size bytes : Nat) (ht : P.underlying t = some (.slice e)) (hi : P.info? e = some i) (hz : i.zero = some z)
  (hsize : i.size = size) (hby : i.bytes = bytes) (hzs : z.cells.size = size) (hsz : 0 < size)
  (v : Value) (n : Nat) (xs : List Value) (hs : a.eval s = v) (hown : w.ownsRow base e size v n xs)
  (ao : Option Addr) (m c : Nat) (news : List Value) (hx : a.eval x = .slice ao m c) (hnone : ao = none -> m = 0 /\ c = 0) (hl : news.length = m * size) (hnews : RowAt S w ao news) (h1 : ∀ u ∈ news, u.oneCell' = true)
  (h63 : n + m <= maxLen) (hbytes : (n + m) * bytes <= 140737488355328) (hbase : base <= w.heap.size)
  (hK : ∀ v' w', w'.ownsRow base e size v' (n + m) (xs ++ news) -> w.grownBy w' v.ownBlock -> K (a.put o.dst v') w') :
  o.wp P a w K Q := by
 cases ao with
 | some ad => exact wp_append_own w s x t hop base e i z size bytes ht hi hz hsize hby hzs hsz v n xs hs hown ad m c news hx hl (hnews.src ad rfl) h1 h63 hbytes hbase fun v' w' h2 h3 _ => hK v' w' h2 h3
 | none => obtain ⟨rfl, rfl⟩ := hnone rfl;have hnews : news = [] := List.eq_nil_of_length_eq_zero (by simpa using hl);subst hnews;have hrun := run_append_owned_none (P := P) w base t o.type e i size ht hi v n xs hown;unfold Oper.wp;simp [execOp, hop, resolve, invoke, builtin, hs, hx, hrun, Result.andThen];exact hK _ _ (by simpa using hown) (World.grownBy.refl _ _)
theorem zlI {K : Act -> World -> Prop} {E : Prop} (hgd : o.guard = none) (s x : Operand) (t : TypeId)
  (hop : o.op = Op.call { callee := Callee.builtin Builtin.append, args := #[s, x], argTypes := #[t, t] })
  (base : Nat) (e : TypeId) (i : TypeInfo) (z : Value) (size bytes : Nat) (ht : P.underlying t = some (.slice e)) (hi : P.info? e = some i) (hz : i.zero = some z)
  (hsize : i.size = size) (hby : i.bytes = bytes) (hzs : z.cells.size = size) (hsz : 0 < size)
  (v : Value) (n : Nat) (xs : List Value) (hs : a.eval s = v) (hown : w.ownsRow base e size v n xs)
  (ao : Option Addr) (m c : Nat) (news : List Value) (hx : a.eval x = .slice ao m c) (hnone : ao = none -> m = 0 /\ c = 0) (hl : news.length = m * size) (hnews : RowAt S w ao news) (h1 : ∀ u ∈ news, u.oneCell' = true)
  (h63 : n + m <= maxLen) (hbytes : (n + m) * bytes <= 140737488355328) (hbase : base <= w.heap.size)
  (hK : ∀ v' w', w'.ownsRow base e size v' (n + m) (xs ++ news) -> w.grownBy w' v.ownBlock -> K (a.put o.dst v') w') :
  if Region.wanted o (yielded ops a.tmps) = true then Oper.wp P o a w K Q else E := by
 rw [if_pos (by simp [Region.wanted, hgd])];exact zke s x t hop base e i z size bytes ht hi hz hsize hby hzs hsz v n xs hs hown ao m c news hx hnone hl hnews h1 h63 hbytes hbase hK
theorem zau (hgd : o.guard = none) (s x : Operand) (t : TypeId)
  (hop : o.op = Op.call { callee := Callee.builtin Builtin.append, args := #[s, x], argTypes := #[t, t] })
  (base : Nat) (e : TypeId) (i : TypeInfo) (z : Value) (size bytes : Nat) (ht : P.underlying t = some (.slice e)) (hi : P.info? e = some i) (hz : i.zero = some z)
  (hsize : i.size = size) (hby : i.bytes = bytes) (hzs : z.cells.size = size) (hsz : 0 < size)
  (v : Value) (n : Nat) (xs : List Value) (hs : a.eval s = v) (hown : w.ownsRow base e size v n xs)
  (ao : Option Addr) (m c : Nat) (news : List Value) (hx : a.eval x = .slice ao m c) (hnone : ao = none -> m = 0 /\ c = 0) (hl : news.length = m * size) (hnews : RowAt S w ao news) (h1 : ∀ u ∈ news, u.oneCell' = true)
  (h63 : n + m <= maxLen) (hbytes : (n + m) * bytes <= 140737488355328) (hbase : base <= w.heap.size)
  (hK : ∀ v' w', w'.ownsRow base e size v' (n + m) (xs ++ news) -> w.grownBy w' v.ownBlock -> wpList P ops Q rest (a.put o.dst v') w') :
  wpList P ops Q (o :: rest) a w :=
 wpList_plain hgd fun _ hK' => zke s x t hop base e i z size bytes ht hi hz hsize hby hzs hsz v n xs hs hown ao m c news hx hnone hl hnews h1 h63 hbytes hbase fun v' w' h2 h3 => hK' _ _ (hK v' w' h2 h3)
def zam (l : List UInt8) : List Value := l.map fun u => Value.int .u8 (u.toNat : Int)
theorem zfm (l : List UInt8) : ∀ u ∈ zam l, u.oneCell' = true := by
 intro u hu;obtain ⟨_, _, rfl⟩ := List.mem_map.1 hu;rfl
theorem zex (l : List UInt8) : strOfNums (l.map fun u => (u.toNat : Int)) = ⟨l.toArray⟩ := by
 unfold strOfNums;congr 2;rw [List.map_map]
 conv => rhs; rw [<- List.map_id l]
 apply List.map_congr_left;intro u _;simp
theorem zbx (hgd : o.guard = none) (x : Operand) (src dst e : TypeId) (hop : o.op = .convert src dst x) (hs : P.underlying src = some (.slice e)) (he : P.underlying e = some (.int .u8)) (hd : P.underlying dst = some .string)
  (ao : Option Addr) (n c : Nat) (l : List UInt8) (hx : a.eval x = .slice ao n c) (hn : l.length = n) (hrow : RowAt S w ao (zam l))
  (hK : wpList P ops Q rest (a.put o.dst (.string ⟨l.toArray⟩)) w) : wpList P ops Q (o :: rest) a w := by
 refine wpList_plain hgd fun K hK' => ?_;have hrun : (convert src dst (.slice ao n c)).run P w = .ok (.string ⟨l.toArray⟩) w := by
  cases ao with
  | none =>
   have : l = [] := by
    cases l with
    | nil => rfl
    | cons x l => obtain ⟨b, off, h, _⟩ := hrow 0 (by simp [zam]); cases h
   subst this;rw [run_convert_bytes_nil w src e hs he _ _ dst hd];rfl
  | some ad =>
   cases l with
   | nil => subst hn;rw [run_convert_bytes_string w src dst e _ _ _ hs he hd];simp [Conv.bytesToString];rfl
   | cons y l =>
    obtain ⟨b, off, h, _⟩ := hrow 0 (by simp [zam]);obtain rfl := Option.some.inj h;rw [run_convert_bytes_arg w src e hs he b off n c ((y :: l).map fun u => (u.toNat : Int)) (by simpa using hn) (fun i hi => ?_) dst hd, zex];obtain ⟨b', off', h', hc, _⟩ := hrow i (by simp [zam] at hn |-; omega);obtain ⟨rfl, rfl⟩ : b = b' /\ off = off' := by simpa using h'
    have hi' : i < (y :: l).length := by omega
    rw [hc];simp only [zam, List.getElem_map];rw [List.getD, List.getElem?_map, List.getElem?_eq_getElem hi'];rfl
 unfold Oper.wp;simp [execOp, hop, hx, hrun, Result.andThen];exact hK' _ _ hK
end
section
variable {S : Nat -> Prop} {P : Program} {ops : Array Oper} {rest : List Oper} {o : Oper} {a : Act} {Q : Exit -> Act -> World -> Prop} {w : World}
theorem zc9 (z : Value) (n : Nat) : madeCells #[z] n = (List.replicate n z).toArray := by
 rw [<- toList_madeCells_one]
theorem zgS (hgd : o.guard = none) (l c : Operand) (t : TypeId) (hop : o.op = Op.makeSlice t l c)
  (e : TypeId) (i : TypeInfo) (z : Value) (bytes : Nat) (ht : P.underlying t = some (.slice e)) (hi : P.info? e = some i) (hz : i.zero = some z) (hsize : i.size = 1) (hby : i.bytes = bytes) (hzc : z.cells = #[z])
  (n : Nat) (hl : a.eval l = .int .i64 n) (hc : a.eval c = .int .i64 n) (hb : bytes * n <= 281474976710656) (h63 : n <= 9223372036854775807)
  (hK : ∀ w', Bx w' w.heap.size (List.replicate n z).toArray e -> w.grownBy w' none -> w'.heap.size = w.heap.size + 1 -> wpList P ops Q rest (a.put o.dst (.slice (some ⟨w.heap.size, 0, none⟩) n n)) w') :
  wpList P ops Q (o :: rest) a w := by
 refine wpList_plain hgd fun K hK' => ?_;have hb' : (i.bytes : Int) * (n : Int) <= 281474976710656 := by
  have h : ((i.bytes * n : Nat) : Int) <= 281474976710656 := by rw [hby]; omega
  rwa [Int.natCast_mul] at h
 have hrun := run_make (P := P) w t e i z ht hi hz .i64 .i64 n n (by omega) (Int.le_refl _) hb' (by omega);rw [hsize, hzc, Nat.mul_one, zc9] at hrun;simp only [Int.toNat_natCast] at hrun;unfold Oper.wp;simp [execOp, hop, hl, hc, hrun, Result.andThen];exact hK' _ _ (by simpa using hK _ (Bx.new w _ _) (World.grownBy_alloc w _ none) (World.size_alloc _ _))
end
structure PW where
 page : Int
 data : ByteArray
structure Dsk where
 size : Int
 pages : List ByteArray
 cache : List PW
 left : Int
def zaS (S : Nat -> Prop) (w : World) (o : Option Addr) (l : List ByteArray) : Prop :=
 ∀ i (h : i < l.length), ∃ b off, o = some ⟨b, off, none⟩ /\ w.cell? ⟨b, off + i, none⟩ = some (.string l[i]) /\ S b
def PWsAt (S : Nat -> Prop) (w : World) (o : Option Addr) (l : List PW) : Prop :=
 ∀ i (h : i < l.length), ∃ b off, o = some ⟨b, off, none⟩ /\ w.cell? ⟨b, off + i * 2, none⟩ = some (.int .i64 l[i].page) /\ w.cell? ⟨b, off + i * 2 + 1, none⟩ = some (.string l[i].data) /\ S b
def zaP (l : List PW) : List Value := l.flatMap fun x => [.int .i64 x.page, .string x.data]
theorem zc2 (l : List PW) : (zaP l).length = l.length * 2 := by
 induction l with
 | nil => rfl
 | cons x l ih => simp only [zaP, List.flatMap_cons, zlA, zlC, List.length_nil] at *; omega
theorem zeR (l m : List PW) : zaP (l ++ m) = zaP l ++ zaP m := by simp [zaP]
theorem zeV (l : List PW) : ∀ i (h : i < l.length), (zaP l)[i * 2]? = some (.int .i64 l[i].page) /\ (zaP l)[i * 2 + 1]? = some (.string l[i].data) := by
 induction l with
 | nil => intro i h; simp at h
 | cons x l ih =>
  intro i h;cases i with
  | zero => simp [zaP]
  | succ i =>
   have := ih i (by simpa using h);have e : (i + 1) * 2 = i * 2 + 2 := by omega
   rw [e];simpa [zaP] using this
theorem zhA (l : List PW) : ∀ u ∈ zaP l, u.oneCell' = true := by
 intro u hu;obtain ⟨x, _, hx⟩ := List.mem_flatMap.1 hu;simp at hx;rcases hx with rfl | rfl <;> rfl
theorem PWsAt.of_row {S : Nat -> Prop} {w : World} {o : Option Addr} {l : List PW} (h : RowAt S w o (zaP l)) : PWsAt S w o l := by
 intro i hi;have hlen := zc2 l;obtain ⟨g1, g2⟩ := zeV l i hi;obtain ⟨b, off, e, hc, hs⟩ := h (i * 2) (by omega);obtain ⟨b', off', e', hc', _⟩ := h (i * 2 + 1) (by omega);rw [e] at e';obtain ⟨rfl, rfl⟩ : b = b' /\ off = off' := by simpa using e'
 refine ⟨b, off, e, by rw [hc]; rw [List.getElem?_eq_getElem (by omega)] at g1; exact g1, ?_, hs⟩;rw [Nat.add_assoc, hc'];rw [List.getElem?_eq_getElem (by omega)] at g2; exact g2
theorem PWsAt.row {S : Nat -> Prop} {w : World} {o : Option Addr} {l : List PW} (h : PWsAt S w o l) : RowAt S w o (zaP l) := by
 intro j hj;have hlen := zc2 l;have hi : j / 2 < l.length := by omega
 obtain ⟨g1, g2⟩ := zeV l (j / 2) hi;obtain ⟨b, off, e, hc, hc', hs⟩ := h (j / 2) hi;refine ⟨b, off, e, ?_, hs⟩;rcases Nat.mod_two_eq_zero_or_one j with hm | hm
 .
  have ej : j / 2 * 2 = j := by omega
  rw [ej] at hc g1;rw [hc, <- g1, List.getElem?_eq_getElem hj]
 .
  have ej : j / 2 * 2 + 1 = j := by omega
  rw [ej] at g2;rw [show off + j = off + j / 2 * 2 + 1 by omega, hc', <- g2, List.getElem?_eq_getElem hj]
theorem zaS.of_row {S : Nat -> Prop} {w : World} {o : Option Addr} {l : List ByteArray} (h : RowAt S w o (l.map .string)) : zaS S w o l := by
 intro i hi;obtain ⟨b, off, e, hc, hs⟩ := h i (by simpa using hi);exact ⟨b, off, e, by simpa using hc, hs⟩
theorem zaS.row {S : Nat -> Prop} {w : World} {o : Option Addr} {l : List ByteArray} (h : zaS S w o l) : RowAt S w o (l.map .string) := by
 intro i hi;obtain ⟨b, off, e, hc, hs⟩ := h i (by simpa using hi);exact ⟨b, off, e, by simpa using hc, hs⟩
section
variable {S T : Nat -> Prop} {w w' : World} {o : Option Addr}
theorem zaS.below {l : List ByteArray} (h : zaS S w o l) (hb : Below w.heap.size w w') : zaS S w' o l := .of_row (h.row.below hb)
theorem zaS.same {l : List ByteArray} (h : zaS S w o l) (hb : Same S w w') : zaS S w' o l := .of_row (h.row.same hb)
theorem zaS.mono {l : List ByteArray} (h : zaS S w o l) (hT : ∀ b, S b -> T b) : zaS T w o l := .of_row (h.row.mono hT)
theorem PWsAt.below {l : List PW} (h : PWsAt S w o l) (hb : Below w.heap.size w w') : PWsAt S w' o l := .of_row (h.row.below hb)
theorem PWsAt.same {l : List PW} (h : PWsAt S w o l) (hb : Same S w w') : PWsAt S w' o l := .of_row (h.row.same hb)
theorem PWsAt.mono {l : List PW} (h : PWsAt S w o l) (hT : ∀ b, S b -> T b) : PWsAt T w o l := .of_row (h.row.mono hT)
end
structure DskOk (d : Dsk) (po co : Option Addr) (pc cc : Nat) : Prop where
 slp : SlW po d.pages.length pc
 slc : SlW co d.cache.length cc
 pages : d.pages.length <= 140737488351232
 cache : d.cache.length <= 140737488351232
 strs : ∀ s ∈ d.pages, s.size <= 140737488351232
 datas : ∀ x ∈ d.cache, x.data.size <= 140737488351232
 left : -9223372036854775808 <= d.left /\ d.left <= 9223372036854775807
def DskR (S : Nat -> Prop) (w : World) (v : Value) (d : Dsk) : Prop :=
 ∃ po pc co cc, v = .agg #[.int .i64 d.size, .slice po d.pages.length pc, .slice co d.cache.length cc, .int .i64 d.left] /\ zaS S w po d.pages /\ PWsAt S w co d.cache /\ DskOk d po co pc cc
section
variable {S T : Nat -> Prop} {w w' : World} {v : Value} {d : Dsk}
theorem DskR.below (h : DskR S w v d) (hb : Below w.heap.size w w') : DskR S w' v d := by
 obtain ⟨po, pc, co, cc, e, hp, hc, ok⟩ := h;exact ⟨po, pc, co, cc, e, hp.below hb, hc.below hb, ok⟩
theorem DskR.same (h : DskR S w v d) (hb : Same S w w') : DskR S w' v d := by
 obtain ⟨po, pc, co, cc, e, hp, hc, ok⟩ := h;exact ⟨po, pc, co, cc, e, hp.same hb, hc.same hb, ok⟩
theorem DskR.mono (h : DskR S w v d) (hT : ∀ b, S b -> T b) : DskR T w v d := by
 obtain ⟨po, pc, co, cc, e, hp, hc, ok⟩ := h;exact ⟨po, pc, co, cc, e, hp.mono hT, hc.mono hT, ok⟩
end
def BoxD (w : World) (b : Nat) (size left : Int) (po co : Option Addr) (pn pc cn cc : Nat) : Prop :=
 w.cell? ⟨b, 0, none⟩ = some (.int .i64 size) /\ w.cell? ⟨b, 1, none⟩ = some (.slice po pn pc) /\ w.cell? ⟨b, 2, none⟩ = some (.slice co cn cc) /\ w.cell? ⟨b, 3, none⟩ = some (.int .i64 left)
def zaU (p s : Int) : Bool := decide (1 <= p) && decide (p <= 2000) && decide (1 <= s) && decide (s <= 512)
def chkP (size : Int) : List ByteArray -> Bool
 | [] => true
 | s :: r => decide ((s.size : Int) = size) && chkP size r
def chkC (n : Nat) (size : Int) : List PW -> Int
 | [] => 0
 | x :: r => if x.page < 0 \/ n <= x.page then 2 else if (x.data.size : Int) ≠ size then 10 else chkC n size r
def chk (d : Dsk) : Int :=
 if zaU d.pages.length d.size = false then 2
 else if chkP d.size d.pages = false then 10
 else if chkC d.pages.length d.size d.cache ≠ 0 then chkC d.pages.length d.size d.cache
 else if d.left < -1 then 2 else 0
theorem ziG {size : Int} {l : List ByteArray} {k : Nat} (h : k < l.length) (hs : ((l[k].size : Int) != size) = true) : chkP size (l.drop k) = false := by
 rw [List.drop_eq_getElem_cons h]; simp [chkP]; intro e; simp [e] at hs
theorem zgY {size : Int} {l : List ByteArray} {k : Nat} (h : k < l.length) (hs : ((l[k].size : Int) != size) = false) : chkP size (l.drop k) = chkP size (l.drop (k+1)) := by
 rw [List.drop_eq_getElem_cons h]; simp [chkP]; intro _; simpa using hs
theorem zgA {n : Nat} {size : Int} {l : List PW} {k : Nat} (h : k < l.length) (hs : decide (l[k].page < 0) = true) : chkC n size (l.drop k) = 2 := by
 rw [List.drop_eq_getElem_cons h]; have := of_decide_eq_true hs; rw [chkC, if_pos (Or.inl this)]
theorem zgy {n : Nat} {size : Int} {l : List PW} {k : Nat} (h : k < l.length) (hs : decide ((n : Int) <= l[k].page) = true) : chkC n size (l.drop k) = 2 := by
 rw [List.drop_eq_getElem_cons h]; have := of_decide_eq_true hs; rw [chkC, if_pos (Or.inr this)]
theorem zhd {n : Nat} {size : Int} {l : List PW} {k : Nat} (h : k < l.length) (h1 : decide (l[k].page < 0) = false) (h2 : decide ((n : Int) <= l[k].page) = false) (hs : ((l[k].data.size : Int) != size) = true) : chkC n size (l.drop k) = 10 := by
 rw [List.drop_eq_getElem_cons h]; have h1 := of_decide_eq_false h1; have h2 := of_decide_eq_false h2; rw [chkC, if_neg (fun h => h.elim h1 h2), if_pos (by simpa using hs)]
theorem zht {n : Nat} {size : Int} {l : List PW} {k : Nat} (h : k < l.length) (h1 : decide (l[k].page < 0) = false) (h2 : decide ((n : Int) <= l[k].page) = false) (hs : ((l[k].data.size : Int) != size) = false) : chkC n size (l.drop k) = chkC n size (l.drop (k+1)) := by
 rw [List.drop_eq_getElem_cons h]; have h1 := of_decide_eq_false h1; have h2 := of_decide_eq_false h2; rw [chkC, if_neg (fun h => h.elim h1 h2), if_neg (by simpa using hs)]
def ziA (p s : Int) : Int := if p.tmod (s + 1) < 0 then - (p.tmod (s + 1)) else p.tmod (s + 1)
def zeL (picks : List Int) (k : Nat) (s : Int) : Int := if h : k < picks.length then ziA picks[k] s else 0
theorem zky (p s : Int) (hs : 0 <= s) : 0 <= ziA p s /\ ziA p s <= s := by
 unfold ziA;have h1 := Int.tmod_lt_of_pos p (b := s + 1) (by omega);have h2 : -(s + 1) < p.tmod (s + 1) := by have := Int.tmod_lt_of_pos (-p) (b := s + 1) (by omega);rw [Int.neg_tmod] at this;omega
 split <;> omega
theorem zjL (picks : List Int) (k : Nat) (s : Int) (hs : 0 <= s) : 0 <= zeL picks k s /\ zeL picks k s <= s := by
 unfold zeL;split
 . exact zky _ _ hs
 . omega
def lastW (i : Int) : List PW -> ByteArray -> ByteArray
 | [], s => s
 | x :: r, s => lastW i r (if x.page = i then x.data else s)
theorem zjv {i : Int} {l : List PW} {k : Nat} (h : k < l.length) (s : ByteArray) (e : (l[k].page == i) = true) : lastW i (l.drop k) s = lastW i (l.drop (k+1)) l[k].data := by
 rw [List.drop_eq_getElem_cons h, lastW, if_pos (by simpa using e)]
theorem zi7 {i : Int} {l : List PW} {k : Nat} (h : k < l.length) (s : ByteArray) (e : (l[k].page == i) = false) : lastW i (l.drop k) s = lastW i (l.drop (k+1)) s := by
 rw [List.drop_eq_getElem_cons h, lastW, if_neg (by simpa using e)]
def zak (d : Dsk) (i : Nat) (h : i < d.pages.length) : ByteArray := lastW i d.cache d.pages[i]
def zaC (d : Dsk) : List ByteArray := (List.range d.pages.length).attach.map fun i => zak d i.1 (List.mem_range.1 i.2)
def readD (d : Dsk) (i : Int) : ByteArray × Int :=
 if chk d ≠ 0 then (ByteArray.empty, 1) else if i < 0 then (ByteArray.empty, 2)
 else if h : i.toNat < d.pages.length then (zak d i.toNat h, 0) else (ByteArray.empty, 2)
def opD (d : Dsk) : Dsk := { d with left := if 0 < d.left then d.left - 1 else d.left }
def zeroD : Dsk := ⟨0, [], [], 0⟩
def newD (p s : Int) : Dsk × Int := if zaU p s then (⟨s, List.replicate p.toNat ⟨(List.replicate s.toNat 0).toArray⟩, [], -1⟩, 0) else (zeroD, 2)
def zbc (d : Dsk) (i : Int) (data : ByteArray) : Dsk × Int :=
 if chk d ≠ 0 then (zeroD, 1) else if i < 0 \/ (d.pages.length : Int) <= i then (zeroD, 2) else if (data.size : Int) ≠ d.size then (zeroD, 10)
 else if d.left = 0 then (d, 18) else ({ opD d with cache := d.cache ++ [⟨i, data⟩] }, 0)
def zbi (d : Dsk) : Dsk × Int :=
 if chk d ≠ 0 then (zeroD, 1) else if d.left = 0 then (d, 18) else (⟨d.size, zaC d, [], (opD d).left⟩, 0)
def tear (n : Nat) (data page : ByteArray) : ByteArray := data.extract 0 n ++ page.extract n page.size
def zbj (picks : List Int) (size : Int) : Nat -> List PW -> List ByteArray -> List ByteArray
 | _, [], ps => ps
 | k, x :: r, ps => zbj picks size (k + 1) r (ps.set x.page.toNat (tear (zeL picks k size).toNat x.data (ps.getD x.page.toNat ByteArray.empty)))
def zaM (d : Dsk) (picks : List Int) : Dsk :=
 if chk d ≠ 0 then zeroD else ⟨d.size, zbj picks d.size 0 d.cache d.pages, [], -1⟩
theorem zjD {size : Int} {l : List ByteArray} (h : chkP size l = true) : ∀ s ∈ l, (s.size : Int) = size := by
 induction l with
 | nil => intro s hs; cases hs
 | cons x l ih =>
  simp [chkP] at h;intro s hs;rcases zmC.1 hs with rfl | hs
  . exact h.1
  . exact ih h.2 s hs
theorem zkT {n : Nat} {size : Int} {l : List PW} (h : chkC n size l = 0) : ∀ x ∈ l, 0 <= x.page /\ x.page < n /\ (x.data.size : Int) = size := by
 induction l with
 | nil => intro s hs; cases hs
 | cons y l ih =>
  rw [chkC] at h;split at h
  . cases h
  .
   split at h
   . cases h
   .
    intro x hx;rcases zmC.1 hx with rfl | hx
    . omega
    . exact ih h x hx
theorem zaq {d : Dsk} (h : chk d = 0) : zaU d.pages.length d.size = true /\ (∀ s ∈ d.pages, (s.size : Int) = d.size) /\ (∀ x ∈ d.cache, 0 <= x.page /\ x.page < d.pages.length /\ (x.data.size : Int) = d.size) /\ -1 <= d.left := by
 unfold chk at h;split at h
 . cases h
 .
  rename_i h1
  split at h
  . cases h
  .
   rename_i h2
   split at h
   . rename_i h3; exact absurd h h3
   .
    rename_i h3
    split at h
    . cases h
    . exact ⟨by simpa using h1, zjD (by simpa using h2), zkT (by simpa using h3), by omega⟩
theorem zag {p s : Int} (h : zaU p s = true) : 1 <= p /\ p <= 2000 /\ 1 <= s /\ s <= 512 := by simp [zaU] at h; omega
def RetDB (S : Nat -> Prop) (w : World) (d : Dsk) (b : Bool) (e : Ending) (w' : World) : Prop := ∃ v, e = .returned (.tuple #[v, .bool b]) /\ DskR (Gr S w w') w' v d /\ Below w.heap.size w w'
def RetDE (S : Nat -> Prop) (w : World) (d : Dsk) (er : Int) (e : Ending) (w' : World) : Prop := ∃ v, e = .returned (.tuple #[v, .int .i64 er]) /\ DskR (Gr S w w') w' v d /\ Below w.heap.size w w'
abbrev bs (l : List UInt8) : ByteArray := ⟨l.toArray⟩
theorem za3 (l : List UInt8) : (bs l).data.toList = l := by simp
theorem bs_of (s : ByteArray) : bs s.data.toList = s := by cases s; simp
theorem zaj (l : List UInt8) : (bs l).size = l.length := by simp [ByteArray.size]
theorem zbr (l m : List UInt8) : bs l ++ bs m = bs (l ++ m) := by
 apply ByteArray.ext;simp
theorem zni {l m : List UInt8} (h : bs l = bs m) : l = m := by
 have := congrArg (fun s : ByteArray => s.data.toList) h;simpa using this
theorem zeT (l : List UInt8) (a b : Nat) : (bs l).extract a b = bs ((l.drop a).take (b - a)) := by
 apply ByteArray.ext;apply Array.ext';simp
def num8 (n : Nat) : List UInt8 := [UInt8.ofNat (n / 72057594037927936), UInt8.ofNat (n / 281474976710656), UInt8.ofNat (n / 1099511627776), UInt8.ofNat (n / 4294967296), UInt8.ofNat (n / 16777216), UInt8.ofNat (n / 65536), UInt8.ofNat (n / 256), UInt8.ofNat n]
def be (l : List UInt8) : Nat := l.foldl (fun a b => a * 256 + b.toNat) 0
def valR (n : Nat) : Int := if 1099511627776 < n then -1 else n
def hdrL (size v n : Nat) : List UInt8 := num8 v ++ num8 n ++ List.replicate (size - 24) 0 ++ num8 v
def hdrP (s : List UInt8) (k : Nat) (area : Int) : Option (Nat × Nat) :=
 if 1 <= be (s.take 8) /\ be (s.take 8) <= 1099511627776 /\ be (s.take 8) % 2 = k /\ (be ((s.drop 8).take 8) : Int) <= area /\ be ((s.drop 8).take 8) <= 1099511627776 /\ s = hdrL s.length (be (s.take 8)) (be ((s.drop 8).take 8))
 then some (be (s.take 8), be ((s.drop 8).take 8)) else none
def pageL (d : Dsk) (i : Int) : List UInt8 := (readD d i).1.data.toList
def pickH : Option (Nat × Nat) -> Option (Nat × Nat) -> Nat × Nat
 | none, none => (0, 0)
 | none, some y => y
 | some x, none => x
 | some x, some y => if x.1 < y.1 then y else x
inductive DOp where
 | wr (i : Int) (data : ByteArray)
 | fl
def opP (d : Dsk) : DOp -> Dsk × Int
 | .wr i data => zbc d i data
 | .fl => zbi d
def perfP : Dsk -> List DOp -> Dsk × Int
 | d, [] => (d, 0)
 | d, o :: r => if (opP d o).2 ≠ 0 then opP d o else perfP (opP d o).1 r
theorem zha (p s : Int) (w : World) : Calls Tryz.prog 86 #[.int .i64 p, .int .i64 s] w fun e w' =>
  e = .returned (.bool (zaU p s)) /\ w = w' := by
 go_enter Tryz.func86, Tryz.ntmps86;go_wp2
 all_goals go_ret
 all_goals simp [*, zaU]
 all_goals omega
theorem zcP {b : Bool} (p s : Int) (w : World) (hb : zaU p s = b) : Calls Tryz.prog 86 #[.int .i64 p, .int .i64 s] w fun e w' =>
  e = .returned (.bool b) /\ w = w' := by rw [<- hb]; exact zha p s w
set_option maxHeartbeats 1000000 in
theorem zgw (size left : Int) (po co : Option Addr) (pc cc : Nat) (pages : List ByteArray) (cache : List PW) (w : World) {S : Nat -> Prop}
  (hp : zaS S w po pages) (hc : PWsAt S w co cache)
  (hpl : pages.length <= 140737488351232) (hcl : cache.length <= 140737488351232) :
  Calls Tryz.prog 48 #[.agg #[.int .i64 size, .slice po pages.length pc, .slice co cache.length cc, .int .i64 left]] w fun e w' =>
  e = .returned (.int .i64 (chk ⟨size, pages, cache, left⟩)) /\ Below w.heap.size w w' := by
 cases hr : zaU pages.length size
 . go_enter Tryz.func48, Tryz.ntmps48;go_wp2_with (go_at_call 86; refine (zcP _ _ _ hr).mono ?_; rintro e w' ⟨rfl, rfl⟩);go_ret;exact ⟨by simp [chk, hr], (Below.refl _ _).alloc (Nat.le_refl _) _⟩
 .
  go_enter Tryz.func48, Tryz.ntmps48;go_wp2_with (go_at_call 86; refine (zcP _ _ _ hr).mono ?_; rintro e w' ⟨rfl, rfl⟩)
  go_loopw [3] (fun i wr => ∃ k : Nat, k <= pages.length /\ i = .int .i64 k /\ chkP size (pages.drop k) = chkP size pages /\ Below w.heap.size w wr /\ w.heap.size < wr.heap.size /\ BoxD wr w.heap.size size left po co pages.length pc cache.length cc) (fun i _ => pages.length - (intOf i).toNat)
  case atStart => exact ⟨0, Nat.zero_le _, rfl, rfl, (Below.refl _ _).alloc (Nat.le_refl _) _, by simp, by simp, by simp, by simp, by simp⟩
  case round =>
   obtain ⟨k, hk, rfl, hq0, hb, hz, hB⟩ := hrel;have hq := zhI hq0; clear hq0;have hB0 := zhI hB;obtain ⟨h0, h1, h2, h3⟩ := hB
   by_cases hlt : k < pages.length
   .
    obtain ⟨b, off, rfl, hcell0, _⟩ := hp k hlt;have hcell : wr.cell? ⟨b, off + k, none⟩ = some (.string pages[k]) := by rw [hb.cell (World.block_lt_of_cell? w _ hcell0)]; exact hcell0
    clear hcell0;cases hs : ((pages[k].size : Int) != size)
    .
     go_wp2;go_quiet (fail);go_wp2;go_roundw
     case rel => exact ⟨k + 1, by omega, by go_num, by rw [<- zgY hlt hs]; exact hq.out, Below.drewN hb _, by simpa using hz, h0, h1, h2, h3⟩
     case measure => simp [intOf]; omega
    . go_wp2;go_quiet (fail);go_wp2;go_ret;exact ⟨by simp [chk, hr, <- hq.out, ziG hlt hs], Below.drewN hb _⟩
   .
    obtain rfl : k = pages.length := by omega
    have hP : chkP size pages = true := by rw [<- hq.out]; simp [chkP]
    clear hlt hk;go_wp2
    go_loopw [4] (fun i wr => ∃ k : Nat, k <= cache.length /\ i = .int .i64 k /\ chkC pages.length size (cache.drop k) = chkC pages.length size cache /\ Below w.heap.size w wr /\ w.heap.size < wr.heap.size /\ BoxD wr w.heap.size size left po co pages.length pc cache.length cc) (fun i _ => cache.length - (intOf i).toNat)
    case atStart => exact ⟨0, Nat.zero_le _, rfl, rfl, hb, hz, hB0.out⟩
    case round =>
     clear hB0 h0 h1 h2 h3 hb hz;obtain ⟨k, hk, rfl, hq0, hb, hz, hB⟩ := hrel;have hq := zhI hq0; clear hq0;obtain ⟨h0, h1, h2, h3⟩ := hB
     by_cases hlt : k < cache.length
     .
      obtain ⟨b, off, rfl, hcell0, hcell1, _⟩ := hc k hlt;have hcell : wr.cell? ⟨b, off + k * 2, none⟩ = some (.int .i64 cache[k].page) := by rw [hb.cell (World.block_lt_of_cell? w _ hcell0)]; exact hcell0
      have hcell' : wr.cell? ⟨b, off + k * 2 + 1, none⟩ = some (.string cache[k].data) := by rw [hb.cell (World.block_lt_of_cell? w _ hcell1)]; exact hcell1
      clear hcell0 hcell1;cases g1 : decide (cache[k].page < 0)
      .
       cases g2 : decide ((pages.length : Int) <= cache[k].page)
       .
        cases g3 : ((cache[k].data.size : Int) != size)
        .
         go_wp2;go_quiet (fail);go_wp2;go_quiet (fail);go_wp2;go_roundw
         case rel => exact ⟨k + 1, by omega, by go_num, by rw [<- zht hlt g1 g2 g3]; exact hq.out, by first | exact Below.drewN hb _ | exact Below.drewN (Below.drewN hb _) _, by simpa using hz, h0, h1, h2, h3⟩
         case measure => simp [intOf]; omega
        . go_wp2;go_quiet (fail);go_wp2;go_quiet (fail);go_wp2;go_ret;exact ⟨by simp [chk, hr, hP, <- hq.out, zhd hlt g1 g2 g3], by first | exact Below.drewN hb _ | exact Below.drewN (Below.drewN hb _) _⟩
       . go_wp2;go_quiet (fail);go_wp2;go_ret;exact ⟨by simp [chk, hr, hP, <- hq.out, zgy hlt g2], Below.drewN hb _⟩
      . go_wp2;go_quiet (fail);go_wp2;go_ret;exact ⟨by simp [chk, hr, hP, <- hq.out, zgA hlt g1], Below.drewN hb _⟩
     .
      obtain rfl : k = cache.length := by omega
      have hC : chkC pages.length size cache = 0 := by rw [<- hq.out]; simp [chkC]
      cases g : decide (left < -1)
      all_goals
       go_wp2;go_ret;exact ⟨by simp at g; simp [chk, hr, hP, hC, g]; try omega, hb⟩
theorem zbt {p s : Int} {b : Bool} (h : zaU p s = b) : (decide (p < 1) = false /\ decide (2000 < p) = false /\ decide (s < 1) = false /\ decide (512 < s) = false /\ b = true) \/ (decide (p < 1) = true /\ b = false) \/ (decide (p < 1) = false /\ decide (2000 < p) = true /\ b = false) \/ (decide (p < 1) = false /\ decide (2000 < p) = false /\ decide (s < 1) = true /\ b = false) \/ (decide (p < 1) = false /\ decide (2000 < p) = false /\ decide (s < 1) = false /\ decide (512 < s) = true /\ b = false) := by
 subst h
 by_cases h1 : p < 1 <;> by_cases h2 : 2000 < p <;> by_cases h3 : s < 1 <;> by_cases h4 : 512 < s <;> simp [zaU, h1, h2, h3, h4] <;> omega
set_option maxHeartbeats 1000000 in
theorem zhy (size left : Int) (po co : Option Addr) (pc cc : Nat) (pages : List ByteArray) (cache : List PW) (w : World) {S : Nat -> Prop}
  (hp : zaS S w po pages) (hc : PWsAt S w co cache)
  (hpl : pages.length <= 140737488351232) (hcl : cache.length <= 140737488351232) :
  Calls Tryz.prog 43 #[.agg #[.int .i64 size, .slice po pages.length pc, .slice co cache.length cc, .int .i64 left]] w fun e w' =>
  e = .returned (.int .i64 (chk ⟨size, pages, cache, left⟩)) /\ Below w.heap.size w w' := by
 have hbw : ∀ o, Below w.heap.size w (w.alloc o) := fun o => (Below.refl _ _).alloc (Nat.le_refl _) _;cases hr : zaU pages.length size
 .
  rcases zbt hr with ⟨_, _, _, _, h⟩ | ⟨a1, _⟩ | ⟨a1, a2, _⟩ | ⟨a1, a2, a3, _⟩ | ⟨a1, a2, a3, a4, _⟩
  . cases h
  all_goals
   go_enter Tryz.func43, Tryz.ntmps43;go_wp2;go_ret;exact ⟨by simp [chk, hr], hbw _⟩
 .
  rcases zbt hr with ⟨a1, a2, a3, a4, h⟩ | ⟨_, h⟩ | ⟨_, _, h⟩ | ⟨_, _, _, h⟩ | ⟨_, _, _, _, h⟩;rotate_left
  . cases h
  . cases h
  . cases h
  . cases h
  clear h;go_enter Tryz.func43, Tryz.ntmps43;go_wp2;clear a1 a2 a3 a4
  go_loopw [4, 30] (fun _ i wr => ∃ k : Nat, k <= pages.length /\ i = .int .i64 k /\ chkP size (pages.drop k) = chkP size pages /\ Below w.heap.size w wr /\ w.heap.size < wr.heap.size /\ BoxD wr w.heap.size size left po co pages.length pc cache.length cc) (fun _ i _ => pages.length - (intOf i).toNat)
  case atStart => exact ⟨0, Nat.zero_le _, rfl, rfl, hbw _, by simp, by simp, by simp, by simp, by simp⟩
  case round =>
   obtain ⟨k, hk, rfl, hq0, hb, hz, hB⟩ := hrel;have hq := zhI hq0; clear hq0;have hB0 := zhI hB;obtain ⟨h0, h1, h2, h3⟩ := hB
   by_cases hlt : k < pages.length
   .
    obtain ⟨b, off, rfl, hcell0, _⟩ := hp k hlt;have hcell : wr.cell? ⟨b, off + k, none⟩ = some (.string pages[k]) := by rw [hb.cell (World.block_lt_of_cell? w _ hcell0)]; exact hcell0
    clear hcell0;cases hs : ((pages[k].size : Int) != size)
    .
     go_wp2;go_roundw
     case rel => exact ⟨k + 1, by omega, by go_num, by rw [<- zgY hlt hs]; exact hq.out, hb, by simpa using hz, h0, h1, h2, h3⟩
     case measure => simp [intOf]; omega
    . go_wp2;go_ret;exact ⟨by simp [chk, hr, <- hq.out, ziG hlt hs], hb⟩
   .
    obtain rfl : k = pages.length := by omega
    have hP : chkP size pages = true := by rw [<- hq.out]; simp [chkP]
    clear hlt hk;go_wp2
    go_loopw [6, 43] (fun _ i wr => ∃ k : Nat, k <= cache.length /\ i = .int .i64 k /\ chkC pages.length size (cache.drop k) = chkC pages.length size cache /\ Below w.heap.size w wr /\ w.heap.size < wr.heap.size /\ BoxD wr w.heap.size size left po co pages.length pc cache.length cc) (fun _ i _ => cache.length - (intOf i).toNat)
    case atStart => exact ⟨0, Nat.zero_le _, rfl, rfl, hb, hz, hB0.out⟩
    case round =>
     clear hB0 h0 h1 h2 h3 hb hz;obtain ⟨k, hk, rfl, hq0, hb, hz, hB⟩ := hrel;have hq := zhI hq0; clear hq0;obtain ⟨h0, h1, h2, h3⟩ := hB
     by_cases hlt : k < cache.length
     .
      obtain ⟨b, off, rfl, hcell0, hcell1, _⟩ := hc k hlt;have hcell : wr.cell? ⟨b, off + k * 2, none⟩ = some (.int .i64 cache[k].page) := by rw [hb.cell (World.block_lt_of_cell? w _ hcell0)]; exact hcell0
      have hcell' : wr.cell? ⟨b, off + k * 2 + 1, none⟩ = some (.string cache[k].data) := by rw [hb.cell (World.block_lt_of_cell? w _ hcell1)]; exact hcell1
      clear hcell0 hcell1;cases g1 : decide (cache[k].page < 0)
      .
       cases g2 : decide ((pages.length : Int) <= cache[k].page)
       .
        cases g3 : ((cache[k].data.size : Int) != size)
        .
         go_wp2;go_roundw
         case rel => exact ⟨k + 1, by omega, by go_num, by rw [<- zht hlt g1 g2 g3]; exact hq.out, hb.alloc (by omega) _, by simp; omega, by simp [go_sem, h0, hz], by simp [go_sem, h1, hz], by simp [go_sem, h2, hz], by simp [go_sem, h3, hz]⟩
         case measure => simp [intOf]; omega
        . go_wp2;go_ret;exact ⟨by simp [chk, hr, hP, <- hq.out, zhd hlt g1 g2 g3], hb.alloc (by omega) _⟩
       . go_wp2;go_ret;exact ⟨by simp [chk, hr, hP, <- hq.out, zgy hlt g2], hb.alloc (by omega) _⟩
      . go_wp2;go_ret;exact ⟨by simp [chk, hr, hP, <- hq.out, zgA hlt g1], hb.alloc (by omega) _⟩
     .
      obtain rfl : k = cache.length := by omega
      have hC : chkC pages.length size cache = 0 := by rw [<- hq.out]; simp [chkC]
      cases g : decide (left < -1)
      all_goals
       go_wp2;go_ret;exact ⟨by simp at g; simp [chk, hr, hP, hC, g]; try omega, hb⟩
theorem zaN (d : Dsk) (v : Value) (w : World) {S : Nat -> Prop} (hD : DskR S w v d) :
  Calls Tryz.prog 43 #[v] w fun e w' => e = .returned (.int .i64 (chk d)) /\ Below w.heap.size w w' := by
 obtain ⟨po, pc, co, cc, rfl, hp, hc, ok⟩ := hD;exact zhy d.size d.left po co pc cc d.pages d.cache w hp hc ok.pages ok.cache
theorem zbC (d : Dsk) (v : Value) (w : World) {S : Nat -> Prop} (hD : DskR S w v d) :
  Calls Tryz.prog 48 #[v] w fun e w' => e = .returned (.int .i64 (chk d)) /\ Below w.heap.size w w' := by
 obtain ⟨po, pc, co, cc, rfl, hp, hc, ok⟩ := hD;exact zgw d.size d.left po co pc cc d.pages d.cache w hp hc ok.pages ok.cache
def zas (S : Nat -> Prop) (w : World) (o : Option Addr) (l : List Int) : Prop :=
 ∀ i (h : i < l.length), ∃ b off, o = some ⟨b, off, none⟩ /\ w.cell? ⟨b, off + i, none⟩ = some (.int .i64 l[i]) /\ S b
theorem zas.of_row {S : Nat -> Prop} {w : World} {o : Option Addr} {l : List Int} (h : RowAt S w o (l.map (.int .i64))) : zas S w o l := by
 intro i hi;obtain ⟨b, off, e, hc, hs⟩ := h i (by simpa using hi);exact ⟨b, off, e, by simpa using hc, hs⟩
theorem zas.row {S : Nat -> Prop} {w : World} {o : Option Addr} {l : List Int} (h : zas S w o l) : RowAt S w o (l.map (.int .i64)) := by
 intro i hi;obtain ⟨b, off, e, hc, hs⟩ := h i (by simpa using hi);exact ⟨b, off, e, by simpa using hc, hs⟩
theorem zas.below {S : Nat -> Prop} {w w' : World} {o : Option Addr} {l : List Int} (h : zas S w o l) (hb : Below w.heap.size w w') : zas S w' o l := .of_row (h.row.below hb)
theorem zas.same {S : Nat -> Prop} {w w' : World} {o : Option Addr} {l : List Int} (h : zas S w o l) (hb : Same S w w') : zas S w' o l := .of_row (h.row.same hb)
theorem znu {d : Dsk} {po co : Option Addr} {pc cc : Nat} (h : DskOk d po co pc cc) : DskOk (opD d) po co pc cc := by
 refine ⟨h.slp, h.slc, h.pages, h.cache, h.strs, h.datas, ?_⟩;have := h.left;simp only [opD];split <;> omega
set_option maxHeartbeats 400000 in
theorem zcC (d : Dsk) (v : Value) (w : World) {S : Nat -> Prop} (hD : DskR S w v d) :
  Calls Tryz.prog 125 #[v] w (RetDB S w (if d.left = 0 then d else opD d) (!(d.left == 0))) := by
 obtain ⟨po, pc, co, cc, rfl, hp, hc, ok⟩ := hD;have hl := ok.left;cases h0 : (d.left == 0)
 .
  rw [if_neg (by simpa using h0)];have hok := znu ok
  by_cases h1 : 0 < d.left
  all_goals
   go_enter Tryz.func125, Tryz.ntmps125;go_wp2;refine bodyPost_ret (v := .tuple #[.agg #[.int .i64 (opD d).size, .slice po d.pages.length pc, .slice co d.cache.length cc, .int .i64 (opD d).left], .bool true]) (by simp [results, Tryz.results125, go_sem, opD, h1] <;> omega) rfl ?_
   exact ⟨_, rfl, ⟨po, pc, co, cc, rfl, (hp.below (((Below.refl _ _).alloc (Nat.le_refl _) _).alloc (by simp) _)).mono (fun _ => .inl), (hc.below (((Below.refl _ _).alloc (Nat.le_refl _) _).alloc (by simp) _)).mono (fun _ => .inl), hok⟩, ((Below.refl _ _).alloc (Nat.le_refl _) _).alloc (by simp) _⟩
 . rw [if_pos (by simpa using h0)];go_enter Tryz.func125, Tryz.ntmps125;go_wp2;refine bodyPost_ret (v := .tuple #[.agg #[.int .i64 d.size, .slice po d.pages.length pc, .slice co d.cache.length cc, .int .i64 d.left], .bool false]) (by simp [results, Tryz.results125, go_sem]) rfl ?_;exact ⟨_, rfl, ⟨po, pc, co, cc, rfl, (hp.below (((Below.refl _ _).alloc (Nat.le_refl _) _).alloc (by simp) _)).mono (fun _ => .inl), (hc.below (((Below.refl _ _).alloc (Nat.le_refl _) _).alloc (by simp) _)).mono (fun _ => .inl), ok⟩, ((Below.refl _ _).alloc (Nat.le_refl _) _).alloc (by simp) _⟩
set_option maxHeartbeats 1000000 in
theorem zf4 (d : Dsk) (v : Value) (i : Nat) (hi : i < d.pages.length) (w : World) {S : Nat -> Prop} (hD : DskR S w v d) :
  Calls Tryz.prog 129 #[v, .int .i64 i] w fun e w' => e = .returned (.string (zak d i hi)) /\ Below w.heap.size w w' := by
 obtain ⟨po, pc, co, cc, rfl, hp, hc, ok⟩ := hD;have ok1 := ok.pages;have ok2 := ok.cache;obtain ⟨b, off, rfl, hcell0, _⟩ := hp i hi;have hlt0 : b < w.heap.size := World.block_lt_of_cell? w _ hcell0;clear ok;unfold zak;go_enter Tryz.func129, Tryz.ntmps129;go_wp2
 go_loopw [5, 6] (fun s q wr => ∃ (k : Nat) (x : ByteArray), k <= d.cache.length /\ s = .string x /\ q = .int .i64 k /\ lastW i (d.cache.drop k) x = lastW i d.cache d.pages[i] /\ Below w.heap.size w wr /\ w.heap.size < wr.heap.size /\ BoxD wr w.heap.size d.size d.left (some ⟨b, off, none⟩) co d.pages.length pc d.cache.length cc) (fun _ q _ => d.cache.length - (intOf q).toNat)
 case atStart => exact ⟨0, d.pages[i], Nat.zero_le _, rfl, rfl, rfl, (Below.refl _ _).alloc (Nat.le_refl _) _, by simp, by simp, by simp, by simp, by simp⟩
 case round =>
  obtain ⟨k, x, hk, rfl, rfl, hq0, hb, hz, hB⟩ := hrel;have hq := zhI hq0; clear hq0;obtain ⟨h0, h1, h2, h3⟩ := hB;clear hcell0 hlt0 ok1
  by_cases hlt : k < d.cache.length
  .
   obtain ⟨b, off, rfl, hcell0, hcell1, _⟩ := hc k hlt;have hcell : wr.cell? ⟨b, off + k * 2, none⟩ = some (.int .i64 d.cache[k].page) := by rw [hb.cell (World.block_lt_of_cell? w _ hcell0)]; exact hcell0
   have hcell' : wr.cell? ⟨b, off + k * 2 + 1, none⟩ = some (.string d.cache[k].data) := by rw [hb.cell (World.block_lt_of_cell? w _ hcell1)]; exact hcell1
   clear hcell0 hcell1;cases g1 : (d.cache[k].page == (i : Int))
   .
    go_wp2;go_roundw
    case rel => exact ⟨k + 1, x, by omega, rfl, by go_num, by rw [<- zi7 hlt x g1]; exact hq.out, hb, hz, h0, h1, h2, h3⟩
    case measure => simp [intOf]; omega
   .
    go_wp2;go_roundw
    case rel => exact ⟨k + 1, d.cache[k].data, by omega, rfl, by go_num, by rw [<- zjv hlt x g1]; exact hq.out, hb, hz, h0, h1, h2, h3⟩
    case measure => simp [intOf]; omega
  .
   obtain rfl : k = d.cache.length := by omega
   go_wp2;go_ret;exact ⟨by rw [<- hq.out]; simp [lastW], hb⟩
set_option maxHeartbeats 1000000 in
theorem zdM (d : Dsk) (v : Value) (i : Int) (w : World) {S : Nat -> Prop} (hD : DskR S w v d) :
  Calls Tryz.prog 92 #[v, .int .i64 i] w fun e w' => e = .returned (.tuple #[.string (readD d i).1, .int .i64 (readD d i).2]) /\ Below w.heap.size w w' := by
 have hD0 := hD;obtain ⟨po, pc, co, cc, rfl, hp, hc, ok⟩ := hD;have ok1 := ok.pages;clear ok hp hc;have hbw : ∀ o, Below w.heap.size w (w.alloc o) := fun o => (Below.refl _ _).alloc (Nat.le_refl _) _;unfold readD;cases hz : (chk d != 0)
 .
  rw [if_neg (by simpa using hz)]
  by_cases hn : i < 0
  . rw [if_pos hn];go_enter Tryz.func92, Tryz.ntmps92;go_wp2_with fail;refine (zbC d _ _ (hD0.below (hbw _))).mono ?_;rintro e w' ⟨rfl, hb⟩;go_wp2;go_ret2;exact ⟨rfl, (hbw _).trans (hb.mono (by simp))⟩
  .
   rw [if_neg hn];obtain ⟨k, rfl⟩ := Int.eq_ofNat_of_zero_le (Int.not_lt.1 hn);rw [Int.toNat_natCast]
   by_cases hk : k < d.pages.length
   . rw [dif_pos hk];go_enter Tryz.func92, Tryz.ntmps92;go_wp2_with fail;refine (zbC d _ _ (hD0.below (hbw _))).mono ?_;rintro e w' ⟨rfl, hb⟩;obtain ⟨hcl, hfr⟩ := bcell hb;go_wp2_with fail;refine (zf4 d _ k hk _ ((hD0.below (hbw _)).below hb)).mono ?_;rintro e w2 ⟨rfl, hb2⟩;go_wp2;go_ret2;exact ⟨rfl, ((hbw _).trans (hb.mono (by simp))).trans (hb2.mono (by have := hb.size; simp at this; omega))⟩
   . rw [dif_neg hk];go_enter Tryz.func92, Tryz.ntmps92;go_wp2_with fail;refine (zbC d _ _ (hD0.below (hbw _))).mono ?_;rintro e w' ⟨rfl, hb⟩;obtain ⟨hcl, hfr⟩ := bcell hb;go_wp2;go_ret2;exact ⟨rfl, (hbw _).trans (hb.mono (by simp))⟩
 . rw [if_pos (by simpa using hz)];go_enter Tryz.func92, Tryz.ntmps92;go_wp2_with fail;refine (zbC d _ _ (hD0.below (hbw _))).mono ?_;rintro e w' ⟨rfl, hb⟩;go_wp2;go_ret2;exact ⟨rfl, (hbw _).trans (hb.mono (by simp))⟩
end Go.Proofs.YtlefmmhlpgmbjaaGreat
