/- Memory, in general: rows of cells that can be read, appending to a row of the call's own from any source, and how such rows read afterwards. No function of the program is named here. -/
import Derived.Test.YtebgopdmeghmhaaGreatRows
import Derived.WalkKit
import Derived.Lib.Hide
import Derived.Deep.Draws
import Derived.Laws.CopyOwn
namespace Go.Proofs.YtebgopdmeghmhaaGreat
open Go.RowKit

theorem Below.drewN {B : Nat} {w w' : World} (h : Below B w w') (n : Nat) : Below B w (w'.drewN n) := ⟨h.os, h.tape, h.output, h.size, h.block⟩
theorem bcell {B : Nat} {W w1 : World} (hb : Below B W w1) : (∀ b o, b < B → w1.cell? ⟨b, o, none⟩ = W.cell? ⟨b, o, none⟩) ∧ (∀ b o, b < B → w1.frozen? ⟨b, o, none⟩ = W.frozen? ⟨b, o, none⟩) :=
  ⟨fun b o h => hb.cell (p := ⟨b, o, none⟩) h, fun b o h => hb.frozen (p := ⟨b, o, none⟩) h⟩

/-- the header of a slice -/
def SlW (o : Option Addr) (n c : Nat) : Prop := (o = none ∧ n = 0 ∧ c = 0) ∨ (∃ a, o = some a ∧ n ≤ c ∧ c ≤ maxLen)
theorem SlW.nil {o : Option Addr} {n c : Nat} (h : SlW o n c) : o = none → n = 0 ∧ c = 0 := by
  intro e
  rcases h with ⟨_, h⟩ | ⟨a, h, _⟩
  · exact h
  · rw [e] at h; cases h

/-- 'S': a set of blocks; all of them there -/
def InS (S : Nat → Prop) (w : World) : Prop := ∀ b, S b → b < w.heap.size
/-- S, and what has been made since -/
def Gr (S : Nat → Prop) (w w' : World) (b : Nat) : Prop := S b ∨ (w.heap.size ≤ b ∧ b < w'.heap.size)
theorem Gr.new {S : Nat → Prop} {w w' : World} {b : Nat} (h : w.heap.size ≤ b) (h' : b < w'.heap.size) : Gr S w w' b := .inr ⟨h, h'⟩
theorem Gr.old {S : Nat → Prop} {w w' : World} {b : Nat} (h : S b) : Gr S w w' b := .inl h
theorem InS.below {S : Nat → Prop} {w w' : World} {B : Nat} (h : InS S w) (hb : Below B w w') : InS S w' := fun b hs => Nat.lt_of_lt_of_le (h b hs) hb.size
theorem InS.gr {S : Nat → Prop} {w w' : World} {B : Nat} (h : InS S w) (hb : Below B w w') : InS (Gr S w w') w' := by
  rintro b (hs | hs)
  · exact Nat.lt_of_lt_of_le (h b hs) hb.size
  · exact hs.2
def Same (S : Nat → Prop) (w w' : World) : Prop := ∀ b, S b → w'.heap[b]? = w.heap[b]?
theorem Same.refl (S : Nat → Prop) (w : World) : Same S w w := fun _ _ => rfl
theorem Same.set {S : Nat → Prop} {w w' : World} (h : Same S w w') {a : Addr} (ha : ¬ S a.block) (v : Value) : Same S w (w'.setCell a v) := fun b hb => (Below.heap_setCell w' a v b (fun e => ha (e ▸ hb))).trans (h b hb)
theorem Same.of_below {S : Nat → Prop} {w w' : World} {B : Nat} (h : Below B w w') (hS : ∀ b, S b → b < B) : Same S w w' := fun b hb => h.block b (hS b hb)
theorem Same.trans {S : Nat → Prop} {a b c : World} (h : Same S a b) (k : Same S b c) : Same S a c := fun i hi => (k i hi).trans (h i hi)
theorem Same.cell {S : Nat → Prop} {w w' : World} (h : Same S w w') {p : Addr} (hp : S p.block) : w'.cell? p = w.cell? p := World.cell?_of_block (w := w) (h p.block hp)

/-- the cells from an address on, in blocks of S -/
def RowAt (S : Nat → Prop) (w : World) (o : Option Addr) (l : List Value) : Prop :=
  ∀ j (h : j < l.length), ∃ b off, o = some ⟨b, off, none⟩ ∧ w.cell? ⟨b, off + j, none⟩ = some l[j] ∧ S b
theorem RowAt.below {S : Nat → Prop} {w w' : World} {o : Option Addr} {l : List Value} (h : RowAt S w o l) (hb : Below w.heap.size w w') : RowAt S w' o l := by
  intro i hi
  obtain ⟨b, off, ho, hc, hs⟩ := h i hi
  exact ⟨b, off, ho, by rw [hb.cell (World.block_lt_of_cell? w _ hc)]; exact hc, hs⟩
theorem RowAt.same {S : Nat → Prop} {w w' : World} {o : Option Addr} {l : List Value} (h : RowAt S w o l) (hb : Same S w w') : RowAt S w' o l := by
  intro i hi
  obtain ⟨b, off, ho, hc, hs⟩ := h i hi
  exact ⟨b, off, ho, by rw [hb.cell hs]; exact hc, hs⟩
theorem RowAt.mono {S T : Nat → Prop} {w : World} {o : Option Addr} {l : List Value} (h : RowAt S w o l) (hT : ∀ b, S b → T b) : RowAt T w o l := by
  intro i hi
  obtain ⟨b, off, ho, hc, hs⟩ := h i hi
  exact ⟨b, off, ho, hc, hT b hs⟩
theorem RowAt.nil (S : Nat → Prop) (w : World) (o : Option Addr) : RowAt S w o [] := by intro j h; exact absurd h (by simp)
theorem RowAt.src {S : Nat → Prop} {w : World} {o : Option Addr} {l : List Value} (h : RowAt S w o l) : ∀ ad, o = some ad → ∀ j u, l[j]? = some u → w.cell? (ad.add j) = some u := by
  intro ad e j u hu
  obtain ⟨hj, rfl⟩ := List.getElem?_eq_some_iff.1 hu
  obtain ⟨b, off, e', hc, _⟩ := h j hj
  rw [e] at e'
  obtain rfl := Option.some.inj e'
  rw [Addr.add_lit]
  exact hc
/-- a part of a row -/
theorem RowAt.cut {S : Nat → Prop} {w : World} {b off : Nat} {l : List Value} (h : RowAt S w (some ⟨b, off, none⟩) l) (k m : Nat) : RowAt S w (some ⟨b, off + k, none⟩) ((l.drop k).take m) := by
  intro j hj
  have hj' : k + j < l.length := by simp at hj; omega
  obtain ⟨b', off', e, hc, hs⟩ := h (k + j) hj'
  obtain ⟨rfl, rfl⟩ : b = b' ∧ off = off' := by simpa using e
  exact ⟨b, off + k, rfl, by rw [Nat.add_assoc]; simpa using hc, hs⟩

/-- what a call owns reads as a row -/
theorem ownsRow_at {w : World} {base : Nat} {e : TypeId} {size : Nat} {v : Value} {n : Nat} {xs : List Value} (h : w.ownsRow base e size v n xs) :
    ∃ o c, v = .slice o n c ∧ SlW o n c ∧ RowAt (fun b => base ≤ b ∧ b < w.heap.size) w o xs ∧ (Value.slice o n c).ownBlock = v.ownBlock := by
  rcases h.2 with ⟨rfl, rfl⟩ | ⟨g, cap, cur, rfl, hb, hg, h1, h2, h3, h4⟩
  · have hx : xs = [] := List.eq_nil_of_length_eq_zero (by simpa using h.1)
    subst hx
    exact ⟨none, 0, rfl, .inl ⟨rfl, rfl, rfl⟩, RowAt.nil _ _ _, rfl⟩
  · refine ⟨some ⟨g, 0, none⟩, cap, rfl, .inr ⟨_, rfl, h1, h2⟩, ?_, rfl⟩
    intro j hj
    refine ⟨g, 0, rfl, ?_, hb, (Array.getElem?_eq_some_iff.1 hg).1⟩
    have := h.cells (g := g) rfl j xs[j] (by simp [hj])
    rw [Addr.add_lit] at this
    exact this
theorem ownsRow_below {w w' : World} {B base : Nat} {e : TypeId} {size : Nat} {v : Value} {n : Nat} {xs : List Value} (h : w.ownsRow base e size v n xs) (hb : Below B w w') (hB : ∀ k, v.ownBlock = some k → k < B) : w'.ownsRow base e size v n xs := by
  refine ⟨h.1, ?_⟩
  rcases h.2 with hn | ⟨g, cap, cur, rfl, hbg, hg, rest⟩
  · exact .inl hn
  · refine .inr ⟨g, cap, cur, rfl, hbg, ?_, rest⟩
    rw [hb.block g (hB g rfl)]; exact hg
theorem ownsRow_belowAll {w w' : World} {base : Nat} {e : TypeId} {size : Nat} {v : Value} {n : Nat} {xs : List Value} (h : w.ownsRow base e size v n xs) (hb : Below w.heap.size w w') : w'.ownsRow base e size v n xs :=
  ownsRow_below h hb fun k hk => (h.lt k hk).2

theorem ownsRow_bx0 {w : World} {base g : Nat} {e : TypeId} {size : Nat} (h : w.heap[g]? = some (.cells #[] e (0, 0))) (hb : base ≤ g) : w.ownsRow base e size (.slice (some ⟨g, 0, none⟩) 0 0) 0 [] :=
  ⟨by simp, .inr ⟨g, 0, #[], rfl, hb, h, Nat.le_refl _, by simp [maxLen], by simp, by simp⟩⟩
theorem ownsRow_empty (w : World) (base g : Nat) (e : TypeId) (size : Nat) (hg : g = w.heap.size) (hb : base ≤ g) : (w.alloc (.cells #[] e)).ownsRow base e size (.slice (some ⟨g, 0, none⟩) 0 0) 0 [] := by
  subst hg
  exact World.ownsRow_made w #[] 0 hb (by simp [maxLen]) (by simp)
/-- a cell outside the own row, over an append -/
theorem grown_cell {w w' : World} {row : Option Nat} {b o : Nat} {v : Value} (hg : w.grownBy w' row) (h : w.cell? ⟨b, o, none⟩ = some v) (hne : some b ≠ row) : w'.cell? ⟨b, o, none⟩ = some v := hg.cell h hne
theorem grown_frozen {w w' : World} {row : Option Nat} {b o : Nat} (hg : w.grownBy w' row) (h : b < w.heap.size) (hne : some b ≠ row) : w'.frozen? ⟨b, o, none⟩ = w.frozen? ⟨b, o, none⟩ := World.frozen?_of_block (hg.block b h hne)

/-- a block of the call's own, known whole -/
def Bx (w : World) (b : Nat) (cs : Array Value) (t : TypeId) : Prop := w.heap[b]? = some (.cells cs t (0, 0))
theorem Bx.new (w : World) (cs : Array Value) (t : TypeId) : Bx (w.alloc (.cells cs t)) w.heap.size cs t := heap_alloc_new w _
theorem Bx.newAt (w : World) (cs : Array Value) (t : TypeId) (g : Nat) (hg : g = w.heap.size) : Bx (w.alloc (.cells cs t)) g cs t := hg ▸ Bx.new w cs t
theorem Bx.lt {w : World} {b : Nat} {cs : Array Value} {t : TypeId} (h : Bx w b cs t) : b < w.heap.size := (Array.getElem?_eq_some_iff.1 h).1
theorem Bx.alloc {w : World} {b : Nat} {cs : Array Value} {t : TypeId} (h : Bx w b cs t) (o : Obj) : Bx (w.alloc o) b cs t := (Below.heap_alloc w o b h.lt).trans h
theorem Bx.below {w w' : World} {B b : Nat} {cs : Array Value} {t : TypeId} (h : Bx w b cs t) (hb : Below B w w') (hB : b < B) : Bx w' b cs t := (hb.block b hB).trans h
theorem Bx.belowAll {w w' : World} {b : Nat} {cs : Array Value} {t : TypeId} (h : Bx w b cs t) (hb : Below w.heap.size w w') : Bx w' b cs t := h.below hb h.lt
theorem Bx.drew {w : World} {b : Nat} {cs : Array Value} {t : TypeId} (h : Bx w b cs t) : Bx w.drew b cs t := h
theorem Bx.drewN {w : World} {b : Nat} {cs : Array Value} {t : TypeId} (h : Bx w b cs t) (n : Nat) : Bx (w.drewN n) b cs t := h
theorem Bx.cell {w : World} {b : Nat} {cs : Array Value} {t : TypeId} (h : Bx w b cs t) (k : Nat) : w.cell? ⟨b, k, none⟩ = cs[k]? := by
  unfold Bx at h; simp [World.cell?, h]
theorem Bx.free {w : World} {b : Nat} {cs : Array Value} {t : TypeId} (h : Bx w b cs t) (k : Nat) : w.frozen? ⟨b, k, none⟩ = false := by
  unfold Bx at h; simp [World.frozen?, h]
theorem Bx.set {w : World} {b : Nat} {cs : Array Value} {t : TypeId} (h : Bx w b cs t) (k : Nat) (v : Value) : Bx (w.setCell ⟨b, k, none⟩ v) b (cs.setIfInBounds k v) t := heap_setCell_same w b k cs t v h
theorem Bx.setO {w : World} {b : Nat} {cs : Array Value} {t : TypeId} (h : Bx w b cs t) {a : Addr} (hne : b ≠ a.block) (v : Value) : Bx (w.setCell a v) b cs t := (Below.heap_setCell w a v b hne).trans h
theorem Bx.grown {w w' : World} {b : Nat} {cs : Array Value} {t : TypeId} {row : Option Nat} (h : Bx w b cs t) (hg : w.grownBy w' row) (hne : some b ≠ row) : Bx w' b cs t := (hg.block b h.lt hne).trans h

theorem RowAt.bx {w : World} {b : Nat} {cs : Array Value} {t : TypeId} (h : Bx w b cs t) : RowAt (· = b) w (some ⟨b, 0, none⟩) cs.toList := by
  intro j hj
  exact ⟨b, 0, rfl, by rw [h.cell]; simp at hj; simp [hj], rfl⟩
theorem ownsRow_set {w : World} {base : Nat} {e : TypeId} {size : Nat} {v : Value} {n : Nat} {xs : List Value} (h : w.ownsRow base e size v n xs) {a : Addr} (ha : v.ownBlock ≠ some a.block) (u : Value) : (w.setCell a u).ownsRow base e size v n xs := ownsRow_setCell_other h ha u

theorem Same.alloc {S : Nat → Prop} {w w' : World} (h : Same S w w') (hS : InS S w') (o : Obj) : Same S w (w'.alloc o) := fun b hb => (Below.heap_alloc w' o b (hS b hb)).trans (h b hb)
theorem Same.grown {S : Nat → Prop} {w w' w'' : World} {row : Option Nat} (h : Same S w w') (hg : w'.grownBy w'' row) (hS : InS S w') (hr : ∀ b, row = some b → ¬ S b) : Same S w w'' :=
  fun b hb => (hg.block b (hS b hb) fun e => hr b e.symm hb).trans (h b hb)
theorem Same.below {S : Nat → Prop} {w w' w'' : World} (h : Same S w w') (hb : Below w'.heap.size w' w'') (hS : InS S w') : Same S w w'' := fun b hs => (hb.block b (hS b hs)).trans (h b hs)
theorem InS.size {S : Nat → Prop} {w w' : World} (h : InS S w) (hz : w.heap.size ≤ w'.heap.size) : InS S w' := fun b hs => Nat.lt_of_lt_of_le (h b hs) hz
/-- four stores into one block: a struct of four cells -/
theorem Same.set4 {S : Nat → Prop} {w w' : World} {b : Nat} {v0 v1 v2 v3 : Value} (h : Same S w w') (hb : ¬ S b) :
    Same S w ((((w'.setCell ⟨b, 0, none⟩ v0).setCell ⟨b, 1, none⟩ v1).setCell ⟨b, 2, none⟩ v2).setCell ⟨b, 3, none⟩ v3) :=
  (((h.set (a := ⟨b, 0, none⟩) hb _).set (a := ⟨b, 1, none⟩) hb _).set (a := ⟨b, 2, none⟩) hb _).set (a := ⟨b, 3, none⟩) hb _
theorem Same.set1 {S : Nat → Prop} {w w' : World} {b k : Nat} {v : Value} (h : Same S w w') (hb : ¬ S b) : Same S w (w'.setCell ⟨b, k, none⟩ v) := h.set (a := ⟨b, k, none⟩) hb _
theorem below_set4 {B : Nat} {w w' : World} {b : Nat} {v0 v1 v2 v3 : Value} (h : Below B w w') (hb : B ≤ b) :
    Below B w ((((w'.setCell ⟨b, 0, none⟩ v0).setCell ⟨b, 1, none⟩ v1).setCell ⟨b, 2, none⟩ v2).setCell ⟨b, 3, none⟩ v3) :=
  (((h.setCell (p := ⟨b, 0, none⟩) hb _).setCell (p := ⟨b, 1, none⟩) hb _).setCell (p := ⟨b, 2, none⟩) hb _).setCell (p := ⟨b, 3, none⟩) hb _
theorem below_set1 {B : Nat} {w w' : World} {b k : Nat} {v : Value} (h : Below B w w') (hb : B ≤ b) : Below B w (w'.setCell ⟨b, k, none⟩ v) := h.setCell (p := ⟨b, k, none⟩) hb _
theorem Bx.set4 {w : World} {b : Nat} {u0 u1 u2 u3 v0 v1 v2 v3 : Value} {t : TypeId} (h : Bx w b #[u0, u1, u2, u3] t) :
    Bx ((((w.setCell ⟨b, 0, none⟩ v0).setCell ⟨b, 1, none⟩ v1).setCell ⟨b, 2, none⟩ v2).setCell ⟨b, 3, none⟩ v3) b #[v0, v1, v2, v3] t := by
  simpa using (((h.set 0 v0).set 1 v1).set 2 v2).set 3 v3
theorem Bx.setO4 {w : World} {b b' : Nat} {cs : Array Value} {v0 v1 v2 v3 : Value} {t : TypeId} (h : Bx w b cs t) (hne : b ≠ b') :
    Bx ((((w.setCell ⟨b', 0, none⟩ v0).setCell ⟨b', 1, none⟩ v1).setCell ⟨b', 2, none⟩ v2).setCell ⟨b', 3, none⟩ v3) b cs t :=
  (((h.setO (a := ⟨b', 0, none⟩) hne _).setO (a := ⟨b', 1, none⟩) hne _).setO (a := ⟨b', 2, none⟩) hne _).setO (a := ⟨b', 3, none⟩) hne _
theorem size_set4 {w : World} {b : Nat} {v0 v1 v2 v3 : Value} : ((((w.setCell ⟨b, 0, none⟩ v0).setCell ⟨b, 1, none⟩ v1).setCell ⟨b, 2, none⟩ v2).setCell ⟨b, 3, none⟩ v3).heap.size = w.heap.size := by simp

theorem ownsRow_setB {w : World} {base : Nat} {e : TypeId} {size : Nat} {v : Value} {n : Nat} {xs : List Value} (h : w.ownsRow base e size v n xs) {b k : Nat} (hb : b < base) (u : Value) : (w.setCell ⟨b, k, none⟩ u).ownsRow base e size v n xs :=
  ownsRow_setCell_below h (a := ⟨b, k, none⟩) hb u
theorem ownsRow_ne_bx {w : World} {base b : Nat} {e t : TypeId} {size : Nat} {v : Value} {n : Nat} {xs : List Value} {cs : Array Value} (h : w.ownsRow base e size v n xs) (hb : Bx w b cs t) (hne : e ≠ t) : v.ownBlock ≠ some b := by
  intro hv
  rcases h.2 with ⟨rfl, _⟩ | ⟨g, cap, cur, rfl, _, hg, _⟩
  · simp [Value.ownBlock] at hv
  · simp [Value.ownBlock] at hv
    subst hv
    unfold Bx at hb
    rw [hg] at hb
    simp at hb
    exact hne hb.2
theorem ownsRow_set4 {w : World} {base b : Nat} {e : TypeId} {size : Nat} {v : Value} {n : Nat} {xs : List Value} {v0 v1 v2 v3 : Value} (h : w.ownsRow base e size v n xs) (hb : v.ownBlock ≠ some b) :
    ((((w.setCell ⟨b, 0, none⟩ v0).setCell ⟨b, 1, none⟩ v1).setCell ⟨b, 2, none⟩ v2).setCell ⟨b, 3, none⟩ v3).ownsRow base e size v n xs :=
  ownsRow_set (ownsRow_set (ownsRow_set (ownsRow_set h (a := ⟨b, 0, none⟩) hb _) (a := ⟨b, 1, none⟩) hb _) (a := ⟨b, 2, none⟩) hb _) (a := ⟨b, 3, none⟩) hb _
theorem Same.of_grown {S : Nat → Prop} {w w' : World} {row : Option Nat} (hg : w.grownBy w' row) (hS : InS S w) (hr : ∀ b, row = some b → ¬ S b) : Same S w w' :=
  fun b hb => hg.block b (hS b hb) fun e => hr b e.symm hb

section
variable {S : Nat → Prop} {P : Program} {ops : Array Oper} {rest : List Oper} {o : Oper} {a : Act} {Q : Exit → Act → World → Prop} {w : World}
/-- 'append(s, x...)': s of the call's own (or nil), x whatever -/
theorem wp_app {K : Act → World → Prop} (s x : Operand) (t : TypeId)
    (hop : o.op = Op.call { callee := Callee.builtin Builtin.append, args := #[s, x], argTypes := #[t, t] })
    (base : Nat) (e : TypeId) (i : TypeInfo) (z : Value) (size bytes : Nat) (ht : P.underlying t = some (.slice e)) (hi : P.info? e = some i) (hz : i.zero = some z)
    (hsize : i.size = size) (hby : i.bytes = bytes) (hzs : z.cells.size = size) (hsz : 0 < size)
    (v : Value) (n : Nat) (xs : List Value) (hs : a.eval s = v) (hown : w.ownsRow base e size v n xs)
    (ao : Option Addr) (m c : Nat) (news : List Value) (hx : a.eval x = .slice ao m c) (hnone : ao = none → m = 0 ∧ c = 0) (hl : news.length = m * size) (hnews : RowAt S w ao news) (h1 : ∀ u ∈ news, u.oneCell' = true)
    (h63 : n + m ≤ maxLen) (hbytes : (n + m) * bytes ≤ 140737488355328) (hbase : base ≤ w.heap.size)
    (hK : ∀ v' w', w'.ownsRow base e size v' (n + m) (xs ++ news) → w.grownBy w' v.ownBlock → K (a.put o.dst v') w') :
    o.wp P a w K Q := by
  cases ao with
  | some ad => exact wp_append_own w s x t hop base e i z size bytes ht hi hz hsize hby hzs hsz v n xs hs hown ad m c news hx hl (hnews.src ad rfl) h1 h63 hbytes hbase fun v' w' h2 h3 _ => hK v' w' h2 h3
  | none =>
    obtain ⟨rfl, rfl⟩ := hnone rfl
    have hnews : news = [] := List.eq_nil_of_length_eq_zero (by simpa using hl)
    subst hnews
    have hrun := run_append_owned_none (P := P) w base t o.type e i size ht hi v n xs hown
    unfold Oper.wp
    simp [execOp, hop, resolve, invoke, builtin, hs, hx, hrun, Result.andThen]
    exact hK _ _ (by simpa using hown) (World.grownBy.refl _ _)
theorem step_app {K : Act → World → Prop} {E : Prop} (hgd : o.guard = none) (s x : Operand) (t : TypeId)
    (hop : o.op = Op.call { callee := Callee.builtin Builtin.append, args := #[s, x], argTypes := #[t, t] })
    (base : Nat) (e : TypeId) (i : TypeInfo) (z : Value) (size bytes : Nat) (ht : P.underlying t = some (.slice e)) (hi : P.info? e = some i) (hz : i.zero = some z)
    (hsize : i.size = size) (hby : i.bytes = bytes) (hzs : z.cells.size = size) (hsz : 0 < size)
    (v : Value) (n : Nat) (xs : List Value) (hs : a.eval s = v) (hown : w.ownsRow base e size v n xs)
    (ao : Option Addr) (m c : Nat) (news : List Value) (hx : a.eval x = .slice ao m c) (hnone : ao = none → m = 0 ∧ c = 0) (hl : news.length = m * size) (hnews : RowAt S w ao news) (h1 : ∀ u ∈ news, u.oneCell' = true)
    (h63 : n + m ≤ maxLen) (hbytes : (n + m) * bytes ≤ 140737488355328) (hbase : base ≤ w.heap.size)
    (hK : ∀ v' w', w'.ownsRow base e size v' (n + m) (xs ++ news) → w.grownBy w' v.ownBlock → K (a.put o.dst v') w') :
    if Region.wanted o (yielded ops a.tmps) = true then Oper.wp P o a w K Q else E := by
  rw [if_pos (by simp [Region.wanted, hgd])]
  exact wp_app s x t hop base e i z size bytes ht hi hz hsize hby hzs hsz v n xs hs hown ao m c news hx hnone hl hnews h1 h63 hbytes hbase hK
theorem wpList_app (hgd : o.guard = none) (s x : Operand) (t : TypeId)
    (hop : o.op = Op.call { callee := Callee.builtin Builtin.append, args := #[s, x], argTypes := #[t, t] })
    (base : Nat) (e : TypeId) (i : TypeInfo) (z : Value) (size bytes : Nat) (ht : P.underlying t = some (.slice e)) (hi : P.info? e = some i) (hz : i.zero = some z)
    (hsize : i.size = size) (hby : i.bytes = bytes) (hzs : z.cells.size = size) (hsz : 0 < size)
    (v : Value) (n : Nat) (xs : List Value) (hs : a.eval s = v) (hown : w.ownsRow base e size v n xs)
    (ao : Option Addr) (m c : Nat) (news : List Value) (hx : a.eval x = .slice ao m c) (hnone : ao = none → m = 0 ∧ c = 0) (hl : news.length = m * size) (hnews : RowAt S w ao news) (h1 : ∀ u ∈ news, u.oneCell' = true)
    (h63 : n + m ≤ maxLen) (hbytes : (n + m) * bytes ≤ 140737488355328) (hbase : base ≤ w.heap.size)
    (hK : ∀ v' w', w'.ownsRow base e size v' (n + m) (xs ++ news) → w.grownBy w' v.ownBlock → wpList P ops Q rest (a.put o.dst v') w') :
    wpList P ops Q (o :: rest) a w :=
  wpList_plain hgd fun _ hK' => wp_app s x t hop base e i z size bytes ht hi hz hsize hby hzs hsz v n xs hs hown ao m c news hx hnone hl hnews h1 h63 hbytes hbase fun v' w' h2 h3 => hK' _ _ (hK v' w' h2 h3)

/-- bytes as cells -/
def bytesV (l : List UInt8) : List Value := l.map fun u => Value.int .u8 (u.toNat : Int)
theorem bytesV_len (l : List UInt8) : (bytesV l).length = l.length := by simp [bytesV]
theorem bytesV_one (l : List UInt8) : ∀ u ∈ bytesV l, u.oneCell' = true := by
  intro u hu
  obtain ⟨_, _, rfl⟩ := List.mem_map.1 hu
  rfl
theorem strOf_bytes (l : List UInt8) : strOfNums (l.map fun u => (u.toNat : Int)) = ⟨l.toArray⟩ := by
  unfold strOfNums
  congr 2
  rw [List.map_map]
  conv => rhs; rw [← List.map_id l]
  apply List.map_congr_left
  intro u _
  simp
/-- 'string(b)' -/
theorem wpList_str (hgd : o.guard = none) (x : Operand) (src dst e : TypeId) (hop : o.op = .convert src dst x) (hs : P.underlying src = some (.slice e)) (he : P.underlying e = some (.int .u8)) (hd : P.underlying dst = some .string)
    (ao : Option Addr) (n c : Nat) (l : List UInt8) (hx : a.eval x = .slice ao n c) (hn : l.length = n) (hrow : RowAt S w ao (bytesV l))
    (hK : wpList P ops Q rest (a.put o.dst (.string ⟨l.toArray⟩)) w) : wpList P ops Q (o :: rest) a w := by
  refine wpList_plain hgd fun K hK' => ?_
  have hrun : (convert src dst (.slice ao n c)).run P w = .ok (.string ⟨l.toArray⟩) w := by
    cases ao with
    | none =>
      have : l = [] := by
        cases l with
        | nil => rfl
        | cons x l => obtain ⟨b, off, h, _⟩ := hrow 0 (by simp [bytesV]); cases h
      subst this
      rw [run_convert_bytes_nil w src e hs he _ _ dst hd]
      rfl
    | some ad =>
      cases l with
      | nil =>
        subst hn
        rw [run_convert_bytes_string w src dst e _ _ _ hs he hd]
        simp [Conv.bytesToString]
        rfl
      | cons y l =>
        obtain ⟨b, off, h, _⟩ := hrow 0 (by simp [bytesV])
        obtain rfl := Option.some.inj h
        rw [run_convert_bytes_arg w src e hs he b off n c ((y :: l).map fun u => (u.toNat : Int)) (by simpa using hn) (fun i hi => ?_) dst hd, strOf_bytes]
        obtain ⟨b', off', h', hc, _⟩ := hrow i (by simp [bytesV] at hn ⊢; omega)
        obtain ⟨rfl, rfl⟩ : b = b' ∧ off = off' := by simpa using h'
        have hi' : i < (y :: l).length := by omega
        rw [hc]
        simp only [bytesV, List.getElem_map]
        rw [List.getD, List.getElem?_map, List.getElem?_eq_getElem hi']
        rfl
  unfold Oper.wp
  simp [execOp, hop, hx, hrun, Result.andThen]
  exact hK' _ _ hK
end

section
variable {S : Nat → Prop} {P : Program} {ops : Array Oper} {rest : List Oper} {o : Oper} {a : Act} {Q : Exit → Act → World → Prop} {w : World}
theorem madeCells_one (z : Value) (n : Nat) : madeCells #[z] n = (List.replicate n z).toArray := by
  rw [← toList_madeCells_one]
/-- 'make([]T, n)', an element of one cell: the world written out -/
theorem wpList_makeB (hgd : o.guard = none) (l c : Operand) (t : TypeId) (hop : o.op = Op.makeSlice t l c)
    (e : TypeId) (i : TypeInfo) (z : Value) (bytes : Nat) (ht : P.underlying t = some (.slice e)) (hi : P.info? e = some i) (hz : i.zero = some z) (hsize : i.size = 1) (hby : i.bytes = bytes) (hzc : z.cells = #[z])
    (n : Nat) (hl : a.eval l = .int .i64 n) (hc : a.eval c = .int .i64 n) (hb : bytes * n ≤ 281474976710656) (h63 : n ≤ 9223372036854775807)
    (hK : ∀ w', Bx w' w.heap.size (List.replicate n z).toArray e → w.grownBy w' none → w'.heap.size = w.heap.size + 1 → wpList P ops Q rest (a.put o.dst (.slice (some ⟨w.heap.size, 0, none⟩) n n)) w') :
    wpList P ops Q (o :: rest) a w := by
  refine wpList_plain hgd fun K hK' => ?_
  have hb' : (i.bytes : Int) * (n : Int) ≤ 281474976710656 := by
    have h : ((i.bytes * n : Nat) : Int) ≤ 281474976710656 := by rw [hby]; omega
    rwa [Int.natCast_mul] at h
  have hrun := run_make (P := P) w t e i z ht hi hz .i64 .i64 n n (by omega) (Int.le_refl _) hb' (by omega)
  rw [hsize, hzc, Nat.mul_one, madeCells_one] at hrun
  simp only [Int.toNat_natCast] at hrun
  unfold Oper.wp
  simp [execOp, hop, hl, hc, hrun, Result.andThen]
  exact hK' _ _ (by simpa using hK _ (Bx.new w _ _) (World.grownBy_alloc w _ none) (World.size_alloc _ _))
/-- 'copy(d, s)' that fills a row of the call's own -/
theorem wpList_copyB (hgd : o.guard = none) (d s : Operand) (dT sT : TypeId)
    (ho : o.op = .call { callee := .builtin .copy, args := #[d, s], argTypes := #[dT, sT] }) (elem : TypeId) (hu : P.underlying dT = some (.slice elem)) (hsz : (P.info? elem).map (·.size) = some 1)
    (g n dc sc : Nat) (sp : Option Addr) (cur cs : List Value) (t : TypeId) (hd : a.eval d = .slice (some ⟨g, 0, none⟩) n dc) (hs : a.eval s = .slice sp n sc)
    (hg : Bx w g cur.toArray t) (hlen : cur.length = n) (hcs : cs.length = n) (hrow : RowAt S w sp cs) (h1 : ∀ v ∈ cs, v.oneCell' = true)
    (hK : ∀ w', Bx w' g cs.toArray t → w.grownBy w' (some g) → wpList P ops Q rest (a.put o.dst (goInt n)) w') :
    wpList P ops Q (o :: rest) a w := by
  by_cases h0 : n = 0
  · subst h0
    obtain rfl : cs = [] := List.eq_nil_of_length_eq_zero hcs
    obtain rfl : cur = [] := List.eq_nil_of_length_eq_zero hlen
    exact wpList_copy_nothing hgd d s dT sT ho elem hu hsz _ _ 0 dc 0 sc hd hs rfl (hK w hg (World.grownBy.refl _ _))
  · obtain ⟨b, off, rfl, _⟩ := hrow 0 (by omega)
    have hsrc := hrow.src _ rfl
    refine wpList_copy_own hgd d s dT sT ho elem hu hsz g 0 n dc _ n sc hd hs cur.toArray t hg cs (by simp [hcs]) hsrc (by simp; omega) h1 ?_
    have e2 : cs ++ cur.drop n = cs := by rw [List.drop_of_length_le (by omega), List.append_nil]
    have hK2 := hK (w.setRow g cs.toArray) (setRow_heap w g _ _ t _ hg) ⟨rfl, rfl, rfl, by simp [World.setRow], fun k _ hk => setRow_other w g k _ (fun e => hk (by simp [e]))⟩
    rw [hcs]
    simpa [e2] using hK2
end
end Go.Proofs.YtebgopdmeghmhaaGreat
