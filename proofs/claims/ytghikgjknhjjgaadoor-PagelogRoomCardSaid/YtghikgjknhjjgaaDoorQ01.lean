/- Memory, in general: rows of cells that can be read, appending to a row of the call's own from any source, and how such rows read afterwards. No function of the program is named here. The data of layer 40 as plain Lean, how they lie in memory, and what the functions of the layer compute. No function of the program is named here. What the other functions of layer 40 compute, as plain Lean; the shapes of their posts. What the functions of layer 41 (pagelog) compute, as plain Lean: numbers of 8 bytes, headers, streams of records, logs. No function of the program is named here. Plain laws: a stream of records reads as the records, and what reads as records is their stream. No function of the program is named here. -/
import Derived.Test.YtghikgjknhjjgaaDoorRows
import Derived.WalkKit
import Derived.Lib.Hide
import Derived.Deep.Draws
import Derived.Laws.CopyOwn
import Derived.Lib.ItoaNum
namespace Go.Proofs.YtghikgjknhjjgaaDoor
set_option maxRecDepth 100000
open Go.RowKit
theorem Below.drewN {B : Nat} {w w' : World} (h : Below B w w') (n : Nat) : Below B w (w'.drewN n) := ⟨h.os, h.tape, h.output, h.size, h.block⟩
/-- the header of a slice -/
def SlW (o : Option Addr) (n c : Nat) : Prop := (o = none ∧ n = 0 ∧ c = 0) ∨ (∃ a, o = some a ∧ n ≤ c ∧ c ≤ maxLen)
theorem SlW.nil {o : Option Addr} {n c : Nat} (h : SlW o n c) : o = none → n = 0 ∧ c = 0 := by
 intro e
 rcases h with ⟨_, h⟩ | ⟨a, h, _⟩
 ·
  exact h
 ·
  rw [e] at h; cases h
/-- 'S': a set of blocks; all of them there -/
def InS (S : Nat → Prop) (w : World) : Prop := ∀ b, S b → b < w.heap.size
/-- S, and what has been made since -/
def Gr (S : Nat → Prop) (w w' : World) (b : Nat) : Prop := S b ∨ (w.heap.size ≤ b ∧ b < w'.heap.size)
theorem Gr.new {S : Nat → Prop} {w w' : World} {b : Nat} (h : w.heap.size ≤ b) (h' : b < w'.heap.size) : Gr S w w' b := .inr ⟨h, h'⟩
theorem Gr.old {S : Nat → Prop} {w w' : World} {b : Nat} (h : S b) : Gr S w w' b := .inl h
theorem InS.below {S : Nat → Prop} {w w' : World} {B : Nat} (h : InS S w) (hb : Below B w w') : InS S w' := fun b hs => Nat.lt_of_lt_of_le (h b hs) hb.size
theorem InS.gr {S : Nat → Prop} {w w' : World} {B : Nat} (h : InS S w) (hb : Below B w w') : InS (Gr S w w') w' := by
 rintro b (hs | hs)
 ·
  exact Nat.lt_of_lt_of_le (h b hs) hb.size
 ·
  exact hs.2
def Same (S : Nat → Prop) (w w' : World) : Prop := ∀ b, S b → w'.heap[b]? = w.heap[b]?
theorem Same.refl (S : Nat → Prop) (w : World) : Same S w w := fun _ _ => rfl
theorem Same.set {S : Nat → Prop} {w w' : World} (h : Same S w w') {a : Addr} (ha : ¬ S a.block) (v : Value) : Same S w (w'.setCell a v) := fun b hb => (Below.heap_setCell w' a v b (fun e => ha (e ▸ hb))).trans (h b hb)
theorem Same.trans {S : Nat → Prop} {a b c : World} (h : Same S a b) (k : Same S b c) : Same S a c := fun i hi => (k i hi).trans (h i hi)
theorem Same.cell {S : Nat → Prop} {w w' : World} (h : Same S w w') {p : Addr} (hp : S p.block) : w'.cell? p = w.cell? p := World.cell?_of_block (w := w) (h p.block hp)
/-- the cells from an address on, in blocks of S -/
def RowAt (S : Nat → Prop) (w : World) (o : Option Addr) (l : List Value) : Prop :=
 ∀ j (h : j < l.length), ∃ b off, o = some ⟨b, off, none⟩ ∧ w.cell? ⟨b, off + j, none⟩ = some l[j] ∧ S b
theorem RowAt.below {S : Nat → Prop} {w w' : World} {o : Option Addr} {l : List Value} (h : RowAt S w o l) (hb : Below w.heap.size w w') : RowAt S w' o l := by
 intro i hi
 obtain ⟨b, off, ho, hc, hs⟩ := h i hi
 exact ⟨b, off, ho, by rw [hb.cell (World.block_lt_of_cell? w _ hc)]; exact hc, hs⟩
theorem RowAt.same {S : Nat → Prop} {w w' : World} {o : Option Addr} {l : List Value} (h : RowAt S w o l) (hb : Same S w w') : RowAt S w' o l := by
 intro i hi
 obtain ⟨b, off, ho, hc, hs⟩ := h i hi
 exact ⟨b, off, ho, by rw [hb.cell hs]; exact hc, hs⟩
theorem RowAt.mono {S T : Nat → Prop} {w : World} {o : Option Addr} {l : List Value} (h : RowAt S w o l) (hT : ∀ b, S b → T b) : RowAt T w o l := by
 intro i hi
 obtain ⟨b, off, ho, hc, hs⟩ := h i hi
 exact ⟨b, off, ho, hc, hT b hs⟩
theorem RowAt.nil (S : Nat → Prop) (w : World) (o : Option Addr) : RowAt S w o [] := by intro j h; exact absurd h (by simp)
theorem RowAt.src {S : Nat → Prop} {w : World} {o : Option Addr} {l : List Value} (h : RowAt S w o l) : ∀ ad, o = some ad → ∀ j u, l[j]? = some u → w.cell? (ad.add j) = some u := by
 intro ad e j u hu
 obtain ⟨hj, rfl⟩ := List.getElem?_eq_some_iff.1 hu
 obtain ⟨b, off, e', hc, _⟩ := h j hj
 rw [e] at e'
 obtain rfl := Option.some.inj e'
 rw [Addr.add_lit]
 exact hc
/-- what a call owns reads as a row -/
theorem ownsRow_at {w : World} {base : Nat} {e : TypeId} {size : Nat} {v : Value} {n : Nat} {xs : List Value} (h : w.ownsRow base e size v n xs) :
  ∃ o c, v = .slice o n c ∧ SlW o n c ∧ RowAt (fun b => base ≤ b ∧ b < w.heap.size) w o xs ∧ (Value.slice o n c).ownBlock = v.ownBlock := by
 rcases h.2 with ⟨rfl, rfl⟩ | ⟨g, cap, cur, rfl, hb, hg, h1, h2, h3, h4⟩
 ·
  have hx : xs = [] := List.eq_nil_of_length_eq_zero (by simpa using h.1)
  subst hx
  exact ⟨none, 0, rfl, .inl ⟨rfl, rfl, rfl⟩, RowAt.nil _ _ _, rfl⟩
 ·
  refine ⟨some ⟨g, 0, none⟩, cap, rfl, .inr ⟨_, rfl, h1, h2⟩, ?_, rfl⟩
  intro j hj
  refine ⟨g, 0, rfl, ?_, hb, (Array.getElem?_eq_some_iff.1 hg).1⟩
  have := h.cells (g := g) rfl j xs[j] (by simp [hj])
  rw [Addr.add_lit] at this
  exact this
theorem ownsRow_below {w w' : World} {B base : Nat} {e : TypeId} {size : Nat} {v : Value} {n : Nat} {xs : List Value} (h : w.ownsRow base e size v n xs) (hb : Below B w w') (hB : ∀ k, v.ownBlock = some k → k < B) : w'.ownsRow base e size v n xs := by
 refine ⟨h.1, ?_⟩
 rcases h.2 with hn | ⟨g, cap, cur, rfl, hbg, hg, rest⟩
 ·
  exact .inl hn
 ·
  refine .inr ⟨g, cap, cur, rfl, hbg, ?_, rest⟩
  rw [hb.block g (hB g rfl)]; exact hg
theorem ownsRow_belowAll {w w' : World} {base : Nat} {e : TypeId} {size : Nat} {v : Value} {n : Nat} {xs : List Value} (h : w.ownsRow base e size v n xs) (hb : Below w.heap.size w w') : w'.ownsRow base e size v n xs :=
 ownsRow_below h hb fun k hk => (h.lt k hk).2
/-- a cell outside the own row, over an append -/
theorem grown_cell {w w' : World} {row : Option Nat} {b o : Nat} {v : Value} (hg : w.grownBy w' row) (h : w.cell? ⟨b, o, none⟩ = some v) (hne : some b ≠ row) : w'.cell? ⟨b, o, none⟩ = some v := hg.cell h hne
/-- a block of the call's own, known whole -/
def Bx (w : World) (b : Nat) (cs : Array Value) (t : TypeId) : Prop := w.heap[b]? = some (.cells cs t (0, 0))
theorem Bx.new (w : World) (cs : Array Value) (t : TypeId) : Bx (w.alloc (.cells cs t)) w.heap.size cs t := heap_alloc_new w _
theorem Bx.newAt (w : World) (cs : Array Value) (t : TypeId) (g : Nat) (hg : g = w.heap.size) : Bx (w.alloc (.cells cs t)) g cs t := hg ▸ Bx.new w cs t
theorem Bx.lt {w : World} {b : Nat} {cs : Array Value} {t : TypeId} (h : Bx w b cs t) : b < w.heap.size := (Array.getElem?_eq_some_iff.1 h).1
theorem Bx.alloc {w : World} {b : Nat} {cs : Array Value} {t : TypeId} (h : Bx w b cs t) (o : Obj) : Bx (w.alloc o) b cs t := (Below.heap_alloc w o b h.lt).trans h
theorem Bx.below {w w' : World} {B b : Nat} {cs : Array Value} {t : TypeId} (h : Bx w b cs t) (hb : Below B w w') (hB : b < B) : Bx w' b cs t := (hb.block b hB).trans h
theorem Bx.belowAll {w w' : World} {b : Nat} {cs : Array Value} {t : TypeId} (h : Bx w b cs t) (hb : Below w.heap.size w w') : Bx w' b cs t := h.below hb h.lt
theorem Bx.drew {w : World} {b : Nat} {cs : Array Value} {t : TypeId} (h : Bx w b cs t) : Bx w.drew b cs t := h
theorem Bx.drewN {w : World} {b : Nat} {cs : Array Value} {t : TypeId} (h : Bx w b cs t) (n : Nat) : Bx (w.drewN n) b cs t := h
theorem Bx.cell {w : World} {b : Nat} {cs : Array Value} {t : TypeId} (h : Bx w b cs t) (k : Nat) : w.cell? ⟨b, k, none⟩ = cs[k]? := by
 unfold Bx at h; simp [World.cell?, h]
theorem Bx.free {w : World} {b : Nat} {cs : Array Value} {t : TypeId} (h : Bx w b cs t) (k : Nat) : w.frozen? ⟨b, k, none⟩ = false := by
 unfold Bx at h; simp [World.frozen?, h]
theorem Bx.set {w : World} {b : Nat} {cs : Array Value} {t : TypeId} (h : Bx w b cs t) (k : Nat) (v : Value) : Bx (w.setCell ⟨b, k, none⟩ v) b (cs.setIfInBounds k v) t := heap_setCell_same w b k cs t v h
theorem Bx.setO {w : World} {b : Nat} {cs : Array Value} {t : TypeId} (h : Bx w b cs t) {a : Addr} (hne : b ≠ a.block) (v : Value) : Bx (w.setCell a v) b cs t := (Below.heap_setCell w a v b hne).trans h
theorem Bx.grown {w w' : World} {b : Nat} {cs : Array Value} {t : TypeId} {row : Option Nat} (h : Bx w b cs t) (hg : w.grownBy w' row) (hne : some b ≠ row) : Bx w' b cs t := (hg.block b h.lt hne).trans h
theorem RowAt.bx {w : World} {b : Nat} {cs : Array Value} {t : TypeId} (h : Bx w b cs t) : RowAt (· = b) w (some ⟨b, 0, none⟩) cs.toList := by
 intro j hj
 exact ⟨b, 0, rfl, by rw [h.cell]; simp at hj; simp [hj], rfl⟩
theorem Same.alloc {S : Nat → Prop} {w w' : World} (h : Same S w w') (hS : InS S w') (o : Obj) : Same S w (w'.alloc o) := fun b hb => (Below.heap_alloc w' o b (hS b hb)).trans (h b hb)
theorem Same.grown {S : Nat → Prop} {w w' w'' : World} {row : Option Nat} (h : Same S w w') (hg : w'.grownBy w'' row) (hS : InS S w') (hr : ∀ b, row = some b → ¬ S b) : Same S w w'' :=
 fun b hb => (hg.block b (hS b hb) fun e => hr b e.symm hb).trans (h b hb)
theorem Same.below {S : Nat → Prop} {w w' w'' : World} (h : Same S w w') (hb : Below w'.heap.size w' w'') (hS : InS S w') : Same S w w'' := fun b hs => (hb.block b (hS b hs)).trans (h b hs)
theorem InS.size {S : Nat → Prop} {w w' : World} (h : InS S w) (hz : w.heap.size ≤ w'.heap.size) : InS S w' := fun b hs => Nat.lt_of_lt_of_le (h b hs) hz
/-- four stores into one block: a struct of four cells -/
theorem Same.set4 {S : Nat → Prop} {w w' : World} {b : Nat} {v0 v1 v2 v3 : Value} (h : Same S w w') (hb : ¬ S b) :
  Same S w ((((w'.setCell ⟨b, 0, none⟩ v0).setCell ⟨b, 1, none⟩ v1).setCell ⟨b, 2, none⟩ v2).setCell ⟨b, 3, none⟩ v3) :=
 (((h.set (a := ⟨b, 0, none⟩) hb _).set (a := ⟨b, 1, none⟩) hb _).set (a := ⟨b, 2, none⟩) hb _).set (a := ⟨b, 3, none⟩) hb _
theorem Same.set1 {S : Nat → Prop} {w w' : World} {b k : Nat} {v : Value} (h : Same S w w') (hb : ¬ S b) : Same S w (w'.setCell ⟨b, k, none⟩ v) := h.set (a := ⟨b, k, none⟩) hb _
theorem below_set4 {B : Nat} {w w' : World} {b : Nat} {v0 v1 v2 v3 : Value} (h : Below B w w') (hb : B ≤ b) :
  Below B w ((((w'.setCell ⟨b, 0, none⟩ v0).setCell ⟨b, 1, none⟩ v1).setCell ⟨b, 2, none⟩ v2).setCell ⟨b, 3, none⟩ v3) :=
 (((h.setCell (p := ⟨b, 0, none⟩) hb _).setCell (p := ⟨b, 1, none⟩) hb _).setCell (p := ⟨b, 2, none⟩) hb _).setCell (p := ⟨b, 3, none⟩) hb _
theorem below_set1 {B : Nat} {w w' : World} {b k : Nat} {v : Value} (h : Below B w w') (hb : B ≤ b) : Below B w (w'.setCell ⟨b, k, none⟩ v) := h.setCell (p := ⟨b, k, none⟩) hb _
theorem Bx.set4 {w : World} {b : Nat} {u0 u1 u2 u3 v0 v1 v2 v3 : Value} {t : TypeId} (h : Bx w b #[u0, u1, u2, u3] t) :
  Bx ((((w.setCell ⟨b, 0, none⟩ v0).setCell ⟨b, 1, none⟩ v1).setCell ⟨b, 2, none⟩ v2).setCell ⟨b, 3, none⟩ v3) b #[v0, v1, v2, v3] t := by
 simpa using (((h.set 0 v0).set 1 v1).set 2 v2).set 3 v3
theorem Bx.setO4 {w : World} {b b' : Nat} {cs : Array Value} {v0 v1 v2 v3 : Value} {t : TypeId} (h : Bx w b cs t) (hne : b ≠ b') :
  Bx ((((w.setCell ⟨b', 0, none⟩ v0).setCell ⟨b', 1, none⟩ v1).setCell ⟨b', 2, none⟩ v2).setCell ⟨b', 3, none⟩ v3) b cs t :=
 (((h.setO (a := ⟨b', 0, none⟩) hne _).setO (a := ⟨b', 1, none⟩) hne _).setO (a := ⟨b', 2, none⟩) hne _).setO (a := ⟨b', 3, none⟩) hne _
theorem size_set4 {w : World} {b : Nat} {v0 v1 v2 v3 : Value} : ((((w.setCell ⟨b, 0, none⟩ v0).setCell ⟨b, 1, none⟩ v1).setCell ⟨b, 2, none⟩ v2).setCell ⟨b, 3, none⟩ v3).heap.size = w.heap.size := by simp
theorem ownsRow_setB {w : World} {base : Nat} {e : TypeId} {size : Nat} {v : Value} {n : Nat} {xs : List Value} (h : w.ownsRow base e size v n xs) {b k : Nat} (hb : b < base) (u : Value) : (w.setCell ⟨b, k, none⟩ u).ownsRow base e size v n xs :=
 ownsRow_setCell_below h (a := ⟨b, k, none⟩) hb u
theorem ownsRow_ne_bx {w : World} {base b : Nat} {e t : TypeId} {size : Nat} {v : Value} {n : Nat} {xs : List Value} {cs : Array Value} (h : w.ownsRow base e size v n xs) (hb : Bx w b cs t) (hne : e ≠ t) : v.ownBlock ≠ some b := by
 intro hv
 rcases h.2 with ⟨rfl, _⟩ | ⟨g, cap, cur, rfl, _, hg, _⟩
 ·
  simp [Value.ownBlock] at hv
 ·
  simp [Value.ownBlock] at hv
  subst hv
  unfold Bx at hb
  rw [hg] at hb
  simp at hb
  exact hne hb.2
theorem Same.of_grown {S : Nat → Prop} {w w' : World} {row : Option Nat} (hg : w.grownBy w' row) (hS : InS S w) (hr : ∀ b, row = some b → ¬ S b) : Same S w w' :=
 fun b hb => hg.block b (hS b hb) fun e => hr b e.symm hb
section
variable {S : Nat → Prop} {P : Program} {ops : Array Oper} {rest : List Oper} {o : Oper} {a : Act} {Q : Exit → Act → World → Prop} {w : World}
/-- 'append(s, x...)': s of the call's own (or nil), x whatever -/
theorem wp_app {K : Act → World → Prop} (s x : Operand) (t : TypeId)
  (hop : o.op = Op.call { callee := Callee.builtin Builtin.append, args := #[s, x], argTypes := #[t, t] })
  (base : Nat) (e : TypeId) (i : TypeInfo) (z : Value) (size bytes : Nat) (ht : P.underlying t = some (.slice e)) (hi : P.info? e = some i) (hz : i.zero = some z)
  (hsize : i.size = size) (hby : i.bytes = bytes) (hzs : z.cells.size = size) (hsz : 0 < size)
  (v : Value) (n : Nat) (xs : List Value) (hs : a.eval s = v) (hown : w.ownsRow base e size v n xs)
  (ao : Option Addr) (m c : Nat) (news : List Value) (hx : a.eval x = .slice ao m c) (hnone : ao = none → m = 0 ∧ c = 0) (hl : news.length = m * size) (hnews : RowAt S w ao news) (h1 : ∀ u ∈ news, u.oneCell' = true)
  (h63 : n + m ≤ maxLen) (hbytes : (n + m) * bytes ≤ 140737488355328) (hbase : base ≤ w.heap.size)
  (hK : ∀ v' w', w'.ownsRow base e size v' (n + m) (xs ++ news) → w.grownBy w' v.ownBlock → K (a.put o.dst v') w') :
  o.wp P a w K Q := by
 cases ao with
 | some ad => exact wp_append_own w s x t hop base e i z size bytes ht hi hz hsize hby hzs hsz v n xs hs hown ad m c news hx hl (hnews.src ad rfl) h1 h63 hbytes hbase fun v' w' h2 h3 _ => hK v' w' h2 h3
 | none =>
  obtain ⟨rfl, rfl⟩ := hnone rfl
  have hnews : news = [] := List.eq_nil_of_length_eq_zero (by simpa using hl)
  subst hnews
  have hrun := run_append_owned_none (P := P) w base t o.type e i size ht hi v n xs hown
  unfold Oper.wp
  simp [execOp, hop, resolve, invoke, builtin, hs, hx, hrun, Result.andThen]
  exact hK _ _ (by simpa using hown) (World.grownBy.refl _ _)
theorem step_app {K : Act → World → Prop} {E : Prop} (hgd : o.guard = none) (s x : Operand) (t : TypeId)
  (hop : o.op = Op.call { callee := Callee.builtin Builtin.append, args := #[s, x], argTypes := #[t, t] })
  (base : Nat) (e : TypeId) (i : TypeInfo) (z : Value) (size bytes : Nat) (ht : P.underlying t = some (.slice e)) (hi : P.info? e = some i) (hz : i.zero = some z)
  (hsize : i.size = size) (hby : i.bytes = bytes) (hzs : z.cells.size = size) (hsz : 0 < size)
  (v : Value) (n : Nat) (xs : List Value) (hs : a.eval s = v) (hown : w.ownsRow base e size v n xs)
  (ao : Option Addr) (m c : Nat) (news : List Value) (hx : a.eval x = .slice ao m c) (hnone : ao = none → m = 0 ∧ c = 0) (hl : news.length = m * size) (hnews : RowAt S w ao news) (h1 : ∀ u ∈ news, u.oneCell' = true)
  (h63 : n + m ≤ maxLen) (hbytes : (n + m) * bytes ≤ 140737488355328) (hbase : base ≤ w.heap.size)
  (hK : ∀ v' w', w'.ownsRow base e size v' (n + m) (xs ++ news) → w.grownBy w' v.ownBlock → K (a.put o.dst v') w') :
  if Region.wanted o (yielded ops a.tmps) = true then Oper.wp P o a w K Q else E := by
 rw [if_pos (by simp [Region.wanted, hgd])]
 exact wp_app s x t hop base e i z size bytes ht hi hz hsize hby hzs hsz v n xs hs hown ao m c news hx hnone hl hnews h1 h63 hbytes hbase hK
theorem wpList_app (hgd : o.guard = none) (s x : Operand) (t : TypeId)
  (hop : o.op = Op.call { callee := Callee.builtin Builtin.append, args := #[s, x], argTypes := #[t, t] })
  (base : Nat) (e : TypeId) (i : TypeInfo) (z : Value) (size bytes : Nat) (ht : P.underlying t = some (.slice e)) (hi : P.info? e = some i) (hz : i.zero = some z)
  (hsize : i.size = size) (hby : i.bytes = bytes) (hzs : z.cells.size = size) (hsz : 0 < size)
  (v : Value) (n : Nat) (xs : List Value) (hs : a.eval s = v) (hown : w.ownsRow base e size v n xs)
  (ao : Option Addr) (m c : Nat) (news : List Value) (hx : a.eval x = .slice ao m c) (hnone : ao = none → m = 0 ∧ c = 0) (hl : news.length = m * size) (hnews : RowAt S w ao news) (h1 : ∀ u ∈ news, u.oneCell' = true)
  (h63 : n + m ≤ maxLen) (hbytes : (n + m) * bytes ≤ 140737488355328) (hbase : base ≤ w.heap.size)
  (hK : ∀ v' w', w'.ownsRow base e size v' (n + m) (xs ++ news) → w.grownBy w' v.ownBlock → wpList P ops Q rest (a.put o.dst v') w') :
  wpList P ops Q (o :: rest) a w :=
 wpList_plain hgd fun _ hK' => wp_app s x t hop base e i z size bytes ht hi hz hsize hby hzs hsz v n xs hs hown ao m c news hx hnone hl hnews h1 h63 hbytes hbase fun v' w' h2 h3 => hK' _ _ (hK v' w' h2 h3)
/-- bytes as cells -/
def bytesV (l : List UInt8) : List Value := l.map fun u => Value.int .u8 (u.toNat : Int)
theorem bytesV_len (l : List UInt8) : (bytesV l).length = l.length := by simp [bytesV]
theorem strOf_bytes (l : List UInt8) : strOfNums (l.map fun u => (u.toNat : Int)) = ⟨l.toArray⟩ := by
 unfold strOfNums
 congr 2
 rw [List.map_map]
 conv => rhs; rw [← List.map_id l]
 apply List.map_congr_left
 intro u _
 simp
/-- 'string(b)' -/
theorem wpList_str (hgd : o.guard = none) (x : Operand) (src dst e : TypeId) (hop : o.op = .convert src dst x) (hs : P.underlying src = some (.slice e)) (he : P.underlying e = some (.int .u8)) (hd : P.underlying dst = some .string)
  (ao : Option Addr) (n c : Nat) (l : List UInt8) (hx : a.eval x = .slice ao n c) (hn : l.length = n) (hrow : RowAt S w ao (bytesV l))
  (hK : wpList P ops Q rest (a.put o.dst (.string ⟨l.toArray⟩)) w) : wpList P ops Q (o :: rest) a w := by
 refine wpList_plain hgd fun K hK' => ?_
 have hrun : (convert src dst (.slice ao n c)).run P w = .ok (.string ⟨l.toArray⟩) w := by
  cases ao with
  | none =>
   have : l = [] := by
    cases l with
    | nil => rfl
    | cons x l => obtain ⟨b, off, h, _⟩ := hrow 0 (by simp [bytesV]); cases h
   subst this
   rw [run_convert_bytes_nil w src e hs he _ _ dst hd]
   rfl
  | some ad =>
   cases l with
   | nil =>
    subst hn
    rw [run_convert_bytes_string w src dst e _ _ _ hs he hd]
    simp [Conv.bytesToString]
    rfl
   | cons y l =>
    obtain ⟨b, off, h, _⟩ := hrow 0 (by simp [bytesV])
    obtain rfl := Option.some.inj h
    rw [run_convert_bytes_arg w src e hs he b off n c ((y :: l).map fun u => (u.toNat : Int)) (by simpa using hn) (fun i hi => ?_) dst hd, strOf_bytes]
    obtain ⟨b', off', h', hc, _⟩ := hrow i (by simp [bytesV] at hn ⊢; omega)
    obtain ⟨rfl, rfl⟩ : b = b' ∧ off = off' := by simpa using h'
    have hi' : i < (y :: l).length := by omega
    rw [hc]
    simp only [bytesV, List.getElem_map]
    rw [List.getD, List.getElem?_map, List.getElem?_eq_getElem hi']
    rfl
 unfold Oper.wp
 simp [execOp, hop, hx, hrun, Result.andThen]
 exact hK' _ _ hK
end
section
variable {S : Nat → Prop} {P : Program} {ops : Array Oper} {rest : List Oper} {o : Oper} {a : Act} {Q : Exit → Act → World → Prop} {w : World}
theorem madeCells_one (z : Value) (n : Nat) : madeCells #[z] n = (List.replicate n z).toArray := by
 rw [← toList_madeCells_one]
/-- 'make([]T, n)', an element of one cell: the world written out -/
theorem wpList_makeB (hgd : o.guard = none) (l c : Operand) (t : TypeId) (hop : o.op = Op.makeSlice t l c)
  (e : TypeId) (i : TypeInfo) (z : Value) (bytes : Nat) (ht : P.underlying t = some (.slice e)) (hi : P.info? e = some i) (hz : i.zero = some z) (hsize : i.size = 1) (hby : i.bytes = bytes) (hzc : z.cells = #[z])
  (n : Nat) (hl : a.eval l = .int .i64 n) (hc : a.eval c = .int .i64 n) (hb : bytes * n ≤ 281474976710656) (h63 : n ≤ 9223372036854775807)
  (hK : ∀ w', Bx w' w.heap.size (List.replicate n z).toArray e → w.grownBy w' none → w'.heap.size = w.heap.size + 1 → wpList P ops Q rest (a.put o.dst (.slice (some ⟨w.heap.size, 0, none⟩) n n)) w') :
  wpList P ops Q (o :: rest) a w := by
 refine wpList_plain hgd fun K hK' => ?_
 have hb' : (i.bytes : Int) * (n : Int) ≤ 281474976710656 := by
  have h : ((i.bytes * n : Nat) : Int) ≤ 281474976710656 := by rw [hby]; omega
  rwa [Int.natCast_mul] at h
 have hrun := run_make (P := P) w t e i z ht hi hz .i64 .i64 n n (by omega) (Int.le_refl _) hb' (by omega)
 rw [hsize, hzc, Nat.mul_one, madeCells_one] at hrun
 simp only [Int.toNat_natCast] at hrun
 unfold Oper.wp
 simp [execOp, hop, hl, hc, hrun, Result.andThen]
 exact hK' _ _ (by simpa using hK _ (Bx.new w _ _) (World.grownBy_alloc w _ none) (World.size_alloc _ _))
/-- 'copy(d, s)' that fills a row of the call's own -/
theorem wpList_copyB (hgd : o.guard = none) (d s : Operand) (dT sT : TypeId)
  (ho : o.op = .call { callee := .builtin .copy, args := #[d, s], argTypes := #[dT, sT] }) (elem : TypeId) (hu : P.underlying dT = some (.slice elem)) (hsz : (P.info? elem).map (·.size) = some 1)
  (g n dc sc : Nat) (sp : Option Addr) (cur cs : List Value) (t : TypeId) (hd : a.eval d = .slice (some ⟨g, 0, none⟩) n dc) (hs : a.eval s = .slice sp n sc)
  (hg : Bx w g cur.toArray t) (hlen : cur.length = n) (hcs : cs.length = n) (hrow : RowAt S w sp cs) (h1 : ∀ v ∈ cs, v.oneCell' = true)
  (hK : ∀ w', Bx w' g cs.toArray t → w.grownBy w' (some g) → wpList P ops Q rest (a.put o.dst (goInt n)) w') :
  wpList P ops Q (o :: rest) a w := by
 by_cases h0 : n = 0
 ·
  subst h0
  obtain rfl : cs = [] := List.eq_nil_of_length_eq_zero hcs
  obtain rfl : cur = [] := List.eq_nil_of_length_eq_zero hlen
  exact wpList_copy_nothing hgd d s dT sT ho elem hu hsz _ _ 0 dc 0 sc hd hs rfl (hK w hg (World.grownBy.refl _ _))
 ·
  obtain ⟨b, off, rfl, _⟩ := hrow 0 (by omega)
  have hsrc := hrow.src _ rfl
  refine wpList_copy_own hgd d s dT sT ho elem hu hsz g 0 n dc _ n sc hd hs cur.toArray t hg cs (by simp [hcs]) hsrc (by simp; omega) h1 ?_
  have e2 : cs ++ cur.drop n = cs := by rw [List.drop_of_length_le (by omega), List.append_nil]
  have hK2 := hK (w.setRow g cs.toArray) (setRow_heap w g _ _ t _ hg) ⟨rfl, rfl, rfl, by simp [World.setRow], fun k _ hk => setRow_other w g k _ (fun e => hk (by simp [e]))⟩
  rw [hcs]
  simpa [e2] using hK2
end
end Go.Proofs.YtghikgjknhjjgaaDoor
namespace Go.Proofs.YtghikgjknhjjgaaDoor
set_option maxRecDepth 100000
open Go.RowKit
structure PW where
 page : Int
 data : ByteArray
structure Dsk where
 size : Int
 pages : List ByteArray
 cache : List PW
 left : Int
def StrsAt (S : Nat → Prop) (w : World) (o : Option Addr) (l : List ByteArray) : Prop :=
 ∀ i (h : i < l.length), ∃ b off, o = some ⟨b, off, none⟩ ∧ w.cell? ⟨b, off + i, none⟩ = some (.string l[i]) ∧ S b
def PWsAt (S : Nat → Prop) (w : World) (o : Option Addr) (l : List PW) : Prop :=
 ∀ i (h : i < l.length), ∃ b off, o = some ⟨b, off, none⟩ ∧ w.cell? ⟨b, off + i * 2, none⟩ = some (.int .i64 l[i].page) ∧ w.cell? ⟨b, off + i * 2 + 1, none⟩ = some (.string l[i].data) ∧ S b
def cellsPW (l : List PW) : List Value := l.flatMap fun x => [.int .i64 x.page, .string x.data]
theorem cellsPW_len (l : List PW) : (cellsPW l).length = l.length * 2 := by
 induction l with
 | nil => rfl
 | cons x l ih => simp only [cellsPW, List.flatMap_cons, List.length_append, List.length_cons, List.length_nil] at *; omega
theorem cellsPW_app (l m : List PW) : cellsPW (l ++ m) = cellsPW l ++ cellsPW m := by simp [cellsPW]
theorem cellsPW_get (l : List PW) : ∀ i (h : i < l.length), (cellsPW l)[i * 2]? = some (.int .i64 l[i].page) ∧ (cellsPW l)[i * 2 + 1]? = some (.string l[i].data) := by
 induction l with
 | nil => intro i h; simp at h
 | cons x l ih =>
  intro i h
  cases i with
  | zero => simp [cellsPW]
  | succ i =>
   have := ih i (by simpa using h)
   have e : (i + 1) * 2 = i * 2 + 2 := by omega
   rw [e]
   simpa [cellsPW] using this
theorem cellsPW_one (l : List PW) : ∀ u ∈ cellsPW l, u.oneCell' = true := by
 intro u hu
 obtain ⟨x, _, hx⟩ := List.mem_flatMap.1 hu
 simp at hx
 rcases hx with rfl | rfl <;> rfl
theorem PWsAt.of_row {S : Nat → Prop} {w : World} {o : Option Addr} {l : List PW} (h : RowAt S w o (cellsPW l)) : PWsAt S w o l := by
 intro i hi
 have hlen := cellsPW_len l
 obtain ⟨g1, g2⟩ := cellsPW_get l i hi
 obtain ⟨b, off, e, hc, hs⟩ := h (i * 2) (by omega)
 obtain ⟨b', off', e', hc', _⟩ := h (i * 2 + 1) (by omega)
 rw [e] at e'
 obtain ⟨rfl, rfl⟩ : b = b' ∧ off = off' := by simpa using e'
 refine ⟨b, off, e, by rw [hc]; rw [List.getElem?_eq_getElem (by omega)] at g1; exact g1, ?_, hs⟩
 rw [Nat.add_assoc, hc']
 rw [List.getElem?_eq_getElem (by omega)] at g2; exact g2
theorem PWsAt.row {S : Nat → Prop} {w : World} {o : Option Addr} {l : List PW} (h : PWsAt S w o l) : RowAt S w o (cellsPW l) := by
 intro j hj
 have hlen := cellsPW_len l
 have hi : j / 2 < l.length := by omega
 obtain ⟨g1, g2⟩ := cellsPW_get l (j / 2) hi
 obtain ⟨b, off, e, hc, hc', hs⟩ := h (j / 2) hi
 refine ⟨b, off, e, ?_, hs⟩
 rcases Nat.mod_two_eq_zero_or_one j with hm | hm
 ·
  have ej : j / 2 * 2 = j := by omega
  rw [ej] at hc g1
  rw [hc, ← g1, List.getElem?_eq_getElem hj]
 ·
  have ej : j / 2 * 2 + 1 = j := by omega
  rw [ej] at g2
  rw [show off + j = off + j / 2 * 2 + 1 by omega, hc', ← g2, List.getElem?_eq_getElem hj]
theorem StrsAt.of_row {S : Nat → Prop} {w : World} {o : Option Addr} {l : List ByteArray} (h : RowAt S w o (l.map .string)) : StrsAt S w o l := by
 intro i hi
 obtain ⟨b, off, e, hc, hs⟩ := h i (by simpa using hi)
 exact ⟨b, off, e, by simpa using hc, hs⟩
theorem StrsAt.row {S : Nat → Prop} {w : World} {o : Option Addr} {l : List ByteArray} (h : StrsAt S w o l) : RowAt S w o (l.map .string) := by
 intro i hi
 obtain ⟨b, off, e, hc, hs⟩ := h i (by simpa using hi)
 exact ⟨b, off, e, by simpa using hc, hs⟩
section
variable {S T : Nat → Prop} {w w' : World} {o : Option Addr}
theorem StrsAt.below {l : List ByteArray} (h : StrsAt S w o l) (hb : Below w.heap.size w w') : StrsAt S w' o l := .of_row (h.row.below hb)
theorem StrsAt.same {l : List ByteArray} (h : StrsAt S w o l) (hb : Same S w w') : StrsAt S w' o l := .of_row (h.row.same hb)
theorem StrsAt.mono {l : List ByteArray} (h : StrsAt S w o l) (hT : ∀ b, S b → T b) : StrsAt T w o l := .of_row (h.row.mono hT)
theorem PWsAt.below {l : List PW} (h : PWsAt S w o l) (hb : Below w.heap.size w w') : PWsAt S w' o l := .of_row (h.row.below hb)
theorem PWsAt.same {l : List PW} (h : PWsAt S w o l) (hb : Same S w w') : PWsAt S w' o l := .of_row (h.row.same hb)
theorem PWsAt.mono {l : List PW} (h : PWsAt S w o l) (hT : ∀ b, S b → T b) : PWsAt T w o l := .of_row (h.row.mono hT)
end
theorem strs_one (l : List ByteArray) : ∀ u ∈ l.map Value.string, u.oneCell' = true := by
 intro u hu
 obtain ⟨x, _, rfl⟩ := List.mem_map.1 hu
 rfl
/-- sizes that a form's reach or a walk's own results have; the headers of the two slices -/
structure DskOk (d : Dsk) (po co : Option Addr) (pc cc : Nat) : Prop where
 slp : SlW po d.pages.length pc
 slc : SlW co d.cache.length cc
 pages : d.pages.length ≤ 140737488351232
 cache : d.cache.length ≤ 140737488351232
 strs : ∀ s ∈ d.pages, s.size ≤ 140737488351232
 datas : ∀ x ∈ d.cache, x.data.size ≤ 140737488351232
 left : -9223372036854775808 ≤ d.left ∧ d.left ≤ 9223372036854775807
/-- the value v is the disk d in the world w, its slices in blocks of S -/
def DskR (S : Nat → Prop) (w : World) (v : Value) (d : Dsk) : Prop :=
 ∃ po pc co cc, v = .agg #[.int .i64 d.size, .slice po d.pages.length pc, .slice co d.cache.length cc, .int .i64 d.left] ∧ StrsAt S w po d.pages ∧ PWsAt S w co d.cache ∧ DskOk d po co pc cc
section
variable {S T : Nat → Prop} {w w' : World} {v : Value} {d : Dsk}
theorem DskR.below (h : DskR S w v d) (hb : Below w.heap.size w w') : DskR S w' v d := by
 obtain ⟨po, pc, co, cc, e, hp, hc, ok⟩ := h
 exact ⟨po, pc, co, cc, e, hp.below hb, hc.below hb, ok⟩
theorem DskR.same (h : DskR S w v d) (hb : Same S w w') : DskR S w' v d := by
 obtain ⟨po, pc, co, cc, e, hp, hc, ok⟩ := h
 exact ⟨po, pc, co, cc, e, hp.same hb, hc.same hb, ok⟩
theorem DskR.mono (h : DskR S w v d) (hT : ∀ b, S b → T b) : DskR T w v d := by
 obtain ⟨po, pc, co, cc, e, hp, hc, ok⟩ := h
 exact ⟨po, pc, co, cc, e, hp.mono hT, hc.mono hT, ok⟩
end
/-- the box of a disk -/
def BoxD (w : World) (b : Nat) (size left : Int) (po co : Option Addr) (pn pc cn cc : Nat) : Prop :=
 w.cell? ⟨b, 0, none⟩ = some (.int .i64 size) ∧ w.cell? ⟨b, 1, none⟩ = some (.slice po pn pc) ∧ w.cell? ⟨b, 2, none⟩ = some (.slice co cn cc) ∧ w.cell? ⟨b, 3, none⟩ = some (.int .i64 left)
theorem BoxD.below {w w' : World} {B b : Nat} {size left : Int} {po co : Option Addr} {pn pc cn cc : Nat} (h : BoxD w b size left po co pn pc cn cc) (hb : Below B w w') (h' : b < B) : BoxD w' b size left po co pn pc cn cc := by
 obtain ⟨h0, h1, h2, h3⟩ := h
 exact ⟨by rw [hb.cell h']; exact h0, by rw [hb.cell h']; exact h1, by rw [hb.cell h']; exact h2, by rw [hb.cell h']; exact h3⟩
def rangedB (p s : Int) : Bool := decide (1 ≤ p) && decide (p ≤ 2000) && decide (1 ≤ s) && decide (s ≤ 512)
def chkP (size : Int) : List ByteArray → Bool
 | [] => true
 | s :: r => decide ((s.size : Int) = size) && chkP size r
def chkC (n : Nat) (size : Int) : List PW → Int
 | [] => 0
 | x :: r => if x.page < 0 ∨ n ≤ x.page then 2 else if (x.data.size : Int) ≠ size then 10 else chkC n size r
def chk (d : Dsk) : Int :=
 if rangedB d.pages.length d.size = false then 2
 else if chkP d.size d.pages = false then 10
 else if chkC d.pages.length d.size d.cache ≠ 0 then chkC d.pages.length d.size d.cache
 else if d.left < -1 then 2 else 0
theorem chkP_bad {size : Int} {l : List ByteArray} {k : Nat} (h : k < l.length) (hs : ((l[k].size : Int) != size) = true) : chkP size (l.drop k) = false := by
 rw [List.drop_eq_getElem_cons h]; simp [chkP]; intro e; simp [e] at hs
theorem chkP_step {size : Int} {l : List ByteArray} {k : Nat} (h : k < l.length) (hs : ((l[k].size : Int) != size) = false) : chkP size (l.drop k) = chkP size (l.drop (k+1)) := by
 rw [List.drop_eq_getElem_cons h]; simp [chkP]; intro _; simpa using hs
theorem chkC_bad1 {n : Nat} {size : Int} {l : List PW} {k : Nat} (h : k < l.length) (hs : decide (l[k].page < 0) = true) : chkC n size (l.drop k) = 2 := by
 rw [List.drop_eq_getElem_cons h]; have := of_decide_eq_true hs; rw [chkC, if_pos (Or.inl this)]
theorem chkC_bad2 {n : Nat} {size : Int} {l : List PW} {k : Nat} (h : k < l.length) (hs : decide ((n : Int) ≤ l[k].page) = true) : chkC n size (l.drop k) = 2 := by
 rw [List.drop_eq_getElem_cons h]; have := of_decide_eq_true hs; rw [chkC, if_pos (Or.inr this)]
theorem chkC_bad3 {n : Nat} {size : Int} {l : List PW} {k : Nat} (h : k < l.length) (h1 : decide (l[k].page < 0) = false) (h2 : decide ((n : Int) ≤ l[k].page) = false) (hs : ((l[k].data.size : Int) != size) = true) : chkC n size (l.drop k) = 10 := by
 rw [List.drop_eq_getElem_cons h]; have h1 := of_decide_eq_false h1; have h2 := of_decide_eq_false h2; rw [chkC, if_neg (fun h => h.elim h1 h2), if_pos (by simpa using hs)]
theorem chkC_step {n : Nat} {size : Int} {l : List PW} {k : Nat} (h : k < l.length) (h1 : decide (l[k].page < 0) = false) (h2 : decide ((n : Int) ≤ l[k].page) = false) (hs : ((l[k].data.size : Int) != size) = false) : chkC n size (l.drop k) = chkC n size (l.drop (k+1)) := by
 rw [List.drop_eq_getElem_cons h]; have h1 := of_decide_eq_false h1; have h2 := of_decide_eq_false h2; rw [chkC, if_neg (fun h => h.elim h1 h2), if_neg (by simpa using hs)]
end Go.Proofs.YtghikgjknhjjgaaDoor
namespace Go.Proofs.YtghikgjknhjjgaaDoor
set_option maxRecDepth 100000
open Go.RowKit
def shareI (p s : Int) : Int := if p.tmod (s + 1) < 0 then - (p.tmod (s + 1)) else p.tmod (s + 1)
/-- how many bytes of write k take effect -/
def takenI (picks : List Int) (k : Nat) (s : Int) : Int := if h : k < picks.length then shareI picks[k] s else 0
theorem shareI_bd (p s : Int) (hs : 0 ≤ s) : 0 ≤ shareI p s ∧ shareI p s ≤ s := by
 unfold shareI
 have h1 := Int.tmod_lt_of_pos p (b := s + 1) (by omega)
 have h2 : -(s + 1) < p.tmod (s + 1) := by
  have := Int.tmod_lt_of_pos (-p) (b := s + 1) (by omega)
  rw [Int.neg_tmod] at this
  omega
 split <;> omega
theorem takenI_bd (picks : List Int) (k : Nat) (s : Int) (hs : 0 ≤ s) : 0 ≤ takenI picks k s ∧ takenI picks k s ≤ s := by
 unfold takenI
 split
 ·
  exact shareI_bd _ _ hs
 ·
  omega
/-- the content of page i: s is the durable page -/
def lastW (i : Int) : List PW → ByteArray → ByteArray
 | [], s => s
 | x :: r, s => lastW i r (if x.page = i then x.data else s)
def contentD (d : Dsk) (i : Nat) (h : i < d.pages.length) : ByteArray := lastW i d.cache d.pages[i]
def contentsD (d : Dsk) : List ByteArray := (List.range d.pages.length).attach.map fun i => contentD d i.1 (List.mem_range.1 i.2)
def readD (d : Dsk) (i : Int) : ByteArray × Int :=
 if chk d ≠ 0 then (ByteArray.empty, 1) else if i < 0 then (ByteArray.empty, 2)
 else if h : i.toNat < d.pages.length then (contentD d i.toNat h, 0) else (ByteArray.empty, 2)
def opD (d : Dsk) : Dsk := { d with left := if 0 < d.left then d.left - 1 else d.left }
def zeroD : Dsk := ⟨0, [], [], 0⟩
def newD (p s : Int) : Dsk × Int := if rangedB p s then (⟨s, List.replicate p.toNat ⟨(List.replicate s.toNat 0).toArray⟩, [], -1⟩, 0) else (zeroD, 2)
def writeD (d : Dsk) (i : Int) (data : ByteArray) : Dsk × Int :=
 if chk d ≠ 0 then (zeroD, 1) else if i < 0 ∨ (d.pages.length : Int) ≤ i then (zeroD, 2) else if (data.size : Int) ≠ d.size then (zeroD, 10)
 else if d.left = 0 then (d, 18) else ({ opD d with cache := d.cache ++ [⟨i, data⟩] }, 0)
def flushD (d : Dsk) : Dsk × Int :=
 if chk d ≠ 0 then (zeroD, 1) else if d.left = 0 then (d, 18) else (⟨d.size, contentsD d, [], (opD d).left⟩, 0)
/-- one write of the cache survives in part -/
def tear (n : Nat) (data page : ByteArray) : ByteArray := data.extract 0 n ++ page.extract n page.size
def crashP (picks : List Int) (size : Int) : Nat → List PW → List ByteArray → List ByteArray
 | _, [], ps => ps
 | k, x :: r, ps => crashP picks size (k + 1) r (ps.set x.page.toNat (tear (takenI picks k size).toNat x.data (ps.getD x.page.toNat ByteArray.empty)))
def crashD (d : Dsk) (picks : List Int) : Dsk :=
 if chk d ≠ 0 then zeroD else ⟨d.size, crashP picks d.size 0 d.cache d.pages, [], -1⟩
theorem chkP_true {size : Int} {l : List ByteArray} (h : chkP size l = true) : ∀ s ∈ l, (s.size : Int) = size := by
 induction l with
 | nil => intro s hs; cases hs
 | cons x l ih =>
  simp [chkP] at h
  intro s hs
  rcases List.mem_cons.1 hs with rfl | hs
  ·
   exact h.1
  ·
   exact ih h.2 s hs
theorem chkC_zero {n : Nat} {size : Int} {l : List PW} (h : chkC n size l = 0) : ∀ x ∈ l, 0 ≤ x.page ∧ x.page < n ∧ (x.data.size : Int) = size := by
 induction l with
 | nil => intro s hs; cases hs
 | cons y l ih =>
  rw [chkC] at h
  split at h
  ·
   cases h
  ·
   split at h
   ·
    cases h
   ·
    intro x hx
    rcases List.mem_cons.1 hx with rfl | hx
    ·
     omega
    ·
     exact ih h x hx
/-- what a valid disk is -/
theorem chk_zero {d : Dsk} (h : chk d = 0) : rangedB d.pages.length d.size = true ∧ (∀ s ∈ d.pages, (s.size : Int) = d.size) ∧ (∀ x ∈ d.cache, 0 ≤ x.page ∧ x.page < d.pages.length ∧ (x.data.size : Int) = d.size) ∧ -1 ≤ d.left := by
 unfold chk at h
 split at h
 ·
  cases h
 ·
  rename_i h1
  split at h
  ·
   cases h
  ·
   rename_i h2
   split at h
   ·
    rename_i h3; exact absurd h h3
   ·
    rename_i h3
    split at h
    ·
     cases h
    ·
     exact ⟨by simpa using h1, chkP_true (by simpa using h2), chkC_zero (by simpa using h3), by omega⟩
theorem rangedB_true {p s : Int} (h : rangedB p s = true) : 1 ≤ p ∧ p ≤ 2000 ∧ 1 ≤ s ∧ s ≤ 512 := by simp [rangedB] at h; omega
def RetDB (S : Nat → Prop) (w : World) (d : Dsk) (b : Bool) (e : Ending) (w' : World) : Prop := ∃ v, e = .returned (.tuple #[v, .bool b]) ∧ DskR (Gr S w w') w' v d ∧ Below w.heap.size w w'
def RetDE (S : Nat → Prop) (w : World) (d : Dsk) (er : Int) (e : Ending) (w' : World) : Prop := ∃ v, e = .returned (.tuple #[v, .int .i64 er]) ∧ DskR (Gr S w w') w' v d ∧ Below w.heap.size w w'
def RetD (S : Nat → Prop) (w : World) (d : Dsk) (e : Ending) (w' : World) : Prop := ∃ v, e = .returned v ∧ DskR (Gr S w w') w' v d ∧ Below w.heap.size w w'
end Go.Proofs.YtghikgjknhjjgaaDoor
namespace Go.Proofs.YtghikgjknhjjgaaDoor
set_option maxRecDepth 100000
open Go.RowKit
/-- bytes as a string -/
abbrev bs (l : List UInt8) : ByteArray := ⟨l.toArray⟩
theorem bs_list (l : List UInt8) : (bs l).data.toList = l := by simp
theorem bs_of (s : ByteArray) : bs s.data.toList = s := by cases s; simp
theorem bs_size (l : List UInt8) : (bs l).size = l.length := by simp [ByteArray.size]
theorem bs_app (l m : List UInt8) : bs l ++ bs m = bs (l ++ m) := by
 apply ByteArray.ext
 simp
theorem bs_cut (l : List UInt8) (a b : Nat) : (bs l).extract a b = bs ((l.drop a).take (b - a)) := by
 apply ByteArray.ext
 apply Array.ext'
 simp
/-- 8 bytes of a number -/
def num8 (n : Nat) : List UInt8 := [UInt8.ofNat (n / 72057594037927936), UInt8.ofNat (n / 281474976710656), UInt8.ofNat (n / 1099511627776), UInt8.ofNat (n / 4294967296), UInt8.ofNat (n / 16777216), UInt8.ofNat (n / 65536), UInt8.ofNat (n / 256), UInt8.ofNat n]
/-- the number of bytes -/
def be (l : List UInt8) : Nat := l.foldl (fun a b => a * 256 + b.toNat) 0
/-- the program's reading: -1 where the bytes so far exceed 2^40 before another one -/
def valP : List UInt8 → Nat → Int
 | [], n => n
 | c :: r, n => if 1099511627776 < n then -1 else valP r (n * 256 + c.toNat)
def hdrL (size v n : Nat) : List UInt8 := num8 v ++ num8 n ++ List.replicate (size - 24) 0 ++ num8 v
/-- a valid header: the version and the length -/
def hdrP (s : List UInt8) (k : Nat) (area : Int) : Option (Nat × Nat) :=
 if 1 ≤ be (s.take 8) ∧ be (s.take 8) ≤ 1099511627776 ∧ be (s.take 8) % 2 = k ∧ (be ((s.drop 8).take 8) : Int) ≤ area ∧ be ((s.drop 8).take 8) ≤ 1099511627776 ∧ s = hdrL s.length (be (s.take 8)) (be ((s.drop 8).take 8))
 then some (be (s.take 8), be ((s.drop 8).take 8)) else none
/-- the length of an atom: digits without a leading zero up to 65536, and a colon; what follows -/
def lenP : List UInt8 → Bool → Nat → Option (Nat × List UInt8)
 | [], _, _ => none
 | c :: r, first, n =>
  if c = 58 ∧ first = false then some (n, r)
  else if c.toNat < 48 ∨ 57 < c.toNat ∨ (first = false ∧ n = 0) then none
  else if 65536 < 10 * n + (c.toNat - 48) then none else lenP r false (10 * n + (c.toNat - 48))
/-- an atom, and how many bytes it takes -/
def atomP (l : List UInt8) : Option (List UInt8 × Nat) :=
 match lenP l true 0 with
 | none => none
 | some (n, r) => if r.length < n then none else some (r.take n, l.length - r.length + n)
/-- one record -/
def recP (l : List UInt8) : Option (List UInt8 × Nat) :=
 match l with
 | [] => none
 | c :: _ => if c = 40 then none else atomP l
/-- the records of a stream (f: as many at most) -/
def recsP : Nat → List UInt8 → Option (List ByteArray)
 | _, [] => some []
 | 0, _ :: _ => none
 | f + 1, c :: r =>
  match recP (c :: r) with
  | none => none
  | some (a, n) => (recsP f ((c :: r).drop n)).map (bs a :: ·)
def recsOf (l : List UInt8) : Option (List ByteArray) := recsP l.length l
/-- the encoding of a record -/
def recL (s : ByteArray) : List UInt8 := Lib.decDigits s.size ++ 58 :: s.data.toList
def streamL (l : List ByteArray) : List UInt8 := (l.map recL).flatten
def sizeL (l : List ByteArray) : Nat := (l.map fun s => (Lib.decDigits s.size).length + 1 + s.size).sum
/-- a log -/
structure Lg where
 disk : Dsk
 frm : Int
 til : Int
 ver : Int
 recs : List ByteArray
def zeroL : Lg := ⟨zeroD, 0, 0, 0, []⟩
def fitsB (d : Dsk) (frm til : Int) : Bool := decide (24 ≤ d.size) && decide (0 ≤ frm) && decide (3 ≤ til) && decide (til ≤ d.pages.length) && decide (frm ≤ til - 3)
def fitE (d : Dsk) (frm til : Int) : Int := if chk d ≠ 0 then 1 else if fitsB d frm til = false then 2 else 0
def areaN (d : Dsk) (frm til : Int) : Int := (til - frm - 2) * d.size
/-- what a page reads as -/
def pageL (d : Dsk) (i : Int) : List UInt8 := (readD d i).1.data.toList
/-- the bytes of m pages from page i on -/
def pagesL (d : Dsk) (i : Int) (m : Nat) : List UInt8 := ((List.range m).map fun j : Nat => pageL d (i + (j : Int))).flatten
def areaL (d : Dsk) (frm til : Int) : List UInt8 := pagesL d (frm + 2) (til - frm - 2).toNat
/-- the later one of two headers; 0 and 0 where there is none -/
def pickH : Option (Nat × Nat) → Option (Nat × Nat) → Nat × Nat
 | none, none => (0, 0)
 | none, some y => y
 | some x, none => x
 | some x, some y => if x.1 < y.1 then y else x
def headL (d : Dsk) (frm til : Int) : Nat × Nat := pickH (hdrP (pageL d frm) 0 (areaN d frm til)) (hdrP (pageL d (frm + 1)) 1 (areaN d frm til))
def openL (d : Dsk) (frm til : Int) : Lg × Int :=
 if fitE d frm til ≠ 0 then (zeroL, fitE d frm til)
 else if (headL d frm til).1 = 0 then (zeroL, 25)
 else match recsOf ((areaL d frm til).take (headL d frm til).2) with
  | none => (zeroL, 25)
  | some l => (⟨d, frm, til, (headL d frm til).1, l⟩, 0)
def validL (l : Lg) : Bool := decide ((openL l.disk l.frm l.til).2 = 0) && decide ((openL l.disk l.frm l.til).1.ver = l.ver) && decide ((openL l.disk l.frm l.til).1.recs = l.recs)
def roomL (l : Lg) : Int := if validL l = false then 0 else areaN l.disk l.frm l.til - sizeL l.recs
/-- an operation of a disk -/
inductive DOp where
 | wr (i : Int) (data : ByteArray)
 | fl
def opP (d : Dsk) : DOp → Dsk × Int
 | .wr i data => writeD d i data
 | .fl => flushD d
def perfP : Dsk → List DOp → Dsk × Int
 | d, [] => (d, 0)
 | d, o :: r => if (opP d o).2 ≠ 0 then opP d o else perfP (opP d o).1 r
def fmtL (d : Dsk) (frm til : Int) : Dsk × Int :=
 if fitE d frm til ≠ 0 then (zeroD, fitE d frm til)
 else perfP d [.wr frm (bs (List.replicate d.size.toNat 0)), .wr (frm + 1) (bs (hdrL d.size.toNat 1 0)), .fl]
/-- the operations that write bytes into the area from an offset on -/
def wrsP (l : Lg) : Nat → Nat → List UInt8 → List DOp
 | 0, _, _ => []
 | _ + 1, _, [] => []
 | f + 1, at_, c :: r =>
  .wr (l.frm + 2 + (at_ / l.disk.size.toNat : Nat)) (bs ((pageL l.disk (l.frm + 2 + (at_ / l.disk.size.toNat : Nat))).take (at_ % l.disk.size.toNat) ++ (c :: r).take (l.disk.size.toNat - at_ % l.disk.size.toNat)
   ++ (pageL l.disk (l.frm + 2 + (at_ / l.disk.size.toNat : Nat))).drop (at_ % l.disk.size.toNat + min (c :: r).length (l.disk.size.toNat - at_ % l.disk.size.toNat))))
  :: wrsP l f (at_ + min (c :: r).length (l.disk.size.toNat - at_ % l.disk.size.toNat)) ((c :: r).drop (l.disk.size.toNat - at_ % l.disk.size.toNat))
def wrsL (l : Lg) (at_ : Nat) (s : List UInt8) : List DOp := wrsP l s.length at_ s
def nextL (l : Lg) (n : Nat) : List DOp := [.wr (l.frm + (l.ver + 1).tmod 2) (bs (hdrL l.disk.size.toNat (l.ver + 1).toNat n)), .fl]
def finL (l : Lg) (recs : List ByteArray) (todo : List DOp) : Lg × Int :=
 if (perfP l.disk todo).2 ≠ 0 then ({ l with disk := (perfP l.disk todo).1 }, (perfP l.disk todo).2)
 else ({ l with disk := (perfP l.disk todo).1, ver := l.ver + 1, recs := recs }, 0)
def bigR (recs : List ByteArray) : Bool := recs.any fun s => decide (65536 < s.size)
def apL (l : Lg) (recs : List ByteArray) : Lg × Int :=
 if validL l = false then (zeroL, 1)
 else if bigR recs then (zeroL, 4)
 else if recs.length = 0 then (l, 0)
 else if areaN l.disk l.frm l.til - sizeL l.recs < sizeL recs ∨ 1099511627776 ≤ l.ver then (zeroL, 17)
 else finL l (l.recs ++ recs) (wrsL l (sizeL l.recs) (streamL recs) ++ .fl :: nextL l (sizeL l.recs + sizeL recs))
def cutL (l : Lg) (n : Int) : Lg × Int :=
 if validL l = false then (zeroL, 1)
 else if n < 0 ∨ (l.recs.length : Int) < n then (zeroL, 2)
 else if n = l.recs.length then (l, 0)
 else if 1099511627776 ≤ l.ver then (zeroL, 17)
 else finL l (l.recs.take n.toNat) (nextL l (sizeL (l.recs.take n.toNat)))
end Go.Proofs.YtghikgjknhjjgaaDoor
namespace Go.Proofs.YtghikgjknhjjgaaDoor
set_option maxRecDepth 100000
open Go.RowKit
theorem dec_next {n c : Nat} (h1 : 1 ≤ n) (hc : c < 10) : Lib.decDigits (10 * n + c) = Lib.decDigits n ++ [UInt8.ofNat (48 + c)] := by
 rw [Lib.decDigits, dif_neg (by omega)]
 rw [show (10 * n + c) / 10 = n by omega, show (10 * n + c) % 10 = c by omega]
theorem u8_digit {c : UInt8} (h1 : 48 ≤ c.toNat) : UInt8.ofNat (48 + (c.toNat - 48)) = c := by
 rw [show 48 + (c.toNat - 48) = c.toNat by omega]; simp
theorem u8_to {n : Nat} (h : n < 10) : (UInt8.ofNat (48 + n)).toNat = 48 + n := by
 rw [UInt8.toNat_ofNat']; omega
theorem lenP_canon : ∀ (l : List UInt8) (n : Nat) {m : Nat} {r : List UInt8}, 1 ≤ n → n ≤ 65536 → lenP l false n = some (m, r) → Lib.decDigits n ++ l = Lib.decDigits m ++ 58 :: r ∧ m ≤ 65536
 | [], n, m, r, h1, h2, h => by simp [lenP] at h
 | c :: t, n, m, r, h1, h2, h => by
  rw [lenP] at h
  split at h
  ·
   rename_i hc
   obtain ⟨rfl, rfl⟩ : n = m ∧ t = r := by simpa using h
   exact ⟨by rw [hc.1], h2⟩
  ·
   split at h
   ·
    cases h
   ·
    rename_i hd
    split at h
    ·
     cases h
    ·
     rename_i hb
     have hd' : 48 ≤ c.toNat ∧ c.toNat ≤ 57 := by omega
     obtain ⟨e, hm⟩ := lenP_canon t (10 * n + (c.toNat - 48)) (by omega) (by omega) h
     rw [dec_next h1 (by omega), u8_digit hd'.1] at e
     exact ⟨by rw [← e]; simp, hm⟩
theorem lenP_some {l : List UInt8} {m : Nat} {r : List UInt8} (h : lenP l true 0 = some (m, r)) : l = Lib.decDigits m ++ 58 :: r ∧ m ≤ 65536 := by
 cases l with
 | nil => simp [lenP] at h
 | cons c t =>
  rw [lenP, if_neg (by simp)] at h
  split at h
  ·
   cases h
  ·
   rename_i hd
   rw [if_neg (by omega)] at h
   have hd' : 48 ≤ c.toNat ∧ c.toNat ≤ 57 := by omega
   by_cases h0 : c.toNat - 48 = 0
   ·
    rw [h0] at h
    cases t with
    | nil => simp [lenP] at h
    | cons b t =>
     rw [lenP] at h
     split at h
     ·
      rename_i hb
      obtain ⟨rfl, rfl⟩ : 0 = m ∧ t = r := by simpa using h
      refine ⟨?_, by omega⟩
      have : c = 48 := by
                have e : c.toNat = 48 := by omega
                exact UInt8.toNat_inj.1 (by rw [e]; rfl)
      rw [hb.1, this, Lib.decDigits_one (by omega)]
      rfl
     ·
      split at h
      ·
       cases h
      ·
       rename_i hq
       exact absurd (show (b.toNat < 48 ∨ 57 < b.toNat ∨ (false = false ∧ 10 * 0 + 0 = 0)) from .inr (.inr ⟨rfl, rfl⟩)) hq
   ·
    obtain ⟨e, hm⟩ := lenP_canon t (10 * 0 + (c.toNat - 48)) (by omega) (by omega) h
    refine ⟨?_, hm⟩
    rw [← e, Nat.mul_zero, Nat.zero_add, Lib.decDigits_one (by omega), u8_digit hd'.1]
    rfl
theorem lenP_dec (n : Nat) : ∀ (l : List UInt8), 1 ≤ n → n ≤ 65536 → lenP (Lib.decDigits n ++ l) true 0 = lenP l false n := by
 induction n using Nat.strongRecOn with
 | _ n ih =>
  intro l h1 h2
  by_cases h : n < 10
  ·
   rw [Lib.decDigits_one h, List.singleton_append, lenP, if_neg (by simp), u8_to h, if_neg (by simp; omega), if_neg (by omega)]
   congr 1
   omega
  ·
   rw [Lib.decDigits, dif_neg h, List.append_assoc, ih (n / 10) (by omega) _ (by omega) (by omega), List.singleton_append, lenP, u8_to (by omega), if_neg, if_neg (by omega), if_neg (by omega)]
   ·
    congr 1
    omega
   ·
    rintro ⟨e, _⟩
    have := congrArg UInt8.toNat e
    rw [u8_to (by omega)] at this
    have h58 : (58 : UInt8).toNat = 58 := rfl
    omega
theorem lenP_of {n : Nat} {r : List UInt8} (h : n ≤ 65536) : lenP (Lib.decDigits n ++ 58 :: r) true 0 = some (n, r) := by
 by_cases h0 : n = 0
 ·
  subst h0
  rw [Lib.decDigits_one (by omega)]
  rfl
 ·
  rw [lenP_dec n _ (by omega) h, lenP, if_pos ⟨rfl, rfl⟩]
theorem dec_ne (n : Nat) : ∃ c t, Lib.decDigits n = c :: t ∧ c ≠ 40 := by
 induction n using Nat.strongRecOn with
 | _ n ih =>
  by_cases h : n < 10
  ·
   refine ⟨_, [], Lib.decDigits_one h, ?_⟩
   intro e
   have := congrArg UInt8.toNat e
   rw [u8_to h] at this
   have h40 : (40 : UInt8).toNat = 40 := rfl
   omega
  ·
   obtain ⟨c, t, e, hc⟩ := ih (n / 10) (by omega)
   refine ⟨c, t ++ [UInt8.ofNat (48 + n % 10)], ?_, hc⟩
   rw [Lib.decDigits, dif_neg h, e]
   rfl
theorem recP_canon {l a : List UInt8} {n : Nat} (h : recP l = some (a, n)) : l = recL (bs a) ++ l.drop n ∧ a.length ≤ 65536 := by
 cases l with
 | nil => simp [recP] at h
 | cons c t =>
  rw [recP] at h
  split at h
  ·
   cases h
  ·
   unfold atomP at h
   split at h
   ·
    cases h
   ·
    rename_i m r hl
    split at h
    ·
     cases h
    ·
     rename_i hr
     obtain ⟨e, hm⟩ := lenP_some hl
     obtain ⟨rfl, rfl⟩ : r.take m = a ∧ (c :: t).length - r.length + m = n := by simpa using h
     have hlen : (r.take m).length = m := by simp; omega
     have hz : (c :: t).length = (Lib.decDigits m).length + 1 + r.length := by rw [e]; simp; omega
     refine ⟨?_, by omega⟩
     unfold recL
     rw [bs_size, bs_list, hlen, hz]
     rw [show (Lib.decDigits m).length + 1 + r.length - r.length + m = (Lib.decDigits m).length + 1 + m by omega]
     rw [e, List.append_assoc]
     congr 1
     rw [show (Lib.decDigits m).length + 1 + m = (Lib.decDigits m).length + (1 + m) by omega, ← List.drop_drop, List.drop_left, Nat.add_comm 1 m, List.drop_succ_cons, List.cons_append, List.take_append_drop]
theorem recP_of (s : ByteArray) (r : List UInt8) (h : s.size ≤ 65536) : recP (recL s ++ r) = some (s.data.toList, (recL s).length) := by
 obtain ⟨c, t, e, hc⟩ := dec_ne s.size
 have hL : recL s ++ r = c :: (t ++ 58 :: s.data.toList ++ r) := by unfold recL; rw [e]; simp
 have hs : s.data.toList.length = s.size := by rw [Array.length_toList]; rfl
 rw [hL, recP, if_neg hc]
 rw [← hL]
 unfold atomP
 have h2 : recL s ++ r = Lib.decDigits s.size ++ 58 :: (s.data.toList ++ r) := by unfold recL; simp
 rw [h2, lenP_of h]
 simp only
 rw [if_neg (by simp [hs])]
 have h3 : (s.data.toList ++ r).take s.size = s.data.toList := by rw [← hs]; simp
 rw [h3]
 congr 2
 unfold recL
 simp [hs]
 omega
theorem recL_ne (s : ByteArray) : recL s ≠ [] := by unfold recL; simp
theorem recsP_canon : ∀ (f : Nat) (l : List UInt8) {rs : List ByteArray}, recsP f l = some rs → streamL rs = l ∧ ∀ s ∈ rs, s.size ≤ 65536
 | f, [], rs, h => by
  have : rs = [] := by cases f <;> simpa [recsP] using h.symm
  subst this
  exact ⟨rfl, by simp⟩
 | 0, _ :: _, rs, h => by simp [recsP] at h
 | f + 1, c :: r, rs, h => by
  rw [recsP] at h
  split at h
  ·
   cases h
  ·
   rename_i a n hr
   obtain ⟨e, ha⟩ := recP_canon hr
   cases hq : recsP f ((c :: r).drop n) with
   | none => rw [hq] at h; cases h
   | some q =>
    rw [hq] at h
    obtain rfl : bs a :: q = rs := by simpa using h
    obtain ⟨e2, hz⟩ := recsP_canon f _ hq
    refine ⟨?_, ?_⟩
    ·
     have : streamL (bs a :: q) = recL (bs a) ++ streamL q := by simp [streamL]
     rw [this, e2, ← e]
    ·
     intro s hs
     rcases List.mem_cons.1 hs with rfl | hs
     ·
      rw [bs_size]; exact ha
     ·
      exact hz s hs
theorem recsP_of : ∀ (rs : List ByteArray) (f : Nat), (∀ s ∈ rs, s.size ≤ 65536) → (streamL rs).length ≤ f → recsP f (streamL rs) = some rs
 | [], f, _, _ => by cases f <;> rfl
 | s :: q, f, hs, hf => by
  have e : streamL (s :: q) = recL s ++ streamL q := by simp [streamL]
  have hne : 0 < (recL s).length := List.length_pos_iff.2 (recL_ne s)
  have hl : (streamL (s :: q)).length = (recL s).length + (streamL q).length := by rw [e]; simp
  cases f with
  | zero => omega
  | succ f =>
   cases hq : streamL (s :: q) with
   | nil => rw [hq] at hl; simp at hl; omega
   | cons c r =>
    rw [recsP, ← hq, e, recP_of s _ (hs s (by simp))]
    simp only
    rw [List.drop_left, recsP_of q f (fun x hx => hs x (by simp [hx])) (by omega)]
    simp [bs_of]
theorem recsOf_stream {l : List UInt8} {rs : List ByteArray} (h : recsOf l = some rs) : streamL rs = l ∧ ∀ s ∈ rs, s.size ≤ 65536 := recsP_canon _ _ h
theorem stream_recsOf {rs : List ByteArray} (h : ∀ s ∈ rs, s.size ≤ 65536) : recsOf (streamL rs) = some rs := recsP_of rs _ h (Nat.le_refl _)
end Go.Proofs.YtghikgjknhjjgaaDoor
