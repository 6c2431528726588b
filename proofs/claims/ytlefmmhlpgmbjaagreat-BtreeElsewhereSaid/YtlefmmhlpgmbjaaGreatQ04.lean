/- Plain laws on the disks of layer 40: what Write, Flush and Crash leave is valid, and how its pages read. No function of the program is named here. Small lemmas that the walks of layer 40's laws share. Numbers of 8 bytes: pagelog.number, pagelog.value, pagelog.header; the reference's number, value, Header. A region that draws its order, whose operations read what was there before, make memory, and call functions that make memory: ONE walk in the order of the text serves every order. What an operation hands back may hang on the order (the numbers of the blocks that it makes): an annotation says, by the operation's number, what it looks like ('f') and what is known of it ('Φ'). Digests: arrays of 32 bytes as values and in memory. No function of the program is named here. Arrays made and built, kept whole: laws that do not unroll them. No function of the program is named here. A row of bytes that a call has made itself, frozen (if at all) behind its last cell: made by '[]byte(s)', grown byte by byte, inside a fence. No function of the program is named here. Arr's and the kit's laws on arrays, inside a fence. No function of the program is named here. Two words for Lazy: 'make([]T, n)' and 'string(b)' inside a region that draws its order. No function of the program is named here. The reference's numbers of 8 bytes: quiltref41.number, Header. What the functions of layer 42 (btree) compute, as plain Lean: keys, trees, their pages, loading, changing, placing. No function of the program is named here. -/
import Derived.Test.YtlefmmhlpgmbjaaGreatQ03
import Derived.Deep.RegionWith
import Derived.BigQuiet
import Derived.Deep.QuietTactic
import Derived.Test.YtlefmmhlpgmbjaaGreatQ01
import Derived.Test.YtlefmmhlpgmbjaaGreatQ02
import Derived.StillTail
import Derived.Deep.MidRow
import Derived.Laws.IdiomStrings
import Derived.Lib.FrozenHead
import Derived.OwnWalkIn
namespace Go.Proofs.YtlefmmhlpgmbjaaGreat
set_option maxRecDepth 100000
open Go.RowKit
theorem chkP_mk {size : Int} {l : List ByteArray} (h : ∀ s ∈ l, (s.size : Int) = size) : chkP size l = true := by
 induction l with
 | nil => rfl
 | cons x l ih => simp [chkP, h x (by simp), ih (fun s hs => h s (by simp [hs]))]
theorem chkC_mk {n : Nat} {size : Int} {l : List PW} (h : ∀ x ∈ l, 0 <= x.page /\ x.page < n /\ (x.data.size : Int) = size) : chkC n size l = 0 := by
 induction l with
 | nil => rfl
 | cons x l ih =>
  obtain ⟨a, b, c⟩ := h x (by simp)
  rw [chkC, if_neg (by omega), if_neg (by simp [c])]
  exact ih (fun s hs => h s (by simp [hs]))
theorem chk_mk {d : Dsk} (h1 : rangedB d.pages.length d.size = true) (h2 : ∀ s ∈ d.pages, (s.size : Int) = d.size) (h3 : ∀ x ∈ d.cache, 0 <= x.page /\ x.page < d.pages.length /\ (x.data.size : Int) = d.size) (h4 : -1 <= d.left) : chk d = 0 := by
 unfold chk
 rw [if_neg (by simp [h1]), if_neg (by simp [chkP_mk h2]), if_neg (by simp [chkC_mk h3]), if_neg (by omega)]
theorem crashP_len {picks : List Int} {size : Int} : ∀ (l : List PW) (k : Nat) (ps : List ByteArray), (crashP picks size k l ps).length = ps.length
 | [], _, _ => rfl
 | x :: r, k, ps => by rw [crashP, crashP_len r]; simp
theorem mem_set_of {α : Type} {P : α -> Prop} {l : List α} {i : Nat} {x : α} (h : ∀ y ∈ l, P y) (hx : P x) : ∀ y ∈ l.set i x, P y := by
 intro y hy
 rcases List.mem_or_eq_of_mem_set hy with h' | rfl
 .
  exact h y h'
 .
  exact hx
theorem getD_size {z : Int} {ps : List ByteArray} {i : Nat} (h : ∀ s ∈ ps, (s.size : Int) = z) (hi : i < ps.length) : ((ps.getD i ByteArray.empty).size : Int) = z := by
 simp only [List.getD, List.getElem?_eq_getElem hi, Option.getD_some]
 exact h _ (List.getElem_mem _)
theorem taken_le {picks : List Int} {k : Nat} {z : Int} {s : ByteArray} (hz : 0 <= z) (h : (s.size : Int) = z) : (takenI picks k z).toNat <= s.size := by
 have := (takenI_bd picks k z hz).2
 omega
theorem crashP_sizes {picks : List Int} {z : Int} (hz : 0 <= z) : ∀ (l : List PW) (k : Nat) (ps : List ByteArray), (∀ s ∈ ps, (s.size : Int) = z) -> (∀ x ∈ l, 0 <= x.page /\ x.page < ps.length /\ (x.data.size : Int) = z) -> ∀ s ∈ crashP picks z k l ps, (s.size : Int) = z
 | [], _, _, hp, _ => hp
 | x :: r, k, ps, hp, hl => by
  obtain ⟨h1, h2, h3⟩ := hl x (by simp)
  rw [crashP]
  refine crashP_sizes hz r (k + 1) _ (mem_set_of hp ?_) (fun y hy => by have := hl y (by simp [hy]); simpa using this)
  have hg := getD_size (i := x.page.toNat) hp (by omega)
  rw [tear_size (taken_le hz h3) (by omega)]
  exact hg
theorem crash_chk {d : Dsk} (h : chk d = 0) (picks : List Int) : chk (crashD d picks) = 0 := by
 obtain ⟨h1, h2, h3, h4⟩ := chk_zero h
 have hr := rangedB_true h1
 unfold crashD
 rw [if_neg (by simp [h])]
 refine chk_mk ?_ ?_ (by simp) (by simp)
 .
  simpa [crashP_len] using h1
 .
  exact crashP_sizes (by omega) d.cache 0 d.pages h2 h3
theorem crash_len {d : Dsk} (h : chk d = 0) (picks : List Int) : (crashD d picks).pages.length = d.pages.length := by
 unfold crashD
 rw [if_neg (by simp [h])]
 exact crashP_len _ _ _
theorem crash_size {d : Dsk} (h : chk d = 0) (picks : List Int) : (crashD d picks).size = d.size := by
 unfold crashD
 rw [if_neg (by simp [h])]
theorem flush_chk {d : Dsk} (h : chk d = 0) (l : Int) (hl : -1 <= l) : chk ⟨d.size, contentsD d, [], l⟩ = 0 := by
 obtain ⟨h1, h2, h3, h4⟩ := chk_zero h
 refine chk_mk ?_ ?_ (by simp) hl
 .
  simpa [contentsD_len] using h1
 .
  exact contents_size h2 (fun x hx => (h3 x hx).2.2)
theorem opD_left {d : Dsk} (h : -1 <= d.left) : -1 <= (opD d).left := by unfold opD; simp only; split <;> omega
theorem write_chk {d : Dsk} (h : chk d = 0) {i : Int} {data : ByteArray} (h1 : 0 <= i) (h2 : i < d.pages.length) (h3 : (data.size : Int) = d.size) : chk { opD d with cache := d.cache ++ [⟨i, data⟩] } = 0 := by
 obtain ⟨g1, g2, g3, g4⟩ := chk_zero h
 refine chk_mk g1 g2 ?_ (opD_left g4)
 intro x hx
 rcases zmA.1 hx with hx | hx
 .
  exact g3 x hx
 .
  obtain rfl := zmS.1 hx
  exact ⟨h1, h2, h3⟩
theorem readD_ok {d : Dsk} (h : chk d = 0) {k : Nat} (hk : k < d.pages.length) : readD d k = (contentD d k hk, 0) := by
 unfold readD
 rw [if_neg (by simp [h]), if_neg (by omega)]
 simp [hk]
theorem flush_cases (d : Dsk) : ((flushD d).2 = 1 /\ chk d ≠ 0 /\ (flushD d).1 = zeroD) \/ ((flushD d).2 = 18 /\ chk d = 0 /\ d.left = 0 /\ (flushD d).1 = d) \/ ((flushD d).2 = 0 /\ chk d = 0 /\ d.left ≠ 0 /\ (flushD d).1 = ⟨d.size, contentsD d, [], (opD d).left⟩) := by
 unfold flushD
 by_cases h : chk d ≠ 0
 .
  simp [h]
 .
  by_cases h' : d.left = 0 <;> simp [h, h'] <;> simpa using h
theorem write_cases (d : Dsk) (i : Int) (data : ByteArray) : ((writeD d i data).2 ≠ 0 /\ (writeD d i data).2 ≠ 18 /\ (writeD d i data).1 = zeroD) \/
  (chk d = 0 /\ 0 <= i /\ i < d.pages.length /\ (data.size : Int) = d.size /\ (((writeD d i data).2 = 18 /\ d.left = 0 /\ (writeD d i data).1 = d) \/ ((writeD d i data).2 = 0 /\ d.left ≠ 0 /\ (writeD d i data).1 = { opD d with cache := d.cache ++ [⟨i, data⟩] }))) := by
 unfold writeD
 by_cases h : chk d ≠ 0
 .
  simp [h]
 .
  by_cases h1 : i < 0 \/ (d.pages.length : Int) <= i
  .
   simp [h, h1]
  .
   by_cases h2 : (data.size : Int) ≠ d.size
   .
    rw [if_neg h, if_neg h1, if_pos h2]; simp
   .
    right
    refine ⟨by simpa using h, by omega, by omega, by simpa using h2, ?_⟩
    rw [if_neg h, if_neg h1, if_neg h2]
    by_cases h3 : d.left = 0 <;> simp [h3]
theorem content_write {d : Dsk} {i : Int} {data : ByteArray} {k : Nat} (hk : k < d.pages.length) (e : Dsk) (he : e = { opD d with cache := d.cache ++ [⟨i, data⟩] }) (hk' : k < e.pages.length) :
  contentD e k hk' = if i = k then data else contentD d k hk := by
 subst he
 unfold contentD
 simp only [opD]
 rw [lastW_app]
 rfl
theorem content_flush {d : Dsk} {l : Int} {k : Nat} (hk : k < d.pages.length) (e : Dsk) (he : e = ⟨d.size, contentsD d, [], l⟩) (hk' : k < e.pages.length) : contentD e k hk' = contentD d k hk := by
 subst he
 simp [contentD, contentsD, lastW]
theorem crashP_nil {picks : List Int} {z : Int} {ps : List ByteArray} : crashP picks z 0 [] ps = ps := rfl
theorem content_crash {d : Dsk} (h : chk d = 0) (picks : List Int) {k : Nat} (hk' : k < (crashD d picks).pages.length) :
  contentD (crashD d picks) k hk' = (crashP picks d.size 0 d.cache d.pages)[k]'(by rw [crashP_len]; rwa [crash_len h] at hk') := by
 have e : crashD d picks = ⟨d.size, crashP picks d.size 0 d.cache d.pages, [], -1⟩ := by unfold crashD; rw [if_neg (by simp [h])]
 have : ∀ (e' : Dsk) (hk'' : k < e'.pages.length), e' = ⟨d.size, crashP picks d.size 0 d.cache d.pages, [], -1⟩ -> contentD e' k hk'' = (crashP picks d.size 0 d.cache d.pages)[k]'(by rw [crashP_len]; rwa [crash_len h] at hk') := by
  rintro e' hk'' rfl
  simp [contentD, lastW]
 exact this _ hk' e
def byteAt (s : ByteArray) (i : Nat) : UInt8 := s.data[i]?.getD 0
theorem byteAt_tear {n : Nat} {a b : ByteArray} (h : n <= a.size) (i : Nat) : byteAt (tear n a b) i = byteAt (if i < n then a else b) i \/ b.size < n := by
 by_cases hb : b.size < n
 .
  exact .inr hb
 .
  left
  unfold byteAt tear
  rw [ByteArray.data_append, ByteArray.data_extract, ByteArray.data_extract]
  rw [Array.getElem?_append]
  have e1 : (a.data.extract 0 n).size = n := by simp; omega
  rw [e1]
  by_cases hi : i < n
  .
   rw [if_pos hi, if_pos hi, Array.getElem?_extract]
   simp
   rw [if_pos (by omega)]
  .
   rw [if_neg hi, if_neg hi, Array.getElem?_extract]
   simp
   have hz : b.data.size = b.size := rfl
   by_cases hib : i < b.size
   .
    rw [if_pos (by omega)]
    rw [show n + (i - n) = i from by omega]
   .
    rw [if_neg (by omega), Array.getElem?_eq_none (by omega)]
theorem crashP_from {picks : List Int} {z : Int} (hz : 0 <= z) (j i : Nat) : ∀ (l : List PW) (k : Nat) (ps : List ByteArray), (∀ s ∈ ps, (s.size : Int) = z) -> (∀ x ∈ l, 0 <= x.page /\ x.page < ps.length /\ (x.data.size : Int) = z) -> (hj : j < ps.length) ->
  byteAt ((crashP picks z k l ps).getD j ByteArray.empty) i = byteAt ps[j] i \/ ∃ x ∈ l, x.page = j /\ byteAt ((crashP picks z k l ps).getD j ByteArray.empty) i = byteAt x.data i
 | [], _, ps, _, _, hj => by left; simp [crashP, List.getD, hj]
 | x :: r, k, ps, hp, hl, hj => by
  obtain ⟨h1, h2, h3⟩ := hl x (by simp)
  have hg := getD_size (i := x.page.toNat) hp (by omega)
  rw [crashP]
  rcases crashP_from (picks := picks) hz j i r (k + 1) (ps.set x.page.toNat (tear (takenI picks k z).toNat x.data (ps.getD x.page.toNat ByteArray.empty))) (mem_set_of hp (by rw [tear_size (taken_le hz h3) (by omega)]; exact hg)) (fun y hy => by have := hl y (by simp [hy]); simpa using this) (by simpa using hj) with h | ⟨y, hy, h⟩
  .
   rw [h, List.getElem_set]
   by_cases hx : x.page.toNat = j
   .
    rw [if_pos hx]
    have hbz : (ps.getD x.page.toNat ByteArray.empty).size = x.data.size := by omega
    rcases byteAt_tear (b := ps.getD x.page.toNat ByteArray.empty) (taken_le (picks := picks) (k := k) hz h3) i with h' | h'
    .
     rw [h']
     split
     .
      exact .inr ⟨x, by simp, by omega, rfl⟩
     .
      left
      rw [hx]
      simp [List.getD, hj]
    .
     exact absurd (taken_le (picks := picks) (k := k) hz h3) (by omega)
   .
    rw [if_neg hx]; exact .inl rfl
  .
   exact .inr ⟨y, by simp [hy], h⟩
theorem eqP_refl : ∀ l, eqP l l = true
 | [] => rfl
 | x :: l => by rw [eqP, eqP_refl l, beq_toListBytes]; simp
theorem eqC_refl : ∀ l, eqC l l = true
 | [] => rfl
 | x :: l => by rw [eqC, eqC_refl l, beq_toListBytes]; simp
theorem sameW_refl (d : Dsk) : sameW d d = true := by simp [sameW, eqP_refl, eqC_refl]
theorem same_refl (a : Dsk) (va vb : Value) (w : World) {S S' : Nat -> Prop} (hD : DskR S w va a) (hE : DskR S' w vb a) :
  Calls Tryz.prog 18 #[va, vb] w fun e w' => e = .returned (.bool true) /\ Below w.heap.size w w' := by
 rw [<- sameW_refl a]; exact ref40_same0 a a va vb w hD hE
theorem btr {w w1 w2 : World} (h : Below w.heap.size w w1) (k : Below w1.heap.size w1 w2) : Below w.heap.size w w2 := Below.then h k h.size
def numC (n k : Nat) : List UInt8 := List.replicate (8 - k) 0 ++ (num8 n).drop (8 - k)
theorem numC_get (n k : Nat) (hk : k < 8) : (bytesV (numC n k)).toArray[7 - k]? = some (.int .u8 0) := by
 have h : (numC n k)[7 - k]? = some 0 := by
  unfold numC
  rw [List.getElem?_append_left (by rw [List.length_replicate]; omega), List.getElem?_replicate, if_pos (by omega)]
 simp [bytesV, h]
theorem numC_set (n k : Nat) (hk : k < 8) : (bytesV (numC n k)).toArray.setIfInBounds (7 - k) (.int .u8 ((n : Int) / 2 ^ (8 * k) % 256)) = (bytesV (numC n (k + 1))).toArray := by
 have e : ((n : Int) / 2 ^ (8 * k) % 256) = ((n / 2 ^ (8 * k) % 256 : Nat) : Int) := by rw [Int.natCast_emod, Int.natCast_ediv, Int.natCast_pow]; rfl
 rw [e]
 rcases k with _ | _ | _ | _ | _ | _ | _ | _ | k
 case succ => omega
 all_goals simp [bytesV, numC, num8]
theorem numC_all (n : Nat) : numC n 8 = num8 n := by simp [numC]
theorem or8 (m c : Nat) (hm : m < 72057594037927936) (hc : c < 256) : bits .or .i64 (wrap64 ((m : Int) * 256)) (wrap64 (c : Int)) = wrap64 ((m : Int) * 256 + c) := by
 have h1 : (BitVec.ofInt 64 (wrap64 ((m : Int) * 256))).toNat = m * 256 := by
  rw [BitVec.toNat_ofInt]; unfold wrap64; omega
 have h2 : (BitVec.ofInt 64 (wrap64 (c : Int))).toNat = c := by
  rw [BitVec.toNat_ofInt]; unfold wrap64; omega
 have h3 : m * 256 ||| c = m * 256 + c := by
  have := Nat.shiftLeft_add_eq_or_of_lt (b := c) (i := 8) (by omega) m
  rw [Nat.shiftLeft_eq] at this
  simpa using this.symm
 show IntKind.i64.wrap ((BitVec.ofInt 64 (wrap64 ((m : Int) * 256)) ||| BitVec.ofInt 64 (wrap64 (c : Int))).toNat : Int) = _
 rw [BitVec.toNat_or, h1, h2, h3]
 simp [IntKind.wrap, IntKind.bits, IntKind.signed, wrap64]
 split <;> omega
theorem or8s (m : Nat) (c : UInt8) (hm : m <= 281474976710656) : bits .or .i64 ((m : Int) * 256) (wrap64 (c.toNat : Int)) = ((m * 256 + c.toNat : Nat) : Int) := by
 have hc := c.toNat_lt
 have := or8 m c.toNat (by omega) (by omega)
 rw [IntWalk.wrap64_in ((m : Int) * 256) (by omega), IntWalk.wrap64_in ((m : Int) * 256 + c.toNat) (by omega)] at this
 rw [this]
 simp
structure Rec where
 x : Nat -> Value
 lo : Nat
 hi : Nat
structure Ann where
 f : Rec -> Value
 Φ : Rec -> World -> Prop
abbrev Anns := Nat -> Option Ann
abbrev Recs := Nat -> Option Rec
def upr (ξ : Recs) (i : Nat) (ρ : Option Rec) : Recs := match ρ with | none => ξ | some r => fun j => if j = i then some r else ξ j
theorem upr_comm {ξ : Recs} {i j : Nat} {ρ σ : Option Rec} (h : i ≠ j) : upr (upr ξ i ρ) j σ = upr (upr ξ j σ) i ρ := by
 cases ρ <;> cases σ <;> simp only [upr]
 funext k
 by_cases h1 : k = j
 .
  subst h1; rw [if_pos rfl, if_neg (fun e => h e.symm), if_pos rfl]
 .
  rw [if_neg h1]
  by_cases h2 : k = i
  .
   rw [if_pos h2, if_pos h2]
  .
   rw [if_neg h2, if_neg h2, if_neg h1]
def factAt (an : Anns) (ξ : Recs) (j : Nat) (w : World) : Prop := ∀ A r, an j = some A -> ξ j = some r -> ∀ w', Below w.heap.size w w' -> A.Φ r w'
theorem factAt_upr {an : Anns} {ξ : Recs} {i j : Nat} {ρ : Option Rec} {w : World} (h : j ≠ i) : factAt an (upr ξ i ρ) j w ↔ factAt an ξ j w := by
 cases ρ with
 | none => exact Iff.rfl
 | some r => unfold factAt upr; simp only [if_neg h]
section
variable {P : Program} {ops : Array Oper} {md : Region.Mode} {W0 : World} {an : Anns}
def pastB (md : Region.Mode) (ops : Array Oper) : Nat -> List Nat -> List Nat
 | 0, S => S
 | f + 1, S => pastB md ops f ((List.range ops.size).filter fun j => S.contains j || S.any fun k => Region.waitsFor md ops k j)
def reachB (md : Region.Mode) (ops : Array Oper) (t j : Nat) : Bool := (pastB md ops 8 [t]).contains j
theorem pastB_listed {t : Nat} {listed : Array Bool} (ht : ∀ k ot, ops[t]? = some ot -> (∃ e ∈ ot.after, Region.binds md e = true /\ e.on = k) -> listed.getD k false = true)
  (hc : ∀ j oj, ops[j]? = some oj -> listed.getD j false = true -> ∀ e ∈ oj.after, Region.binds md e = true -> listed.getD e.on false = true) :
  ∀ (f : Nat) (S : List Nat), (∀ k ∈ S, k = t \/ listed.getD k false = true) -> ∀ k ∈ pastB md ops f S, k = t \/ listed.getD k false = true
 | 0, _, h => h
 | f + 1, S, h => by
  refine pastB_listed ht hc f _ fun k hk => ?_
  obtain ⟨_, hk⟩ := List.mem_filter.1 hk
  rcases Bool.or_eq_true_iff.1 hk with hk | hk
  .
   exact h k (by simpa using hk)
  .
   obtain ⟨j, hj, hw⟩ := List.any_eq_true.1 hk
   obtain ⟨oj, hoj, e, he, hb, hon⟩ := Region.waitsFor_spec hw
   right
   rcases h j hj with rfl | hl
   .
    exact ht k oj hoj ⟨e, he, hb, hon⟩
   .
    rw [<- hon]; exact hc j oj hoj hl e he hb
theorem reach_listed {t j : Nat} {listed : Array Bool} (ht : t ∈ Region.ready md ops listed)
  (hc : ∀ j oj, ops[j]? = some oj -> listed.getD j false = true -> ∀ e ∈ oj.after, Region.binds md e = true -> listed.getD e.on false = true) (h : reachB md ops t j = true) : j = t \/ listed.getD j false = true := by
 obtain ⟨_, ot, hot, hall⟩ := mem_ready.1 ht
 refine pastB_listed (t := t) (fun k ot' h1 ⟨e, he, hb, hon⟩ => ?_) hc 8 [t] (fun k hk => .inl (by simpa using hk)) j (by simpa [reachB] using h)
 obtain rfl : ot' = ot := Option.some.inj (h1.symm.trans hot)
 rw [<- hon]; exact hall e he hb
def valB : Op -> Bool
 | .move _ | .assign _ | .pick .. | .load .. | .binOp .. | .unOp .. | .convert .. | .slice .. | .fieldAddr .. | .field .. | .indexAddr .. | .index .. | .extract .. => true
 | .call c => match c.callee with
  | .builtin .len | .builtin .cap => true
  | _ => false
 | _ => false
def lzAt (P : Program) (o : Oper) (a : Act) (w : World) (Post : Value -> World -> Prop) : Prop :=
 match (execOp a.eval o).run P w with
 | .ok (.value u) w' => Post u w'
 | .ok .skip w' => Post undef w'
 | .ok (.enter f args) w' => Calls P f args w' fun e w'' => ∃ v, e = .returned v /\ Post v w''
 | _ => False
theorem wp_of_lz {o : Oper} {a : Act} {w : World} {Post : Value -> World -> Prop} {K : Act -> World -> Prop} {Q : Exit -> Act -> World -> Prop} (h : lzAt P o a w Post) (hK : ∀ v w', Post v w' -> K (a.put o.dst v) w') : o.wp P a w K Q := by
 unfold lzAt at h
 unfold Oper.wp
 generalize (execOp a.eval o).run P w = r at *
 cases r with
 | ok n w' =>
  cases n <;> simp only [Oper.upon] at h |-
  case value u => exact hK _ _ h
  case skip => exact hK _ _ h
  case enter f args => exact h.mono fun e w'' ⟨v, he, hp⟩ => by subst he; exact hK _ _ hp
 | halt x w' => exact h.elim
def LatC (W0 : World) (w : World) : Prop := ∃ y : Lat W0, w = y.w
def lzPost (A : Ann) (w : World) (v : Value) (w' : World) : Prop := Below w.heap.size w w' /\ ∃ x, v = A.f ⟨x, w.heap.size, w'.heap.size⟩ /\ ∀ w'', Below w'.heap.size w' w'' -> A.Φ ⟨x, w.heap.size, w'.heap.size⟩ w''
def Lazily (P : Program) (ops : Array Oper) (md : Region.Mode) (an : Anns) (W0 : World) (i : Nat) (o : Oper) (A : Ann) (ξ : Recs) (a : Act) : Prop :=
 ∀ w, Below W0.heap.size W0 w -> (∀ j, reachB md ops i j = true -> factAt an ξ j w) -> lzAt P o a w (lzPost A w)
inductive Outs (P : Program) (ops : Array Oper) (md : Region.Mode) (an : Anns) (W0 : World) (i : Nat) (o : Oper) (ξ : Recs) (a : Act) : (Option Rec -> Value -> Prop) -> Prop
 | skip (hw : Region.wanted o (yielded ops a.tmps) = false) : Outs P ops md an W0 i o ξ a (fun ρ v => ρ = none /\ v = undef)
 | quiet (v : Value) (hw : Region.wanted o (yielded ops a.tmps) = true) (hn : an i = none) (hr : ∀ w, LatC W0 w -> (execOp a.eval o).run P w = .ok (.value v) w) : Outs P ops md an W0 i o ξ a (fun ρ u => ρ = none /\ u = v)
 | lzy (A : Ann) (hw : Region.wanted o (yielded ops a.tmps) = true) (hn : an i = some A) (hl : Lazily P ops md an W0 i o A ξ a) : Outs P ops md an W0 i o ξ a (fun ρ u => ∃ r, ρ = some r /\ u = A.f r)
theorem Outs.some {i : Nat} {o : Oper} {ξ : Recs} {a : Act} {S : Option Rec -> Value -> Prop} (h : Outs P ops md an W0 i o ξ a S) : ∃ ρ v, S ρ v := by
 cases h
 .
  exact ⟨_, _, rfl, rfl⟩
 .
  exact ⟨_, _, rfl, rfl⟩
 .
  exact ⟨_, _, ⟨fun _ => undef, 0, 0⟩, rfl, rfl⟩
theorem latC_refl (W0 : World) : LatC W0 W0 := ⟨⟨W0, Below.refl _ _⟩, rfl⟩
theorem Outs.uniq {i : Nat} {o : Oper} {ξ : Recs} {a : Act} {S S' : Option Rec -> Value -> Prop} (h : Outs P ops md an W0 i o ξ a S) (h' : Outs P ops md an W0 i o ξ a S') : S = S' := by
 cases h with
 | skip hw => cases h' with
  | skip => rfl
  | quiet _ hw' => rw [hw] at hw'; cases hw'
  | lzy _ hw' => rw [hw] at hw'; cases hw'
 | quiet v hw hn hr => cases h' with
  | skip hw' => rw [hw] at hw'; cases hw'
  | quiet v' _ _ hr' =>
   have e := (hr W0 (latC_refl W0)).symm.trans (hr' W0 (latC_refl W0))
   injection e with e1 e2
   injection e1 with e3
   rw [e3]
  | lzy _ _ hn' => rw [hn] at hn'; cases hn'
 | lzy A hw hn hl => cases h' with
  | skip hw' => rw [hw] at hw'; cases hw'
  | quiet _ _ hn' => rw [hn] at hn'; cases hn'
  | lzy A' _ hn' => rw [hn] at hn'; cases hn'; rfl
theorem Outs.apart {i : Nat} {oi : Oper} {ξ ξ' : Recs} {a a' : Act} {S : Option Rec -> Value -> Prop} (he : execOp a'.eval oi = execOp a.eval oi) (hw' : Region.wanted oi (yielded ops a'.tmps) = Region.wanted oi (yielded ops a.tmps))
  (hf : ∀ k w, reachB md ops i k = true -> (factAt an ξ' k w -> factAt an ξ k w)) (h : Outs P ops md an W0 i oi ξ a S) : Outs P ops md an W0 i oi ξ' a' S := by
 cases h with
 | skip hw => exact .skip (hw' ▸ hw)
 | quiet v hw hn hr => exact .quiet v (hw' ▸ hw) hn (by rw [he]; exact hr)
 | lzy A hw hn hl =>
  refine .lzy A (hw' ▸ hw) hn fun w hb hk => ?_
  have := hl w hb fun k hr => hf k w hr (hk k hr)
  unfold lzAt at this |-
  rw [he]; exact this
def StepK (P : Program) (ops : Array Oper) (md : Region.Mode) (an : Anns) (W0 : World) (i : Nat) (o : Oper) (ξ : Recs) (a : Act) (K : Recs -> Act -> Prop) : Prop :=
 ∃ S, Outs P ops md an W0 i o ξ a S /\ ∀ ρ v, S ρ v -> K (upr ξ i ρ) (a.put o.dst v)
theorem StepK.mono {i : Nat} {o : Oper} {ξ : Recs} {a : Act} {K K' : Recs -> Act -> Prop} (h : StepK P ops md an W0 i o ξ a K) (hK : ∀ ξ a, K ξ a -> K' ξ a) : StepK P ops md an W0 i o ξ a K' := by
 obtain ⟨S, h1, h2⟩ := h
 exact ⟨S, h1, fun ρ v hs => hK _ _ (h2 ρ v hs)⟩
theorem StepK.swap {i j : Nat} {oi oj : Oper} {ξ : Recs} {a : Act} {S : Option Rec -> Value -> Prop} {K : Recs -> Act -> Prop} (hij : i ≠ j) (hap : oi.apart ops oj = true)
  (hsi : ∀ cs b, oi.op ≠ .select cs b) (hsj : ∀ cs b, oj.op ≠ .select cs b) (hri : reachB md ops i j = false) (hrj : reachB md ops j i = false)
  (hi : Outs P ops md an W0 i oi ξ a S) (h : ∀ ρ v, S ρ v -> StepK P ops md an W0 j oj (upr ξ i ρ) (a.put oi.dst v) K) :
  StepK P ops md an W0 j oj ξ a (fun ξ' a' => Outs P ops md an W0 i oi ξ' a' S /\ ∀ ρ v, S ρ v -> K (upr ξ' i ρ) (a'.put oi.dst v)) := by
 obtain ⟨h1, h2, h3⟩ := Oper.apart_spec hap
 have back : ∀ ρ v T, Outs P ops md an W0 j oj (upr ξ i ρ) (a.put oi.dst v) T -> Outs P ops md an W0 j oj ξ a T := fun ρ v T hT =>
  Outs.apart (execOp_put oj hsj a oi.dst v h1).symm (wanted_put oj a oi.dst v h1).symm (fun k w hr hk => (factAt_upr (fun e => by subst e; rw [hrj] at hr; cases hr)).2 hk) hT
 obtain ⟨ρ0, v0, hs0⟩ := hi.some
 obtain ⟨T, hT, _⟩ := h ρ0 v0 hs0
 refine ⟨T, back _ _ _ hT, fun σ u hu => ⟨?_, fun ρ v hs => ?_⟩⟩
 .
  exact Outs.apart (execOp_put oi hsi a oj.dst u h3) (wanted_put oi a oj.dst u h3) (fun k w hr hk => (factAt_upr (fun e => by subst e; rw [hri] at hr; cases hr)).1 hk) hi
 .
  obtain ⟨T', hT', hK⟩ := h ρ v hs
  have := (back _ _ _ hT').uniq (back _ _ _ hT)
  subst this
  have := hK σ u hu
  rw [upr_comm hij, Act.put_comm a v u h2] at this
  exact this
def AO (P : Program) (ops : Array Oper) (md : Region.Mode) (an : Anns) (W0 : World) (n : Nat) (L : Array Bool -> Recs -> Act -> Prop) : Nat -> Array Bool -> Recs -> Act -> Prop
 | 0, listed, ξ, a => L listed ξ a
 | f + 1, listed, ξ, a => Region.ready md ops listed ≠ [] /\ ∀ i ∈ Region.ready md ops listed, i < n /\ ∀ o, ops[i]? = some o -> StepK P ops md an W0 i o ξ a (AO P ops md an W0 n L f (listed.setIfInBounds i true))
structure Closed (md : Region.Mode) (ops : Array Oper) (n : Nat) (listed : Array Bool) : Prop where
 size : listed.size = ops.size
 closed : ∀ j oj, ops[j]? = some oj -> listed.getD j false = true -> ∀ e ∈ oj.after, Region.binds md e = true -> listed.getD e.on false = true
theorem Closed.set {n i : Nat} {listed : Array Bool} (inv : Closed md ops n listed) (hi : i ∈ Region.ready md ops listed) : Closed md ops n (listed.setIfInBounds i true) := by
 obtain ⟨_, oi, hoi, hall⟩ := mem_ready.1 hi
 refine ⟨by simp [inv.size], fun j oj hj hl e he hb => ?_⟩
 by_cases hij : i = j
 .
  subst hij
  have : oj = oi := Option.some.inj (hj.symm.trans hoi)
  subst this
  exact getD_set_true (hall e he hb)
 .
  rw [getD_set_ne false hij] at hl
  exact getD_set_true (inv.closed j oj hj hl e he hb)
def sinkAllB (md : Region.Mode) (ops : Array Oper) (n : Nat) : Bool := (List.range ops.size).all fun t => decide (t < n) || (List.range n).all fun i => (pastB md ops 8 [t]).contains i
theorem AO_first {n i : Nat} {oi : Oper} {S : Option Rec -> Value -> Prop} {L : Array Bool -> Recs -> Act -> Prop} (hi : ops[i]? = some oi) (hsel : ∀ (j : Nat) (o : Oper) cs b, ops[j]? = some o -> o.op ≠ .select cs b)
  (hs : sinkAllB md ops n = true) (hin : i < n) (hdone : ∀ listed ξ a, L listed ξ a -> ∀ j ∈ Region.ready md ops listed, n <= j) :
  ∀ (f : Nat) (listed : Array Bool) (ξ : Recs) (a : Act), Closed md ops n listed ->
   (∀ j oj, ops[j]? = some oj -> j ≠ i -> listed.getD j true = false -> (∀ e ∈ oj.after, Region.binds md e = true -> e.on ≠ i) -> oi.apart ops oj = true) ->
   i ∈ Region.ready md ops listed -> Outs P ops md an W0 i oi ξ a S ->
   (∀ ρ v, S ρ v -> AO P ops md an W0 n L f (listed.setIfInBounds i true) (upr ξ i ρ) (a.put oi.dst v)) -> AO P ops md an W0 n L (f + 1) listed ξ a := by
 intro f
 have head : ∀ (listed : Array Bool), Closed md ops n listed -> i ∈ Region.ready md ops listed -> ∀ j ∈ Region.ready md ops listed, j < n := by
  intro listed inv hr j hj
  rcases Nat.lt_or_ge j n with h | h
  .
   exact h
  .
   exfalso
   have hlt : j < ops.size := by obtain ⟨_, oj, hoj, _⟩ := mem_ready.1 hj; exact (Array.getElem?_eq_some_iff.1 hoj).1
   have h1 := List.all_eq_true.1 hs j (List.mem_range.2 hlt)
   simp only [Bool.or_eq_true, decide_eq_true_eq] at h1
   rcases h1 with h1 | h1
   .
    omega
   .
    rcases reach_listed hj inv.closed (List.all_eq_true.1 h1 i (List.mem_range.2 hin)) with h2 | h2
    .
     omega
    .
     rw [getD_both (mem_ready.1 hr).1] at h2; cases h2
 induction f with
 | zero =>
  intro listed ξ a inv _ hr hy H
  refine ⟨fun h => (by rw [h] at hr; cases hr), fun j hj => ⟨head listed inv hr j hj, fun oj hoj => ?_⟩⟩
  by_cases hji : j = i
  .
   subst hji
   obtain rfl : oj = oi := Option.some.inj (hoj.symm.trans hi)
   exact ⟨S, hy, H⟩
  .
   obtain ⟨ρ, v, hs⟩ := hy.some
   have := hdone _ _ _ (H ρ v hs) j (ready_mono hj hji)
   have := head listed inv hr j hj
   omega
 | succ f ih =>
  intro listed ξ a inv hfree hr hy H
  refine ⟨fun h => (by rw [h] at hr; cases hr), fun j hj => ⟨head listed inv hr j hj, fun oj hoj => ?_⟩⟩
  by_cases hji : j = i
  .
   subst hji
   obtain rfl : oj = oi := Option.some.inj (hoj.symm.trans hi)
   exact ⟨S, hy, H⟩
  .
   obtain ⟨hjun, oj', hoj', hall⟩ := mem_ready.1 hj
   obtain rfl : oj' = oj := Option.some.inj (hoj'.symm.trans hoj)
   have hun := (mem_ready.1 hr).1
   have hnot : ∀ e ∈ oj'.after, Region.binds md e = true -> e.on ≠ i := fun e he hb heq => by
    have h1 := hall e he hb
    rw [heq, getD_both hun] at h1
    cases h1
   have hri : reachB md ops i j = false := by
    cases h : reachB md ops i j with
    | false => rfl
    | true =>
     rcases reach_listed hr inv.closed h with h2 | h2
     .
      exact absurd h2 hji
     .
      rw [getD_both hjun] at h2; cases h2
   have hrj : reachB md ops j i = false := by
    cases h : reachB md ops j i with
    | false => rfl
    | true =>
     rcases reach_listed hj inv.closed h with h2 | h2
     .
      exact absurd h2.symm hji
     .
      rw [getD_both hun] at h2; cases h2
   have hfree' : ∀ k ok, ops[k]? = some ok -> k ≠ i -> (listed.setIfInBounds j true).getD k true = false ->
     (∀ e ∈ ok.after, Region.binds md e = true -> e.on ≠ i) -> oi.apart ops ok = true := fun k ok hk hki hun hno => by
    refine hfree k ok hk hki ?_ hno
    by_cases hjk : j = k
    .
     subst hjk; exact hjun
    .
     rw [getD_set_ne true hjk] at hun; exact hun
   refine (StepK.swap (Ne.symm hji) (hfree j oj' hoj hji hjun hnot) (fun cs b => hsel i oi cs b hi) (fun cs b => hsel j oj' cs b hoj) hri hrj hy fun ρ v hs => ((H ρ v hs).2 j (ready_mono hj hji)).2 oj' hoj).mono ?_
   rintro ξ' a' ⟨h1, h2⟩
   refine ih (listed.setIfInBounds j true) ξ' a' (inv.set hj) hfree' (ready_mono hr (Ne.symm hji)) h1 fun ρ v hs => ?_
   rw [Array.setIfInBounds_comm _ _ hji]
   exact h2 ρ v hs
structure Good (an : Anns) (W0 : World) (ξ : Recs) (w : World) : Prop where
 below : Below W0.heap.size W0 w
 fact : ∀ j, factAt an ξ j w
 range : ∀ j r, ξ j = some r -> W0.heap.size <= r.lo /\ r.lo <= r.hi /\ r.hi <= w.heap.size
 apart : ∀ i j r s, i ≠ j -> ξ i = some r -> ξ j = some s -> r.hi <= s.lo \/ s.hi <= r.lo
theorem Good.start (an : Anns) {W0 w : World} (h : Below W0.heap.size W0 w) : Good an W0 (fun _ => none) w :=
 ⟨h, (fun _ _ _ _ h => by cases h), (fun _ _ h => by cases h), (fun _ _ _ _ _ h => by cases h)⟩
theorem Good.add {ξ : Recs} {w w' : World} {i : Nat} {A : Ann} {x : Nat -> Value} (h : Good an W0 ξ w) (hb : Below w.heap.size w w') (hA : an i = some A) (hΦ : ∀ w'', Below w'.heap.size w' w'' -> A.Φ ⟨x, w.heap.size, w'.heap.size⟩ w'') :
  Good an W0 (upr ξ i (some ⟨x, w.heap.size, w'.heap.size⟩)) w' := by
 have hz := hb.size
 have hz0 := h.below.size
 have each : ∀ j r, upr ξ i (some ⟨x, w.heap.size, w'.heap.size⟩) j = some r -> (j = i /\ r = ⟨x, w.heap.size, w'.heap.size⟩) \/ (j ≠ i /\ ξ j = some r) := by
  intro j r hj
  unfold upr at hj
  by_cases e : j = i
  .
   left; simp only [if_pos e] at hj; exact ⟨e, (Option.some.inj hj).symm⟩
  .
   right; simp only [if_neg e] at hj; exact ⟨e, hj⟩
 refine ⟨h.below.trans (hb.mono hz0), ?_, ?_, ?_⟩
 .
  intro j B r hB hr w'' hb''
  rcases each j r hr with ⟨rfl, rfl⟩ | ⟨_, hr⟩
  .
   rw [hA] at hB; cases hB; exact hΦ w'' hb''
  .
   exact h.fact j B r hB hr w'' (hb.trans (hb''.mono hz))
 .
  intro j r hr
  rcases each j r hr with ⟨rfl, rfl⟩ | ⟨_, hr⟩
  .
   exact ⟨hz0, hz, Nat.le_refl _⟩
  .
   obtain ⟨h1, h2, h3⟩ := h.range j r hr
   exact ⟨h1, h2, by omega⟩
 .
  intro j k r s hjk hr hs
  rcases each j r hr with ⟨e1, e2⟩ | ⟨_, hr'⟩
  .
   rcases each k s hs with ⟨e3, _⟩ | ⟨_, hs'⟩
   .
    exact absurd (e1.trans e3.symm) hjk
   .
    right; rw [e2]; exact (h.range k s hs').2.2
  .
   rcases each k s hs with ⟨_, e4⟩ | ⟨_, hs'⟩
   .
    left; rw [e4]; exact (h.range j r hr').2.2
   .
    exact h.apart j k r s hjk hr' hs'
theorem wpAny_of_AO {n g : Nat} {L : Array Bool -> Recs -> Act -> Prop} {Q' : Exit -> Act -> World -> Prop} (hL : ∀ listed ξ a w, L listed ξ a -> Good an W0 ξ w -> wpAny P md ops Q' g listed a w) :
  ∀ (f : Nat) (listed : Array Bool) (ξ : Recs) (a : Act) (w : World), AO P ops md an W0 n L f listed ξ a -> Good an W0 ξ w -> wpAny P md ops Q' (f + g) listed a w
 | 0, listed, ξ, a, w, h, hg => by rw [Nat.zero_add]; exact hL _ _ _ _ h hg
 | f + 1, listed, ξ, a, w, h, hg => by
  rw [show f + 1 + g = (f + g) + 1 by omega]
  refine ⟨fun h0 => absurd h0 h.1, fun i hi => ?_⟩
  obtain ⟨_, oi, hoi, _⟩ := mem_ready.1 hi
  obtain ⟨S, hS, hK⟩ := (h.2 i hi).2 oi hoi
  unfold wpOp
  simp only [hoi]
  cases hS with
  | skip hw =>
   rw [if_neg (by rw [hw]; exact Bool.false_ne_true)]
   exact wpAny_of_AO hL f _ _ _ _ (hK none undef ⟨rfl, rfl⟩) hg
  | quiet v hw hn hr =>
   rw [if_pos hw]
   left
   unfold Oper.wp
   rw [hr w ⟨⟨w, hg.below⟩, rfl⟩]
   exact wpAny_of_AO hL f _ _ _ _ (hK none v ⟨rfl, rfl⟩) hg
  | lzy A hw hn hl =>
   rw [if_pos hw]
   left
   refine wp_of_lz (hl w hg.below fun j _ => hg.fact j) ?_
   rintro v w' ⟨hb, x, rfl, hΦ⟩
   exact wpAny_of_AO hL f _ _ _ _ (hK _ _ ⟨_, rfl, rfl⟩) (hg.add hb hn hΦ)
def LW (P : Program) (ops : Array Oper) (md : Region.Mode) (an : Anns) (W0 : World) (Q : Recs -> Act -> Prop) : List Oper -> Nat -> Recs -> Act -> Prop
 | [], _, ξ, a => Q ξ a
 | o :: r, k, ξ, a => StepK P ops md an W0 k o ξ a (LW P ops md an W0 Q r (k + 1))
def setTo (listed : Array Bool) : Nat -> Nat -> Array Bool
 | 0, _ => listed
 | f + 1, k => setTo (listed.setIfInBounds k true) f (k + 1)
def lazyHead (md : Region.Mode) (ops : Array Oper) (n : Nat) : Nat -> Nat -> Array Bool -> Bool
 | 0, _, listed => (Region.ready md ops listed).all fun j => decide (n <= j)
 | f + 1, k, listed => (Region.ready md ops listed).contains k && Region.free md ops listed k && lazyHead md ops n f (k + 1) (listed.setIfInBounds k true)
def lazyB (md : Region.Mode) (ops : Array Oper) (n : Nat) : Bool := Region.noSelect ops && sinkAllB md ops n && lazyHead md ops n n 0 (Array.replicate ops.size false)
theorem AO_lex {n : Nat} {Lq : Recs -> Act -> Prop} (hsel : Region.noSelect ops = true) (hs : sinkAllB md ops n = true) (done : Array Bool) (hdn : (Region.ready md ops done).all (fun j => decide (n <= j)) = true) :
  ∀ (l : List Oper) (k : Nat) (listed : Array Bool) (ξ : Recs) (a : Act), (∀ j, j < l.length -> l[j]? = ops[k + j]?) -> k + l.length = n -> Closed md ops n listed -> setTo listed l.length k = done ->
  lazyHead md ops n l.length k listed = true -> LW P ops md an W0 Lq l k ξ a -> AO P ops md an W0 n (fun listed' ξ' a' => listed' = done /\ Lq ξ' a') l.length listed ξ a
 | [], k, listed, ξ, a, _, _, _, hd, _, h => ⟨hd, h⟩
 | o :: l, k, listed, ξ, a, hl, hk, inv, hd, hB, h => by
  have h0 : ops[k]? = some o := by simpa using (hl 0 (by simp)).symm
  simp only [zlC, lazyHead, Bool.and_eq_true] at hB
  obtain ⟨⟨hr, hf⟩, hB'⟩ := hB
  have hkn : k < n := by simp only [zlC] at hk; omega
  have hr' : k ∈ Region.ready md ops listed := by simpa using hr
  obtain ⟨S, hS, hK⟩ := h
  refine AO_first h0 (Region.noSelect_spec hsel) hs hkn (fun listed' _ a' hL j hj => ?_) l.length listed ξ a inv (Region.free_spec h0 hf) hr' hS fun ρ v hs' => ?_
  .
   rw [hL.1] at hj; exact of_decide_eq_true (List.all_eq_true.1 hdn j hj)
  .
   exact AO_lex hsel hs done hdn l (k + 1) _ _ _ (fun j hj => by have := hl (j + 1) (by simp; omega); simpa [Nat.add_assoc, Nat.add_comm 1 j] using this) (by simp only [zlC] at hk; omega) (inv.set hr') (by simpa [setTo] using hd) hB' (hK ρ v hs')
theorem lazyHead_done {n : Nat} : ∀ (f k : Nat) (listed : Array Bool), lazyHead md ops n f k listed = true -> (Region.ready md ops (setTo listed f k)).all (fun j => decide (n <= j)) = true
 | 0, _, _, h => h
 | f + 1, k, listed, h => by
  simp only [lazyHead, Bool.and_eq_true] at h
  exact lazyHead_done f (k + 1) _ h.2
theorem wp_region_lazy {id : Nat} {Q : Exit -> Act -> World -> Prop} {a : Act} {w : World} {l : List Oper} (n : Nat) (an : Anns) (hm : P.follows .mixedOrders = true) (hn : n <= l.length) (hB : lazyB .any l.toArray n = true)
  (h : LW P l.toArray .any an w (fun ξ a' => ∀ w', Good an w ξ w' -> wpAny P .any l.toArray Q (l.length - n) (setTo (Array.replicate l.length false) n 0) a' w') (l.take n) 0 (fun _ => none) a) : (Code.region id l.toArray true).wp P Q a w := by
 simp only [lazyB, Bool.and_eq_true] at hB
 obtain ⟨⟨hsel, hs⟩, hlex⟩ := hB
 have htl : (l.take n).length = n := by simp; omega
 have inv0 : Closed .any l.toArray n (Array.replicate l.toArray.size false) := ⟨by simp, fun j oj _ hl => (by rw [getD_replicate_false] at hl; cases hl)⟩
 have hdn := lazyHead_done _ _ _ hlex
 have H := AO_lex (md := .any) hsel hs _ hdn (l.take n) 0 _ _ a (fun j hj => by
  have hj' : j < n := by rw [htl] at hj; exact hj
  simp [hj']) (by simpa using htl) inv0 (by rw [htl]) (by rw [htl]; exact hlex) h
 refine wp_region_any hm ?_
 simp only [List.size_toArray] at H
 have := wpAny_of_AO (g := l.length - n) (Q' := Q) (w := { w with drawn := w.drawn + 1 }) (fun listed ξ a' w' hL hg => ?_) _ _ _ _ H (Good.start an ((Below.refl _ w).drew))
 .
  rw [htl] at this
  simpa [show n + (l.length - n) = l.length by omega] using this
 .
  rw [hL.1]
  simpa using hL.2 w' hg
theorem wp_region_lz {id : Nat} {Q : Exit -> Act -> World -> Prop} {a : Act} {w : World} {l : List Oper} (n g : Nat) (done : Array Bool) (an : Anns) (hm : P.follows .mixedOrders = true) (hn : l.length = n + g) (hd : setTo (Array.replicate l.length false) n 0 = done) (hB : lazyB .any l.toArray n = true)
  (h : LW P l.toArray .any an w (fun ξ a' => ∀ w', Good an w ξ w' -> wpAny P .any l.toArray Q g done a' w') (l.take n) 0 (fun _ => none) a) : (Code.region id l.toArray true).wp P Q a w := by
 refine wp_region_lazy n an hm (by omega) hB ?_
 rw [hd, show l.length - n = g by omega]
 exact h
theorem bind_value {P : Program} {s : Sem Value} {w w' : World} {n : Next} (h : (do pure (Next.value (<- s)) : Sem Next).run P w = .ok n w') : ∃ u, n = .value u := by
 rw [Sem.run_bind] at h
 cases hr : Sem.run P s w with
 | ok u w1 => rw [hr] at h; simp [Result.andThen] at h; exact ⟨u, h.1.symm⟩
 | halt x w1 => rw [hr] at h; simp [Result.andThen] at h
theorem valB_run {o : Oper} {ρ : Operand -> Value} {w w' : World} {n : Next} (hv : valB o.op = true) (h : (execOp ρ o).run P w = .ok n w') : ∃ u, n = .value u := by
 unfold execOp at h
 cases ho : o.op <;> rw [ho] at hv h <;> first | (cases hv; done) | exact bind_value h | skip
 case move x => simp at h; exact ⟨_, h.1.symm⟩
 case assign x => simp at h; exact ⟨_, h.1.symm⟩
 case pick c a b =>
  dsimp only at h
  rw [Sem.run_bind] at h
  cases hr : Sem.run P (asBool (ρ c)) w with
  | ok u w1 => rw [hr] at h; simp [Result.andThen] at h; exact ⟨_, h.1.symm⟩
  | halt x w1 => rw [hr] at h; simp [Result.andThen] at h
 case call c =>
  unfold valB at hv
  dsimp only at h hv
  cases hc : c.callee with
  | builtin b =>
   rw [hc] at hv
   cases b <;> first | (cases hv; done) | skip
   all_goals
    simp [resolve, hc, invoke, builtin] at h
    generalize Sem.run P _ w = r at h
    cases r with
    | ok u w1 => simp [Result.andThen] at h; exact ⟨_, h.1.symm⟩
    | halt x w1 => simp [Result.andThen] at h
  | value f => rw [hc] at hv; cases hv
  | invoke r m => rw [hc] at hv; cases hv
theorem wpQuiet_LW {W0 : World} {Q : Recs -> Act -> Prop} : ∀ (qs rest : List Oper) (k : Nat) (ξ : Recs) (a : Act), qs.all (fun o => valB o.op) = true -> (List.range qs.length).all (fun i => (an (k + i)).isNone) = true ->
  wpQuiet P ops (LatC W0) (fun a' => LW P ops md an W0 Q rest (k + qs.length) ξ a') qs a -> LW P ops md an W0 Q (qs ++ rest) k ξ a
 | [], rest, k, ξ, a, _, _, h => h
 | o :: qs, rest, k, ξ, a, hv, hn, h => by
  simp only [List.all_cons, Bool.and_eq_true] at hv
  have hn0 : an k = none := by have := List.all_eq_true.1 hn 0 (List.mem_range.2 (by simp)); simpa using this
  have hn' : (List.range qs.length).all (fun i => (an (k + 1 + i)).isNone) = true := List.all_eq_true.2 fun i hi => by
   have := List.all_eq_true.1 hn (i + 1) (List.mem_range.2 (by have := List.mem_range.1 hi; simp; omega))
   rwa [show k + (i + 1) = k + 1 + i by omega] at this
  have next : ∀ a', wpQuiet P ops (LatC W0) (fun a'' => LW P ops md an W0 Q rest (k + (qs.length + 1)) ξ a'') qs a' -> LW P ops md an W0 Q (qs ++ rest) (k + 1) ξ a' := fun a' h' =>
   wpQuiet_LW qs rest (k + 1) ξ a' hv.2 hn' (by rwa [show k + 1 + qs.length = k + (qs.length + 1) by omega])
  unfold wpQuiet at h
  show StepK P ops md an W0 k o ξ a (LW P ops md an W0 Q (qs ++ rest) (k + 1))
  by_cases hw : Region.wanted o (yielded ops a.tmps) = true
  .
   rw [if_pos hw] at h
   obtain ⟨v, h1, h2⟩ := h
   refine ⟨_, .quiet v hw hn0 fun w hC => ?_, ?_⟩
   .
    have := h1 w hC
    unfold Oper.quietAt at this
    generalize hr : (execOp a.eval o).run P w = r at this
    cases r with
    | ok n w' =>
     obtain ⟨u, rfl⟩ := valB_run hv.1 hr
     obtain ⟨rfl, rfl⟩ := this
     rfl
    | halt x w' => exact this.elim
   .
    rintro ρ u ⟨rfl, rfl⟩
    exact next _ h2
  .
   rw [if_neg hw] at h
   refine ⟨_, .skip (by simpa using hw), ?_⟩
   rintro ρ u ⟨rfl, rfl⟩
   exact next _ h
theorem LW.block {W0 : World} {Q : Recs -> Act -> Prop} {l : List Oper} {k : Nat} {ξ : Recs} {a : Act} (m k' : Nat) (hk : k + (l.take m).length = k') (hv : (l.take m).all (fun o => valB o.op) = true) (hn : (List.range (l.take m).length).all (fun i => (an (k + i)).isNone) = true)
  (h : wpQuiet P ops (fun w => ∃ y : Lat W0, w = y.w) (fun a' => LW P ops md an W0 Q (l.drop m) k' ξ a') (l.take m) a) : LW P ops md an W0 Q l k ξ a := by
 subst hk
 have := wpQuiet_LW (l.take m) (l.drop m) k ξ a hv hn h
 rwa [List.take_append_drop] at this
theorem LW.lzy {W0 : World} {Q : Recs -> Act -> Prop} {o : Oper} {rest : List Oper} {k : Nat} {ξ : Recs} {a : Act} (A : Ann) (hw : Region.wanted o (yielded ops a.tmps) = true) (hA : an k = some A)
  (hl : ∀ y : Lat W0, (∀ j, reachB md ops k j = true -> factAt an ξ j y.w) -> lzAt P o a y.w (lzPost A y.w)) (h : ∀ r : Rec, LW P ops md an W0 Q rest (k + 1) (upr ξ k (some r)) (a.put o.dst (A.f r))) : LW P ops md an W0 Q (o :: rest) k ξ a := by
 refine ⟨_, .lzy A hw hA fun w hb hk => hl ⟨w, hb⟩ hk, ?_⟩
 rintro ρ u ⟨r, rfl, rfl⟩
 exact h r
theorem LW.done {W0 : World} {Q : Recs -> Act -> Prop} {k : Nat} {ξ : Recs} {a : Act} (h : Q ξ a) : LW P ops md an W0 Q [] k ξ a := h
theorem factAt.get {ξ : Recs} {j : Nat} {w : World} {A : Ann} {r : Rec} (h : factAt an ξ j w) (hA : an j = some A) (hr : ξ j = some r) : A.Φ r w := h A r hA hr w (Below.refl _ _)
theorem Good.get {W0 : World} {ξ : Recs} {w : World} (h : Good an W0 ξ w) (j : Nat) {A : Ann} {r : Rec} (hA : an j = some A) (hr : ξ j = some r) : A.Φ r w := (h.fact j).get hA hr
end
section
variable {P : Program} {ops : Array Oper} {rest : List Oper} {o : Oper} {a : Act} {Q : Exit -> Act -> World -> Prop} {w : World}
end
section
variable {P : Program} {ops : Array Oper} {rest : List Oper} {o : Oper} {a : Act} {Q : Exit -> Act -> World -> Prop} {w : World}
end
section
variable {P : Program} {ops : Array Oper} {rest : List Oper} {o : Oper} {a : Act} {Q : Exit -> Act -> World -> Prop} {w : World}
end
def annK (v : Value) : Ann := ⟨fun _ => v, fun _ _ => True⟩
theorem lz_constB {P : Program} {f : FuncId} {args : Array Value} {v : Value} {W : World} (h : Calls P f args W fun e w' => e = .returned v /\ Below W.heap.size W w') : Calls P f args W fun e w' => ∃ u, e = .returned u /\ lzPost (annK v) W u w' :=
 h.mono fun _ _ ⟨he, hw⟩ => ⟨v, he, hw, fun _ => undef, rfl, fun _ _ => trivial⟩
section
variable {w w' : World} {base : Nat} {e : TypeId} {v : Value} {n : Nat} {xs : List Value}
end
section
variable {P : Program}
end
section
variable {F : Fence} {nF : Nat} {P : Program} {ops : Array Oper} {rest : List Oper} {o : Oper} {a : Act} {Q : Exit -> Act -> World -> Prop} {w : World}
end
section
variable {F : Fence} {nF : Nat} {P : Program} {ops : Array Oper} {rest : List Oper} {o : Oper} {a : Act} {Q : Exit -> Act -> World -> Prop} {w w' : World}
end
section
variable {P : Program} {o : Oper} {a : Act} {w : World}
theorem run_str (src dst e : TypeId) (hs : P.underlying src = some (.slice e)) (he : P.underlying e = some (.int .u8)) (hd : P.underlying dst = some .string)
  (ad : Addr) (n c : Nat) (l : List UInt8) (hn : l.length = n) {S : Nat -> Prop} (hrow : RowAt S w (some ad) (bytesV l)) : (convert src dst (.slice (some ad) n c)).run P w = .ok (.string ⟨l.toArray⟩) w := by
 cases l with
 | nil =>
  subst hn
  rw [run_convert_bytes_string w src dst e _ _ _ hs he hd]
  simp [Conv.bytesToString]
  rfl
 | cons y l =>
  obtain ⟨b, off, h, _⟩ := hrow 0 (by simp [bytesV])
  obtain rfl := Option.some.inj h
  rw [run_convert_bytes_arg w src e hs he b off n c ((y :: l).map fun u => (u.toNat : Int)) (by simpa using hn) (fun i hi => ?_) dst hd, strOf_bytes]
  obtain ⟨b', off', h', hc, _⟩ := hrow i (by simp [bytesV] at hn |-; omega)
  obtain ⟨rfl, rfl⟩ : b = b' /\ off = off' := by simpa using h'
  have hi' : i < (y :: l).length := by omega
  rw [hc]
  simp only [bytesV, List.getElem_map]
  rw [List.getD, List.getElem?_map, List.getElem?_eq_getElem hi']
  rfl
theorem lz_strK (x : Operand) (src dst e : TypeId) (hop : o.op = .convert src dst x) (hs : P.underlying src = some (.slice e)) (he : P.underlying e = some (.int .u8)) (hd : P.underlying dst = some .string)
  (ad : Addr) (n c : Nat) (l : List UInt8) (hx : a.eval x = .slice (some ad) n c) (hn : l.length = n) {S : Nat -> Prop} (hrow : RowAt S w (some ad) (bytesV l)) : lzAt P o a w (lzPost (annK (.string ⟨l.toArray⟩)) w) := by
 unfold lzAt
 simp [execOp, hop, hx, run_str src dst e hs he hd ad n c l hn hrow, Result.andThen]
 exact ⟨Below.refl _ _, fun _ => undef, rfl, fun _ _ => trivial⟩
end
abbrev Kv := ByteArray × ByteArray
def kLt (a b : ByteArray) : Bool := Go.Op.bytesLess a.toList b.toList
inductive Nd where
 | mk (ps : List Kv) (kids : List Nd) (page : Int)
def Nd.ps : Nd -> List Kv | .mk a _ _ => a
def Nd.kids : Nd -> List Nd | .mk _ b _ => b
def Nd.page : Nd -> Int | .mk _ _ c => c
theorem Nd.ind {P : Nd -> Prop} (h : ∀ ps kids page, (∀ k ∈ kids, P k) -> P (.mk ps kids page)) (n : Nd) : P n :=
 Nd.rec (motive_1 := P) (motive_2 := fun l => ∀ k ∈ l, P k) (fun ps kids page ih => h ps kids page ih) (fun k hk => by cases hk)
  (fun x l hx hl k hk => (zmC.1 hk).elim (fun e => e ▸ hx) (hl k)) n
theorem Nd.eta (n : Nd) : Nd.mk n.ps n.kids n.page = n := by cases n; rfl
def Nd.least : Nd -> ByteArray
 | .mk ps [] _ => (ps.head?.map (·.1)).getD ByteArray.empty
 | .mk _ (k :: _) _ => k.least
mutual
def Nd.prs : Nd -> List Kv
 | .mk ps [] _ => ps
 | .mk _ (k :: ks) _ => k.prs ++ Nd.prsL ks
def Nd.prsL : List Nd -> List Kv
 | [] => []
 | k :: ks => k.prs ++ Nd.prsL ks
end
theorem Nd.prsL_eq (l : List Nd) : Nd.prsL l = (l.map Nd.prs).flatten := by
 induction l with
 | nil => rfl
 | cons x l ih => rw [Nd.prsL, ih]; rfl
theorem Nd.prs_leaf {n : Nd} (h : n.kids = []) : n.prs = n.ps := by
 cases n with | mk ps kids pg => obtain rfl : kids = [] := h; rw [Nd.prs]; rfl
theorem Nd.prs_inner {n : Nd} (h : n.kids ≠ []) : n.prs = (n.kids.map Nd.prs).flatten := by
 cases n with | mk ps kids pg =>
  cases kids with
  | nil => exact absurd rfl h
  | cons k ks => rw [Nd.prs, Nd.prsL_eq]; rfl
def depL : List Nat -> Nat
 | [] => 1
 | d :: r => if r.any (· != d) then 0 else if d = 0 then 0 else d + 1
mutual
def Nd.dep : Nd -> Nat
 | .mk _ [] _ => 1
 | .mk _ (k :: ks) _ => depL (k.dep :: Nd.depK ks)
def Nd.depK : List Nd -> List Nat
 | [] => []
 | k :: ks => k.dep :: Nd.depK ks
end
theorem Nd.depK_eq (l : List Nd) : Nd.depK l = l.map Nd.dep := by
 induction l with
 | nil => rfl
 | cons x l ih => rw [Nd.depK, ih]; rfl
theorem Nd.dep_eq (n : Nd) : n.dep = depL (n.kids.map Nd.dep) := by
 cases n with | mk ps kids pg =>
  cases kids with
  | nil => rw [Nd.dep]; rfl
  | cons k ks => rw [Nd.dep, Nd.depK_eq]; rfl
def Nd.size (n : Nd) : Nat := n.ps.length + n.kids.length
def Nd.small (n : Nd) : Bool := if n.kids = [] then decide (n.ps.length < 2) else decide (n.kids.length < 4)
mutual
def Nd.smallB : Nd -> Bool
 | .mk _ ks _ => Nd.smallK ks
def Nd.smallK : List Nd -> Bool
 | [] => false
 | k :: ks => (k.small || k.smallB) || Nd.smallK ks
end
theorem Nd.smallK_eq (l : List Nd) : Nd.smallK l = l.any fun k => k.small || k.smallB := by
 induction l with
 | nil => rfl
 | cons x l ih => rw [Nd.smallK, ih]; rfl
theorem Nd.smallB_eq (n : Nd) : n.smallB = n.kids.any fun k => k.small || k.smallB := by
 cases n with | mk ps kids pg => rw [Nd.smallB, Nd.smallK_eq]; rfl
def ascK : List Kv -> Bool
 | a :: b :: r => kLt a.1 b.1 && ascK (b :: r)
 | _ => true
def formedB (n : Nd) : Bool := ascK n.prs && decide (0 < n.dep) && !n.smallB
def textL (s : ByteArray) : List UInt8 := UInt8.ofNat s.size :: s.data.toList
def padZ (l : List UInt8) : List UInt8 := l ++ List.replicate (512 - l.length) 0
def pageB (p : Int) : List UInt8 := [UInt8.ofNat (p / 256).toNat, UInt8.ofNat p.toNat]
def encLf (ps : List Kv) : List UInt8 := 76 :: UInt8.ofNat ps.length :: (ps.map fun p => textL p.1 ++ textL p.2).flatten
def encIn (kids : List Nd) : List UInt8 := 78 :: UInt8.ofNat kids.length :: ((kids.map fun k => pageB k.page).flatten ++ (kids.tail.map fun k => textL k.least).flatten)
def encL (n : Nd) : List UInt8 := if n.kids = [] then encLf n.ps else encIn n.kids
def encD (n : Nd) : List UInt8 := padZ (encL n)
def textP : List UInt8 -> Option (List UInt8 × List UInt8)
 | [] => none
 | c :: r => if r.length < c.toNat then none else some (r.take c.toNat, r.drop c.toNat)
def pairP (s : List UInt8) : Option (Kv × List UInt8) :=
 match textP s with
 | none => none
 | some (k, r) =>
  match textP r with
  | none => none
  | some (v, r2) => if 48 < k.length \/ 80 < v.length then none else some ((bs k, bs v), r2)
def leafP : Nat -> List UInt8 -> Option (List Kv)
 | 0, _ => some []
 | n + 1, s =>
  match pairP s with
  | none => none
  | some (x, r) => (leafP n r).map (x :: ·)
def kidPg (s : List UInt8) (i : Nat) : Int := ((s.getD (2 * i) 0).toNat * 256 + (s.getD (2 * i + 1) 0).toNat : Nat)
def kidPgs (s : List UInt8) (n : Nat) : List Int := (List.range n).map (kidPg s)
def kidsW (g : Int -> List Int -> Option (Nd × List Int)) : List Int -> List Int -> Option (List Nd × List Int)
 | [], u => some ([], u)
 | p :: r, u =>
  match g p u with
  | none => none
  | some (n, u1) => (kidsW g r u1).map fun x => (n :: x.1, x.2)
def loadR (d : Dsk) (frm til : Int) : Nat -> Int -> List Int -> Option (Nd × List Int)
 | 0, _, _ => none
 | f + 1, page, used =>
  if page < frm + 2 \/ til <= page \/ page ∈ used then none
  else if (pageL d page).getD 0 0 = 76 then
   if ((pageL d page).getD 1 0).toNat < 1 \/ 3 < ((pageL d page).getD 1 0).toNat then none
   else match leafP ((pageL d page).getD 1 0).toNat ((pageL d page).drop 2) with
    | none => none
    | some ps => if padZ (encLf ps) = pageL d page then some (.mk ps [] page, used ++ [page]) else none
  else if (pageL d page).getD 0 0 ≠ 78 \/ ((pageL d page).getD 1 0).toNat < 2 \/ 8 < ((pageL d page).getD 1 0).toNat then none
  else match kidsW (loadR d frm til f) (kidPgs ((pageL d page).drop 2) ((pageL d page).getD 1 0).toNat) (used ++ [page]) with
   | none => none
   | some (kids, u) => if padZ (encIn kids) = pageL d page then some (.mk [] kids page, u) else none
def kidsV (g : Int -> List Int -> Option (Nd × Nat × List Int)) : List Int -> Option Nat -> List Int -> Option (List Nd × Nat × List Int)
 | [], o, u => some ([], o.getD 0, u)
 | p :: r, o, u =>
  match g p u with
  | none => none
  | some (n, k, u1) => if o ≠ none /\ o ≠ some k then none else (kidsV g r (some k) u1).map fun x => (n :: x.1, x.2)
def loadP (d : Dsk) (frm til : Int) : Nat -> Bool -> Int -> List Int -> Option (Nd × Nat × List Int)
 | 0, _, _, _ => none
 | f + 1, root, page, used =>
  if page < frm + 2 \/ til <= page \/ page ∈ used then none
  else if (pageL d page).getD 0 0 = 76 then
   if ((pageL d page).getD 1 0).toNat < 1 \/ 3 < ((pageL d page).getD 1 0).toNat \/ (root = false /\ ((pageL d page).getD 1 0).toNat < 2) then none
   else match leafP ((pageL d page).getD 1 0).toNat ((pageL d page).drop 2) with
    | none => none
    | some ps => if padZ (encLf ps) = pageL d page then some (.mk ps [] page, 1, used ++ [page]) else none
  else if (pageL d page).getD 0 0 ≠ 78 \/ ((pageL d page).getD 1 0).toNat < 2 \/ 8 < ((pageL d page).getD 1 0).toNat \/ (root = false /\ ((pageL d page).getD 1 0).toNat < 4) then none
  else match kidsV (loadP d frm til f false) (kidPgs ((pageL d page).drop 2) ((pageL d page).getD 1 0).toNat) none (used ++ [page]) with
   | none => none
   | some (kids, k, u) => if padZ (encIn kids) = pageL d page then some (.mk [] kids page, k + 1, u) else none
structure Ix where
 disk : Dsk
 frm : Int
 til : Int
 ver : Int
 root : Int
 free : List Int
def zeroX : Ix := ⟨zeroD, 0, 0, 0, 0, []⟩
def fits5 (d : Dsk) (frm til : Int) : Bool := decide (d.size = 512) && decide (0 <= frm) && decide (til <= d.pages.length) && decide (3 <= til) && decide (frm <= til - 3)
def fitX (d : Dsk) (frm til : Int) : Int := if chk d ≠ 0 then 1 else if fits5 d frm til = false then 2 else 0
def hdrX (s : List UInt8) (frm til : Int) (k : Nat) : Option (Nat × Nat) :=
 if 1 <= be (s.take 8) /\ be (s.take 8) <= 1099511627776 /\ be ((s.drop 8).take 8) <= 1099511627776 /\ (be ((s.drop 8).take 8) = 0 \/ (frm + 2 <= (be ((s.drop 8).take 8) : Int) /\ (be ((s.drop 8).take 8) : Int) < til)) /\ be (s.take 8) % 2 = k /\ s = hdrL 512 (be (s.take 8)) (be ((s.drop 8).take 8))
 then some (be (s.take 8), be ((s.drop 8).take 8)) else none
def headX (d : Dsk) (frm til : Int) : Nat × Nat := pickH (hdrX (pageL d frm) frm til 0) (hdrX (pageL d (frm + 1)) frm til 1)
def pgsX (frm til : Int) : List Int := (List.range (til - frm - 2).toNat).map fun i : Nat => frm + 2 + (i : Int)
def otherX (frm til : Int) (used : List Int) : List Int := (pgsX frm til).filter fun p => !used.contains p
def fuelX (frm til : Int) : Nat := (til - frm).toNat
def treeX (d : Dsk) (frm til : Int) (r : Nat) : Option (Option Nd × List Int) :=
 if r = 0 then some (none, [])
 else match loadR d frm til (fuelX frm til) r [] with
  | none => none
  | some (n, u) => if formedB n then some (some n, u) else none
def readX (d : Dsk) (frm til : Int) : Option (Ix × Option Nd) :=
 if (headX d frm til).1 = 0 then none
 else match treeX d frm til (headX d frm til).2 with
  | none => none
  | some (t, u) => some (⟨d, frm, til, (headX d frm til).1, (headX d frm til).2, otherX frm til u⟩, t)
def openX (d : Dsk) (frm til : Int) : Ix × Int :=
 if fitX d frm til ≠ 0 then (zeroX, fitX d frm til)
 else match readX d frm til with
  | none => (zeroX, 25)
  | some (x, _) => (x, 0)
def validX (x : Ix) : Option (Option Nd) :=
 if fitX x.disk x.frm x.til ≠ 0 then none
 else match readX x.disk x.frm x.til with
  | none => none
  | some (y, t) => if y.ver = x.ver /\ y.root = x.root /\ y.free = x.free then some t else none
def pairsO : Option Nd -> List Kv
 | none => []
 | some n => n.prs
def scanP (l : List Kv) (low high : ByteArray) : List Kv := l.filter fun p => !kLt p.1 low && (decide (high = ByteArray.empty) || kLt p.1 high)
def childP (kids : List Nd) (key : ByteArray) : Nat := ((kids.tail.takeWhile fun k => !kLt key k.least).length)
def withP (l : List Kv) (x : Kv) : List Kv := l.takeWhile (fun p => kLt p.1 x.1) ++ x :: (l.dropWhile fun p => kLt p.1 x.1).dropWhile fun p => decide (p.1 = x.1)
def withoutP (l : List Kv) (key : ByteArray) : List Kv := l.filter fun p => decide (p.1 ≠ key)
def lfN (ps : List Kv) : Nd := .mk ps [] 0
def inN (kids : List Nd) : Nd := .mk [] kids 0
def splitN (n : Nd) : Nd × Option Nd :=
 if n.kids = [] then (if 3 < n.ps.length then (lfN (n.ps.take 2), some (lfN (n.ps.drop 2))) else (n, none))
 else if 8 < n.kids.length then (inN (n.kids.take 5), some (inN (n.kids.drop 5))) else (n, none)
theorem Nd.kid_lt {n k : Nd} (h : k ∈ n.kids) : SizeOf.sizeOf k < SizeOf.sizeOf n := by
 cases n with | mk ps kids pg =>
  have := List.sizeOf_lt_of_mem (show k ∈ kids from h)
  simp
  omega
def insN (x : Kv) (n : Nd) : Nd × Option Nd :=
 if n.kids = [] then splitN (lfN (withP n.ps x))
 else match _hk : n.kids[childP n.kids x.1]? with
  | none => (n, none)
  | some c => splitN (inN (n.kids.take (childP n.kids x.1) ++ (insN x c).1 :: (insN x c).2.toList ++ n.kids.drop (childP n.kids x.1 + 1)))
termination_by SizeOf.sizeOf n
decreasing_by all_goals exact Nd.kid_lt (List.mem_of_getElem? _hk)
def putN (o : Option Nd) (x : Kv) : Nd :=
 match o with
 | none => lfN [x]
 | some n => match insN x n with
  | (a, none) => a
  | (a, some b) => inN [a, b]
def joinN (a b : Nd) : Nd := .mk (a.ps ++ b.ps) (a.kids ++ b.kids) 0
def cutN (n : Nd) (k : Nat) : Nd × Nd := if n.kids = [] then (lfN (n.ps.take k), lfN (n.ps.drop k)) else (inN (n.kids.take k), inN (n.kids.drop k))
def Nd.rich (n : Nd) : Bool := if n.kids = [] then decide (2 < n.ps.length) else decide (4 < n.kids.length)
def twoN (a b : Nd) (left : Bool) : List Nd :=
 if left then (if a.rich then [(cutN (joinN a b) (a.size - 1)).1, (cutN (joinN a b) (a.size - 1)).2] else [joinN a b])
 else (if b.rich then [(cutN (joinN a b) (a.size + 1)).1, (cutN (joinN a b) (a.size + 1)).2] else [joinN a b])
def mendN (l : List Nd) (k : Nat) : List Nd :=
 match l[k]? with
 | none => l
 | some c => if c.small = false then l
  else match l[k - 1]?, l[k - 1 + 1]? with
   | some a, some b => l.take (k - 1) ++ twoN a b (decide (0 < k)) ++ l.drop (k - 1 + 2)
   | _, _ => l
def remN (key : ByteArray) (n : Nd) : Nd :=
 if n.kids = [] then lfN (withoutP n.ps key)
 else match _hk : n.kids[childP n.kids key]? with
  | none => n
  | some c => inN (mendN (n.kids.set (childP n.kids key) (remN key c)) (childP n.kids key))
termination_by SizeOf.sizeOf n
decreasing_by all_goals exact Nd.kid_lt (List.mem_of_getElem? _hk)
def dropN (o : Option Nd) (key : ByteArray) : Option Nd :=
 match o with
 | none => none
 | some n => match (remN key n).kids with
  | [c] => some c
  | _ => if (remN key n).size = 0 then none else some (remN key n)
structure Chg where
 key : ByteArray
 hasOld : Bool
 old : ByteArray
 hasNew : Bool
 new : ByteArray
def chgE (prev : Option Chg) (c : Chg) : Int :=
 if 48 < c.key.size \/ 80 < c.old.size \/ 80 < c.new.size then 4
 else if (match prev with | none => false | some p => !kLt p.key c.key) = true then 9
 else if (c.hasOld = false /\ c.hasNew = false) \/ (c.hasOld = false /\ c.old ≠ ByteArray.empty) \/ (c.hasNew = false /\ c.new ≠ ByteArray.empty) then 1
 else 0
def chgsE : Option Chg -> List Chg -> Int
 | _, [] => 0
 | p, c :: r => if chgE p c ≠ 0 then chgE p c else chgsE (some c) r
def chg1 (o : Option Nd) (c : Chg) : Option Nd := if c.hasNew then some (putN o (c.key, c.new)) else dropN o c.key
structure Plc where
 free : List Int
 ws : List PW
mutual
def placeN (look : List UInt8 -> Option Int) : Nd -> Plc -> Option (Nd × Plc)
 | .mk ps ks _, p =>
  match placeK look ks p with
  | none => none
  | some (kids, q) =>
   match look (encD (.mk ps kids 0)) with
   | some g => some (.mk ps kids g, q)
   | none => match q.free with
    | [] => none
    | g :: r => some (.mk ps kids g, ⟨r, q.ws ++ [⟨g, bs (encD (.mk ps kids 0))⟩]⟩)
def placeK (look : List UInt8 -> Option Int) : List Nd -> Plc -> Option (List Nd × Plc)
 | [], p => some ([], p)
 | k :: ks, p =>
  match placeN look k p with
  | none => none
  | some (n, q) => (placeK look ks q).map fun x => (n :: x.1, x.2)
end
mutual
def Nd.nodes : Nd -> List Nd
 | .mk ps ks g => Nd.nodesK ks ++ [.mk ps ks g]
def Nd.nodesK : List Nd -> List Nd
 | [] => []
 | k :: ks => k.nodes ++ Nd.nodesK ks
end
def commitOps (x : Ix) (ws : List PW) (root : Int) : List DOp :=
 (if ws = [] then [] else ws.map (fun w => DOp.wr w.page w.data) ++ [.fl]) ++ [.wr (x.frm + (x.ver + 1).tmod 2) (bs (hdrL 512 (x.ver + 1).toNat root.toNat)), .fl]
def usedN : Option Nd -> List Int
 | none => []
 | some n => n.nodes.map Nd.page
def rootN : Option Nd -> Int
 | none => 0
 | some n => n.page
def fmtX (d : Dsk) (frm til : Int) : Dsk × Int :=
 if fitX d frm til ≠ 0 then (zeroD, fitX d frm til)
 else perfP d [.wr frm (bs (padZ [])), .wr (frm + 1) (bs (hdrL 512 1 0)), .fl]
end Go.Proofs.YtlefmmhlpgmbjaaGreat
