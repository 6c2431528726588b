/- Layer 40's functions as the laws meet them: a disk that lies somewhere in memory. -/
import Derived.Test.YtjbcagijfodfgaaLKit
import Derived.Test.YtjbcagijfodfgaaLat
namespace Go.Proofs.Ytjbcagijfodfgaa
open Go.RowKit

/-- the value v is the disk d in the world w -/
def DskV (w : World) (v : Value) (d : Dsk) : Prop := DskR (· < w.heap.size) w v d
theorem DskV.of {S : Nat → Prop} {w : World} {v : Value} {d : Dsk} (h : DskR S w v d) (hS : InS S w) : DskV w v d := h.mono hS
theorem DskV.below {w w' : World} {v : Value} {d : Dsk} (h : DskV w v d) (hb : Below w.heap.size w w') : DskV w' v d :=
  DskR.mono (DskR.below h hb) fun _ hs => Nat.lt_of_lt_of_le hs hb.size
theorem DskV.drewN {w : World} {v : Value} {d : Dsk} (h : DskV w v d) (n : Nat) : DskV (w.drewN n) v d := h.below (Below.drewN (Below.refl _ _) n)
theorem inS_all (w : World) : InS (· < w.heap.size) w := fun _ h => h
theorem gr_all {w w' : World} (hb : Below w.heap.size w w') : InS (Gr (· < w.heap.size) w w') w' := (inS_all w).gr hb
theorem DskV.agg {w : World} {v : Value} {d : Dsk} (h : DskV w v d) : ∃ po pc co cc, v = .agg #[.int .i64 d.size, .slice po d.pages.length pc, .slice co d.cache.length cc, .int .i64 d.left] := by
  obtain ⟨po, pc, co, cc, e, _⟩ := h
  exact ⟨po, pc, co, cc, e⟩
/-- the cells of a disk in its box -/
def dcells (d : Dsk) (po co : Option Addr) (pc cc : Nat) : Array Value := #[.int .i64 d.size, .slice po d.pages.length pc, .slice co d.cache.length cc, .int .i64 d.left]

theorem v_write (d : Dsk) (v : Value) (i : Int) (data : ByteArray) (w : World) (hD : DskV w v d) (hd : data.size ≤ 140737488351232) (hn : d.cache.length ≤ 1000000) {A : Dsk} {er : Int} (he : writeD d i data = (A, er)) :
    Calls Try.prog 22 #[v, .int .i64 i, .string data] w fun e w' => ∃ v', e = .returned (.tuple #[v', .int .i64 er]) ∧ DskV w' v' A ∧ Below w.heap.size w w' := by
  refine (disk_write d v i data w (inS_all w) hD hd hn).mono ?_
  rintro e w' ⟨v', rfl, h, hb⟩
  rw [he] at h ⊢
  exact ⟨v', rfl, .of h (gr_all hb), hb⟩
theorem v_flush (d : Dsk) (v : Value) (w : World) (hD : DskV w v d) {A : Dsk} {er : Int} (he : flushD d = (A, er)) :
    Calls Try.prog 24 #[v] w fun e w' => ∃ v', e = .returned (.tuple #[v', .int .i64 er]) ∧ DskV w' v' A ∧ Below w.heap.size w w' := by
  refine (disk_flush d v w (inS_all w) hD).mono ?_
  rintro e w' ⟨v', rfl, h, hb⟩
  rw [he] at h ⊢
  exact ⟨v', rfl, .of h (gr_all hb), hb⟩
theorem v_crash (d : Dsk) (v : Value) (picks : List Int) (qo : Option Addr) (qc : Nat) (w : World) {T : Nat → Prop} (hD : DskV w v d) (hq : IntsAt T w qo picks) (hql : picks.length ≤ 1000000) (hn : d.cache.length ≤ 1000000) {A : Dsk} (he : crashD d picks = A) :
    Calls Try.prog 18 #[v, .slice qo picks.length qc] w fun e w' => ∃ v', e = .returned v' ∧ DskV w' v' A ∧ Below w.heap.size w w' := by
  refine (disk_crash d v picks qo qc w (inS_all w) hD hq hql hn).mono ?_
  rintro e w' ⟨v', rfl, h, hb⟩
  rw [he] at h
  exact ⟨v', rfl, .of h (gr_all hb), hb⟩
theorem v_read (d : Dsk) (v : Value) (i : Int) (w : World) (hD : DskV w v d) {s : ByteArray} {er : Int} (he : readD d i = (s, er)) :
    Calls Try.prog 20 #[v, .int .i64 i] w fun e w' => e = .returned (.tuple #[.string s, .int .i64 er]) ∧ Below w.heap.size w w' := by
  refine (disk_read d v i w (inS_all w) hD).mono ?_
  rintro e w' ⟨rfl, hb⟩
  rw [he]
  exact ⟨rfl, hb⟩
theorem v_check (d : Dsk) (v : Value) (w : World) (hD : DskV w v d) {er : Int} (he : chk d = er) :
    Calls Try.prog 16 #[v] w fun e w' => e = .returned (.int .i64 er) ∧ Below w.heap.size w w' := he ▸ disk_check d v w hD
theorem v_rcheck (d : Dsk) (v : Value) (w : World) (hD : DskV w v d) {er : Int} (he : chk d = er) :
    Calls Try.prog 17 #[v] w fun e w' => e = .returned (.int .i64 er) ∧ Below w.heap.size w w' := he ▸ ref40_check d v w hD
theorem v_great {b : Bool} (d : Dsk) (v : Value) (w : World) (hD : DskV w v d) (hg : greatW d.pages d.cache = b) :
    Calls Try.prog 11 #[v] w fun e w' => e = .returned (.bool b) ∧ Below w.heap.size w w' := great_b d v w hD hg
theorem v_same (d : Dsk) (va vb : Value) (w : World) (hD : DskV w va d) (hE : DskV w vb d) :
    Calls Try.prog 15 #[va, vb] w fun e w' => e = .returned (.bool true) ∧ Below w.heap.size w w' := same_refl d va vb w hD hE
end Go.Proofs.Ytjbcagijfodfgaa
