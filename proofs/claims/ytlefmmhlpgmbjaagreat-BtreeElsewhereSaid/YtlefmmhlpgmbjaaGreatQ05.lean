/- Plain laws of layer 42: the order of keys, ascending pairs. No function of the program is named here. Numbers of 8 bytes of layer 42: btree.integer, readInteger, header, padded; the reference's number, value, filled, Header. Numbers of 8 bytes and headers of the reference of layer 42. Layer 40's functions as the laws meet them: a disk that lies somewhere in memory. A header read: pagelog.read; quiltref41.header's own part is in PReadR. Whether pages fit (pagelog.fits, quiltref41.Fits), the size of the area; quiltref41.read, area, header. The bytes of the area, as the reference collects them. quiltref41.header: the header of a page. Whether pages fit, valid headers: btree.fits, readHeader; quiltref42.Fits, header. Valid headers of layer 42: btree.readHeader, quiltref42.header. 32-bit words: what the walk computes on them, as UInt32. Rotations of words. The schedule of words of a block, of the program and of the reference. The program's schedule of words. The constants of the steps and the first state. One block: the program's compress. Xor of two digests, of the program and of the reference. What both Sums compute. sha256.blocks: the contract of its iterator: the blocks of the padded message, in order. sha256.Sum: the digest of a message. The reference's padded message. One block: the reference's step. quiltref02.Sum: the digest of a message. The check value of a digest: of the program and of the reference. Rows of elements of more than one cell: reading, writing, growing; structs and arrays built and compared. No function of the program is named here. What is kept besides a row of the call's own: blocks of other types; trees of the program in memory, nodes of the reference. Trees of the program in memory (addressed trees); nodes of the reference in memory; the least key on both sides. -/
import Derived.Test.YtlefmmhlpgmbjaaGreatQ04
import Derived.Test.YtlefmmhlpgmbjaaGreatQ03
import Derived.Lib.AppendStr
import Derived.RangeFuncBox
import Derived.RangeFuncLeaves
import Derived.Shelf.Abstract
import Derived.WalkKit
import Derived.OwnWalkIn
import Derived.TacticsInMore
import Derived.LoopNIn
import Derived.LoopIn
import Derived.Test.YtlefmmhlpgmbjaaGreatQ02
import Derived.DeepKeys
import Derived.Deep.LoopGhost
import Derived.Test.YtlefmmhlpgmbjaaGreatQ01
namespace Go.Proofs.YtlefmmhlpgmbjaaGreat
set_option maxRecDepth 100000
open Go.RowKit
set_option maxHeartbeats 1000000 in
theorem bl_irrefl : ∀ l : List UInt8, Go.Op.bytesLess l l = false
 | [] => rfl
 | x :: l => by rw [Go.Op.bytesLess]; simp [bl_irrefl l]
theorem bl_trans : ∀ {a b c : List UInt8}, Go.Op.bytesLess a b = true -> Go.Op.bytesLess b c = true -> Go.Op.bytesLess a c = true
 | _, [], _, h, _ => by simp [Go.Op.bytesLess] at h
 | _, _ :: _, [], _, h => by simp [Go.Op.bytesLess] at h
 | [], _ :: _, _ :: _, _, _ => by simp [Go.Op.bytesLess]
 | x :: a, y :: b, z :: c, h1, h2 => by
  rw [Go.Op.bytesLess] at h1 h2 |-
  simp only [Bool.or_eq_true, decide_eq_true_eq, Bool.and_eq_true, beq_iff_eq] at h1 h2 |-
  rcases h1 with h1 | ⟨rfl, h1⟩
  .
   rcases h2 with h2 | ⟨rfl, h2⟩
   .
    exact .inl (UInt8.lt_trans h1 h2)
   .
    exact .inl h1
  .
   rcases h2 with h2 | ⟨rfl, h2⟩
   .
    exact .inl h2
   .
    exact .inr ⟨rfl, bl_trans h1 h2⟩
theorem bl_total : ∀ {a b : List UInt8}, Go.Op.bytesLess a b = false -> Go.Op.bytesLess b a = false -> a = b
 | [], [], _, _ => rfl
 | [], _ :: _, h, _ => by simp [Go.Op.bytesLess] at h
 | _ :: _, [], _, h => by simp [Go.Op.bytesLess] at h
 | x :: a, y :: b, h1, h2 => by
  rw [Go.Op.bytesLess] at h1 h2
  simp only [Bool.or_eq_false_iff, decide_eq_false_iff_not, Bool.and_eq_false_iff] at h1 h2
  obtain ⟨h1, h1'⟩ := h1
  obtain ⟨h2, h2'⟩ := h2
  obtain rfl : x = y := UInt8.le_antisymm (UInt8.not_lt.1 h2) (UInt8.not_lt.1 h1)
  simp at h1' h2'
  rw [bl_total h1' h2']
theorem toList_inj' {a b : ByteArray} (h : a.toList = b.toList) : a = b := by
 have h' : a.data.toList = b.data.toList := by simpa [ByteArray.toList_eq] using h
 exact ByteArray.ext (Array.ext' h')
theorem kLt_irrefl (a : ByteArray) : kLt a a = false := bl_irrefl _
theorem kLt_trans {a b c : ByteArray} (h : kLt a b = true) (k : kLt b c = true) : kLt a c = true := bl_trans h k
theorem kLt_total {a b : ByteArray} (h : kLt a b = false) (k : kLt b a = false) : a = b := toList_inj' (bl_total h k)
theorem kLt_asymm {a b : ByteArray} (h : kLt a b = true) : kLt b a = false := by
 cases g : kLt b a
 .
  rfl
 .
  have := kLt_trans h g; rw [kLt_irrefl] at this; cases this
theorem kLt_ne {a b : ByteArray} (h : kLt a b = true) : a ≠ b := by rintro rfl; rw [kLt_irrefl] at h; cases h
theorem kLe_lt {a b c : ByteArray} (h : kLt b a = false) (k : kLt b c = true) : kLt a c = true := by
 cases g : kLt a b
 .
  obtain rfl := kLt_total g h; exact k
 .
  exact kLt_trans g k
theorem kLt_le {a b c : ByteArray} (h : kLt a b = true) (k : kLt c b = false) : kLt a c = true := by
 cases g : kLt b c
 .
  obtain rfl := kLt_total g k; exact h
 .
  exact kLt_trans h g
def Asc (l : List Kv) : Prop := l.Pairwise fun a b => kLt a.1 b.1 = true
theorem asc_iff : ∀ l : List Kv, ascK l = true ↔ Asc l
 | [] => by simp [ascK, Asc]
 | [a] => by simp [ascK, Asc]
 | a :: b :: r => by
  rw [ascK, Bool.and_eq_true, asc_iff (b :: r)]
  constructor
  .
   rintro ⟨h1, h2⟩
   refine List.pairwise_cons.2 ⟨fun x hx => ?_, h2⟩
   rcases zmC.1 hx with rfl | hx
   .
    exact h1
   .
    exact kLt_trans h1 ((List.pairwise_cons.1 h2).1 x hx)
  .
   intro h
   obtain ⟨h1, h2⟩ := List.pairwise_cons.1 h
   exact ⟨h1 b (by simp), h2⟩
theorem Asc.app {l m : List Kv} : Asc (l ++ m) ↔ Asc l /\ Asc m /\ ∀ a ∈ l, ∀ b ∈ m, kLt a.1 b.1 = true := List.pairwise_append
theorem Asc.sub {l m : List Kv} (h : Asc m) (s : l.Sublist m) : Asc l := List.Pairwise.sublist s h
theorem bt_integer (n : Nat) (w : World) :
  Calls Tryz.prog 85 #[.int .i64 n] w fun e w' => e = .returned (.string (bs (num8 n))) /\ Below w.heap.size w w' := by
 go_enter Tryz.func85, Tryz.ntmps85
 go_wp2
 go_loopw [4, 5] (fun _ i wr => ∃ k : Nat, k <= 8 /\ i = .int .i64 k /\ Bx wr w.heap.size (bytesV (numC n k)).toArray 195 /\ Below w.heap.size w wr) (fun _ i _ => 8 - (intOf i).toNat)
 case atStart => exact ⟨0, by omega, rfl, Bx.new w _ _, Below.one _ _⟩
 case round =>
  obtain ⟨k, hk, rfl, x, hB⟩ := hrel
  by_cases hlt : k < 8
  .
   have fX := x.free (7 - k)
   have cX : wr.cell? ⟨w.heap.size, 7 - k, none⟩ = some (.int .u8 0) := by rw [x.cell, numC_get n k hlt]
   go_wp2
   go_roundw
   case rel => exact ⟨k + 1, by omega, by go_num, by rw [<- numC_set n k hlt]; exact x.set _ _, below_set1 hB (Nat.le_refl _)⟩
   case measure => simp [intOf]; omega
  .
   obtain rfl : k = 8 := by omega
   go_wp2_with (refine wpList_str rfl _ 139 9 5 rfl Tryz.underlying139 Tryz.underlying5 Tryz.underlying9 _ 8 8 (num8 n) rfl rfl (S := (· = w.heap.size)) (by rw [<- numC_all]; simpa using RowAt.bx x) ?_)
   go_ret
   exact ⟨rfl, hB⟩
theorem be_snoc (l : List UInt8) (c : UInt8) : be (l ++ [c]) = be l * 256 + c.toNat := by unfold be; rw [List.foldl_append]; rfl
theorem be_cut : ∀ (m l : List UInt8), be l <= be (l ++ m)
 | [], l => by simp
 | c :: m, l => by
  have h := be_cut m (l ++ [c])
  rw [be_snoc, List.append_assoc] at h
  simp at h
  omega
theorem be_pre (l : List UInt8) (k : Nat) : be (l.take k) <= be l := by
 have := be_cut (l.drop k) (l.take k)
 rwa [List.take_append_drop] at this
set_option maxHeartbeats 1000000 in
theorem bt_readInteger (s : ByteArray) (w : World) (hs : s.size <= 1000000) :
  Calls Tryz.prog 130 #[.string s] w fun e w' => e = .returned (.int .i64 (valR (be s.data.toList))) /\ w = w' := by
 have hsl : s.data.toList.length = s.size := by rw [Array.length_toList]; rfl
 go_enter Tryz.func130, Tryz.ntmps130
 go_wp2
 go_loop [3, 4, 7] (fun n _ i => ∃ (k m : Nat), k <= s.size /\ i = .int .i64 k /\ n = .int .i64 m /\ m <= 1099511627776 /\ Hid (be (s.data.toList.take k) = m)) (fun _ _ i => s.size - (intOf i).toNat)
 case atStart => exact ⟨0, 0, by omega, rfl, rfl, by omega, zhI rfl⟩
 case round =>
  obtain ⟨k, m, hk, rfl, rfl, hm2, hv⟩ := hrel
  by_cases hlt : k < s.size
  .
   obtain ⟨q, hq⟩ : ∃ q : Nat, m * 256 + s[k].toNat = q := ⟨_, rfl⟩
   have he := or8s m s[k] (by omega)
   rw [hq] at he
   have hn : be (s.data.toList.take (k + 1)) = q := by
    rw [List.take_succ_eq_append_getElem (by omega), be_snoc, hv.out, <- hq]; rfl
   have hle := be_pre s.data.toList (k + 1)
   rw [hn] at hle
   have Hn := zhI hn
   have Hle := zhI hle
   clear hn hle hq hv hsl
   by_cases hb : 1099511627776 < q
   .
    have hb' : (1099511627776 : Int) < (q : Int) := by omega
    go_wp2
    go_ret
    refine ⟨?_, rfl⟩
    have := Hle.out
    unfold valR
    rw [if_pos (by omega)]; rfl
   .
    have hb' : ¬ (1099511627776 : Int) < (q : Int) := by omega
    go_wp2
    go_roundw
    case rel => exact ⟨k + 1, q, by omega, by go_num, rfl, by omega, Hn⟩
    case measure => simp [intOf]; omega
  .
   obtain rfl : k = s.size := by omega
   go_wp2
   go_ret
   refine ⟨?_, rfl⟩
   have h := hv.out
   rw [List.take_of_length_le (by omega)] at h
   unfold valR
   rw [h, if_neg (by omega)]; rfl
set_option maxHeartbeats 1000000 in
theorem bt_header (v r : Nat) (w : World) :
  Calls Tryz.prog 47 #[.int .i64 v, .int .i64 r] w fun e w' => e = .returned (.string (bs (hdrL 512 v r))) /\ Below w.heap.size w w' := by
 have hzs : (zerosB 488).size = 488 := by simp [zerosB, ByteArray.size]
 have h8v : (num8 v).length = 8 := rfl
 have h8r : (num8 r).length = 8 := rfl
 go_enter Tryz.func47, Tryz.ntmps47
 go_wp2_with fail
 refine (bt_integer v _).mono ?_
 rintro e w1 ⟨rfl, hb1⟩
 go_wp2_with fail
 refine (bt_integer r _).mono ?_
 rintro e w2 ⟨rfl, hb2⟩
 go_wp2_with fail
 refine (repeat_zero 488 (by omega) _).mono ?_
 rintro e w3 ⟨rfl, hb3⟩
 go_wp2
 go_ret
 refine ⟨?_, btr (btr hb1 hb2) hb3⟩
 show Ending.returned (.string (bs (num8 v) ++ bs (num8 r) ++ bs (List.replicate 488 0) ++ bs (num8 v))) = _
 rw [bs_app, bs_app, bs_app]; rfl
set_option maxHeartbeats 1000000 in
theorem bt_padded {S : Nat -> Prop} (l : List UInt8) (ad : Addr) (c : Nat) (w : World) (hl : l.length <= 512) (hr : RowAt S w (some ad) (bytesV l)) :
  Calls Tryz.prog 46 #[.slice (some ad) l.length c] w fun e w' => e = .returned (.string (bs (padZ l))) /\ Below w.heap.size w w' := by
 obtain ⟨n, hn⟩ : ∃ n, l.length = n := ⟨_, rfl⟩
 rw [hn]
 have e512 : (512 : Int) - (n : Int) = ((512 - n : Nat) : Int) := by omega
 have hle : 512 - n <= 1000000 := by omega
 have hzs : (zerosB (512 - n)).size = 512 - n := by simp [zerosB, ByteArray.size]
 have hbl : (bs l).size = n := by rw [bs_size, hn]
 have hsum : ¬ (9223372036854775807 : Int) < ((bs l).size + (zerosB (512 - n)).size : Nat) := by rw [hbl, hzs]; omega
 have Hn := zhI hn
 clear hn
 go_enter Tryz.func46, Tryz.ntmps46
 go_wp2_with fail
 refine wp_region_lz 8 0 #[true, true, true, true, true, true, true, true] (fun i => if i = 1 then some (annK (.string (bs l))) else if i = 5 then some (annK (.string (zerosB (512 - n)))) else none) (by kernel_rfl) (by rfl) (by rfl) (by kernel_rfl) ?_
 simp only [List.take_succ_cons, List.take_zero]
 refine LW.block 1 1 (by rfl) (by kernel_rfl) (by kernel_rfl) ?_
 simp only [ztP]
 repeat (first | go_big_quiet_skip | (go_big_quiet_want; go_big_quiet_op; go_big_quiet_on))
 refine wpQuiet_nil ?_
 refine LW.lzy _ (by rfl) (by rfl) ?_ ?_
 .
  intro yL _
  exact lz_strK (.tmp 3) 139 9 5 rfl Tryz.underlying139 Tryz.underlying5 Tryz.underlying9 _ n _ l rfl Hn.out (S := S) (hr.below yL.h)
 intro r1
 simp only [Act.put, zsP]
 (try simp only [annK])
 refine LW.block 3 5 (by rfl) (by kernel_rfl) (by kernel_rfl) ?_
 simp only [ztP]
 repeat (first | go_big_quiet_skip | (go_big_quiet_want; go_big_quiet_op; go_big_quiet_on))
 refine wpQuiet_nil ?_
 refine LW.lzy _ (by rfl) (by rfl) ?_ ?_
 .
  intro yL _
  unfold lzAt
  go_simp
  exact lz_constB (repeat_zero (512 - n) hle _)
 intro _
 simp only [Act.put, zsP]
 (try simp only [annK])
 refine LW.block 2 8 (by rfl) (by kernel_rfl) (by kernel_rfl) ?_
 simp only [ztP]
 repeat (first | go_big_quiet_skip | (go_big_quiet_want; go_big_quiet_op; go_big_quiet_on))
 refine wpQuiet_nil ?_
 refine LW.done ?_
 intro w' hG
 refine wpAny_done (by kernel_rfl) ?_ _
 go_wp2
 go_ret
 refine ⟨?_, hG.below⟩
 show Ending.returned (.string (bs l ++ bs (List.replicate (512 - n) 0))) = _
 rw [bs_app, <- Hn.out]; rfl
section
variable {P : Program} {o : Oper} {a : Act} {w : World}
theorem lz_strNil (x : Operand) (src dst e : TypeId) (hop : o.op = .convert src dst x) (hs : P.underlying src = some (.slice e)) (he : P.underlying e = some (.int .u8)) (hd : P.underlying dst = some .string)
  (n c : Nat) (hx : a.eval x = .slice none n c) : lzAt P o a w (lzPost (annK (.string (bs []))) w) := by
 unfold lzAt
 simp [execOp, hop, hx, run_convert_bytes_nil w src e hs he _ _ dst hd, Result.andThen]
 exact ⟨Below.refl _ _, fun _ => undef, rfl, fun _ _ => trivial⟩
end
set_option maxHeartbeats 1000000 in
theorem bt_padded_nil (w : World) :
  Calls Tryz.prog 46 #[.slice none 0 0] w fun e w' => e = .returned (.string (bs (padZ []))) /\ Below w.heap.size w w' := by
 have hzs : (zerosB 512).size = 512 := by simp [zerosB, ByteArray.size]
 go_enter Tryz.func46, Tryz.ntmps46
 go_wp2_with fail
 refine wp_region_lz 8 0 #[true, true, true, true, true, true, true, true] (fun i => if i = 1 then some (annK (.string (bs []))) else if i = 5 then some (annK (.string (zerosB 512))) else none) (by kernel_rfl) (by rfl) (by rfl) (by kernel_rfl) ?_
 simp only [List.take_succ_cons, List.take_zero]
 refine LW.block 1 1 (by rfl) (by kernel_rfl) (by kernel_rfl) ?_
 simp only [ztP]
 repeat (first | go_big_quiet_skip | (go_big_quiet_want; go_big_quiet_op; go_big_quiet_on))
 refine wpQuiet_nil ?_
 refine LW.lzy _ (by rfl) (by rfl) ?_ ?_
 .
  intro yL _
  exact lz_strNil (.tmp 3) 139 9 5 rfl Tryz.underlying139 Tryz.underlying5 Tryz.underlying9 0 0 rfl
 intro r1
 simp only [Act.put, zsP]
 (try simp only [annK])
 refine LW.block 3 5 (by rfl) (by kernel_rfl) (by kernel_rfl) ?_
 simp only [ztP]
 repeat (first | go_big_quiet_skip | (go_big_quiet_want; go_big_quiet_op; go_big_quiet_on))
 refine wpQuiet_nil ?_
 refine LW.lzy _ (by rfl) (by rfl) ?_ ?_
 .
  intro yL _
  unfold lzAt
  go_simp
  exact lz_constB (repeat_zero 512 (by omega) _)
 intro _
 simp only [Act.put, zsP]
 (try simp only [annK])
 refine LW.block 2 8 (by rfl) (by kernel_rfl) (by kernel_rfl) ?_
 simp only [ztP]
 repeat (first | go_big_quiet_skip | (go_big_quiet_want; go_big_quiet_op; go_big_quiet_on))
 refine wpQuiet_nil ?_
 refine LW.done ?_
 intro w' hG
 refine wpAny_done (by kernel_rfl) ?_ _
 go_wp2
 go_ret
 refine ⟨?_, hG.below⟩
 show Ending.returned (.string (bs [] ++ bs (List.replicate 512 0))) = _
 rw [bs_app]; rfl
def DskV (w : World) (v : Value) (d : Dsk) : Prop := DskR (· < w.heap.size) w v d
theorem DskV.of {S : Nat -> Prop} {w : World} {v : Value} {d : Dsk} (h : DskR S w v d) (hS : InS S w) : DskV w v d := h.mono hS
theorem DskV.below {w w' : World} {v : Value} {d : Dsk} (h : DskV w v d) (hb : Below w.heap.size w w') : DskV w' v d :=
 DskR.mono (DskR.below h hb) fun _ hs => znL hs hb.size
theorem inS_all (w : World) : InS (· < w.heap.size) w := fun _ h => h
theorem gr_all {w w' : World} (hb : Below w.heap.size w w') : InS (Gr (· < w.heap.size) w w') w' := (inS_all w).gr hb
theorem DskV.agg {w : World} {v : Value} {d : Dsk} (h : DskV w v d) : ∃ po pc co cc, v = .agg #[.int .i64 d.size, .slice po d.pages.length pc, .slice co d.cache.length cc, .int .i64 d.left] := by
 obtain ⟨po, pc, co, cc, e, _⟩ := h
 exact ⟨po, pc, co, cc, e⟩
def dcells (d : Dsk) (po co : Option Addr) (pc cc : Nat) : Array Value := #[.int .i64 d.size, .slice po d.pages.length pc, .slice co d.cache.length cc, .int .i64 d.left]
theorem v_write (d : Dsk) (v : Value) (i : Int) (data : ByteArray) (w : World) (hD : DskV w v d) (hd : data.size <= 140737488351232) (hn : d.cache.length <= 1000000) {A : Dsk} {er : Int} (he : writeD d i data = (A, er)) :
  Calls Tryz.prog 83 #[v, .int .i64 i, .string data] w fun e w' => ∃ v', e = .returned (.tuple #[v', .int .i64 er]) /\ DskV w' v' A /\ Below w.heap.size w w' := by
 refine (disk_write d v i data w (inS_all w) hD hd hn).mono ?_
 rintro e w' ⟨v', rfl, h, hb⟩
 rw [he] at h |-
 exact ⟨v', rfl, .of h (gr_all hb), hb⟩
theorem v_flush (d : Dsk) (v : Value) (w : World) (hD : DskV w v d) {A : Dsk} {er : Int} (he : flushD d = (A, er)) :
  Calls Tryz.prog 84 #[v] w fun e w' => ∃ v', e = .returned (.tuple #[v', .int .i64 er]) /\ DskV w' v' A /\ Below w.heap.size w w' := by
 refine (disk_flush d v w (inS_all w) hD).mono ?_
 rintro e w' ⟨v', rfl, h, hb⟩
 rw [he] at h |-
 exact ⟨v', rfl, .of h (gr_all hb), hb⟩
theorem v_crash (d : Dsk) (v : Value) (picks : List Int) (qo : Option Addr) (qc : Nat) (w : World) {T : Nat -> Prop} (hD : DskV w v d) (hq : IntsAt T w qo picks) (hql : picks.length <= 1000000) (hn : d.cache.length <= 1000000) {A : Dsk} (he : crashD d picks = A) :
  Calls Tryz.prog 33 #[v, .slice qo picks.length qc] w fun e w' => ∃ v', e = .returned v' /\ DskV w' v' A /\ Below w.heap.size w w' := by
 refine (disk_crash d v picks qo qc w (inS_all w) hD hq hql hn).mono ?_
 rintro e w' ⟨v', rfl, h, hb⟩
 rw [he] at h
 exact ⟨v', rfl, .of h (gr_all hb), hb⟩
theorem v_read (d : Dsk) (v : Value) (i : Int) (w : World) (hD : DskV w v d) {s : ByteArray} {er : Int} (he : readD d i = (s, er)) :
  Calls Tryz.prog 41 #[v, .int .i64 i] w fun e w' => e = .returned (.tuple #[.string s, .int .i64 er]) /\ Below w.heap.size w w' := by
 refine (disk_read d v i w (inS_all w) hD).mono ?_
 rintro e w' ⟨rfl, hb⟩
 rw [he]
 exact ⟨rfl, hb⟩
theorem v_check (d : Dsk) (v : Value) (w : World) (hD : DskV w v d) {er : Int} (he : chk d = er) :
  Calls Tryz.prog 43 #[v] w fun e w' => e = .returned (.int .i64 er) /\ Below w.heap.size w w' := he ▸ disk_check d v w hD
theorem v_same (d : Dsk) (va vb : Value) (w : World) (hD : DskV w va d) (hE : DskV w vb d) :
  Calls Tryz.prog 18 #[va, vb] w fun e w' => e = .returned (.bool true) /\ Below w.heap.size w w' := same_refl d va vb w hD hE
theorem hdrP_some {s : List UInt8} {k : Nat} {area : Int} {v n : Nat} (h : hdrP s k area = some (v, n)) :
  be (s.take 8) = v /\ be ((s.drop 8).take 8) = n /\ 1 <= v /\ v <= 1099511627776 /\ v % 2 = k /\ (n : Int) <= area /\ n <= 1099511627776 /\ s = hdrL s.length v n := by
 unfold hdrP at h
 split at h
 .
  rename_i hc
  obtain ⟨h1, h2, h3, h4, h5, h6⟩ := hc
  simp only [Option.some.injEq, Prod.mk.injEq] at h
  obtain ⟨rfl, rfl⟩ := h
  exact ⟨rfl, rfl, h1, h2, h3, h4, h5, h6⟩
 .
  cases h
theorem len_size (s : ByteArray) : s.data.toList.length = s.size := by rw [Array.length_toList]; rfl
theorem lastW_size' {d : Dsk} (h : chk d = 0) {k : Nat} (hk : k < d.pages.length) : ((contentD d k hk).size : Int) = d.size := by
 obtain ⟨_, h2, h3, _⟩ := chk_zero h
 exact lastW_size (fun x hx => (h3 x hx).2.2) _ (h2 _ (List.getElem_mem _))
theorem pageL_len {d : Dsk} (h : chk d = 0) {i : Int} (h0 : 0 <= i) (h1 : i < d.pages.length) : (pageL d i).length = d.size.toNat := by
 have hk : i.toNat < d.pages.length := by omega
 have e : (i.toNat : Int) = i := by omega
 unfold pageL
 rw [<- e, readD_ok h hk]
 have := lastW_size' h hk
 rw [Array.length_toList]
 show (contentD d i.toNat hk).size = _
 omega
theorem valR_le {n : Nat} (h : n <= 1099511627776) : valR n = n := by unfold valR; rw [if_neg (by omega)]
theorem cut_list (s : ByteArray) (a b : Nat) : (s.extract a b).data.toList = (s.data.toList.drop a).take (b - a) := by
 conv => lhs; rw [<- bs_of s, bs_cut, bs_list]
theorem fits5_true {d : Dsk} {frm til : Int} (h : fits5 d frm til = true) : d.size = 512 /\ 0 <= frm /\ til <= (d.pages.length : Int) /\ 3 <= til /\ frm <= til - 3 := by
 unfold fits5 at h; simp at h; omega
theorem fits5_false {d : Dsk} {frm til : Int} (h : ¬ (d.size = 512 /\ 0 <= frm /\ til <= (d.pages.length : Int) /\ 3 <= til /\ frm <= til - 3)) : fits5 d frm til = false := by
 cases g : fits5 d frm til
 .
  rfl
 .
  exact absurd (fits5_true g) h
theorem fits5_mk {d : Dsk} {frm til : Int} (h1 : d.size = 512) (h2 : 0 <= frm) (h3 : til <= (d.pages.length : Int)) (h4 : 3 <= til) (h5 : frm <= til - 3) : fits5 d frm til = true := by
 unfold fits5; simp; omega
theorem bt_fits (d : Dsk) (v : Value) (frm til : Int) (w : World) (hc : chk d = 0) {b : Bool} (hb : fits5 d frm til = b) (hD : DskV w v d) :
  Calls Tryz.prog 44 #[v, .int .i64 frm, .int .i64 til] w fun e w' => e = .returned (.bool b) /\ Below w.heap.size w w' := by
 subst hb
 obtain ⟨po, pc, co, cc, rfl⟩ := hD.agg
 have hr := rangedB_true (chk_zero hc).1
 have x1 := Bx.new w #[.int .i64 d.size, .slice po d.pages.length pc, .slice co d.cache.length cc, .int .i64 d.left] 25
 have cX := x1.cell
 have lX := x1.lt
 clear hD hc
 cases g1 : (d.size == 512)
 .
  have g1' : d.size ≠ 512 := by simpa using g1
  go_enter Tryz.func44, Tryz.ntmps44
  go_wp2
  go_ret
  refine ⟨?_, Below.one _ _⟩
  rw [fits5_false (by omega)]; rfl
 have g1' : d.size = 512 := by simpa using g1
 have G1 := zhI g1'
 clear g1'
 cases g2 : decide (0 <= frm)
 .
  have g2' := of_decide_eq_false g2
  go_enter Tryz.func44, Tryz.ntmps44
  go_wp2
  go_ret
  refine ⟨?_, Below.one _ _⟩
  rw [fits5_false (by omega)]; rfl
 have g2' := of_decide_eq_true g2
 cases g3 : decide (til <= (d.pages.length : Int))
 .
  have g3' := of_decide_eq_false g3
  go_enter Tryz.func44, Tryz.ntmps44
  go_wp2
  go_ret
  refine ⟨?_, Below.one _ _⟩
  rw [fits5_false (by omega)]; rfl
 have g3' := of_decide_eq_true g3
 cases g4 : decide (3 <= til)
 .
  have g4' := of_decide_eq_false g4
  go_enter Tryz.func44, Tryz.ntmps44
  go_wp2
  go_ret
  refine ⟨?_, Below.one _ _⟩
  rw [fits5_false (by omega)]; rfl
 have g4' := of_decide_eq_true g4
 cases g5 : decide (frm <= til - 3)
 .
  have g5' := of_decide_eq_false g5
  go_enter Tryz.func44, Tryz.ntmps44
  go_wp2
  go_ret
  refine ⟨?_, Below.one _ _⟩
  rw [fits5_false (by omega)]; rfl
 have g5' := of_decide_eq_true g5
 go_enter Tryz.func44, Tryz.ntmps44
 go_wp2
 go_ret
 refine ⟨?_, Below.one _ _⟩
 rw [fits5_mk G1.out g2' g3' g4' g5']; rfl
theorem read_pg (d : Dsk) (i : Int) : readD d i = (bs (pageL d i), (readD d i).2) := by
 unfold pageL; rw [bs_of]
theorem read_pg0 {d : Dsk} (h : chk d = 0) {i : Int} (h0 : 0 <= i) (h1 : i < d.pages.length) : readD d i = (bs (pageL d i), 0) := by
 rw [read_pg]
 congr 1
 have hk : i.toNat < d.pages.length := by omega
 have e : (i.toNat : Int) = i := by omega
 rw [<- e, readD_ok h hk]
theorem page512 {d : Dsk} (h : chk d = 0) (hz : d.size = 512) {i : Int} (h0 : 0 <= i) (h1 : i < d.pages.length) : (pageL d i).length = 512 := by
 rw [pageL_len h h0 h1, hz]; rfl
theorem hdrX_some {s : List UInt8} {frm til : Int} {k v n : Nat} (h : hdrX s frm til k = some (v, n)) :
  be (s.take 8) = v /\ be ((s.drop 8).take 8) = n /\ 1 <= v /\ v <= 1099511627776 /\ n <= 1099511627776 /\ (n = 0 \/ (frm + 2 <= (n : Int) /\ (n : Int) < til)) /\ v % 2 = k /\ s = hdrL 512 v n := by
 unfold hdrX at h
 split at h
 .
  rename_i hc
  obtain ⟨h1, h2, h3, h4, h5, h6⟩ := hc
  simp only [Option.some.injEq, Prod.mk.injEq] at h
  obtain ⟨rfl, rfl⟩ := h
  exact ⟨rfl, rfl, h1, h2, h3, h4, h5, h6⟩
 .
  cases h
theorem valR_bd {n : Nat} {x : Int} (h : valR n = x) : -1 <= x /\ x <= 1099511627776 := by unfold valR at h; split at h <;> omega
theorem valR_nat {n m : Nat} (h : valR n = (m : Int)) : n = m /\ n <= 1099511627776 := by unfold valR at h; split at h <;> omega
theorem ints_page {L : List UInt8} {s : ByteArray} (hs : bs L = s) (_hl : L.length = 512) {x y : Int} (hx : valR (be (L.take 8)) = x) (hy : valR (be ((L.drop 8).take 8)) = y) :
  (∀ W, Calls Tryz.prog 130 #[.string (s.extract 0 8)] W fun e w' => e = .returned (.int .i64 x) /\ w' = W) /\
  (∀ W, Calls Tryz.prog 130 #[.string (s.extract 8 16)] W fun e w' => e = .returned (.int .i64 y) /\ w' = W) := by
 subst hs
 constructor
 .
  intro W
  have := (bt_readInteger ((bs L).extract 0 8) W (by simp; omega)).mono fun _ _ h => (zaI h.1 h.2.symm)
  rw [cut_list, bs_list] at this
  simp only [List.drop_zero, Nat.sub_zero] at this
  rwa [hx] at this
 .
  intro W
  have := (bt_readInteger ((bs L).extract 8 16) W (by simp; omega)).mono fun _ _ h => (zaI h.1 h.2.symm)
  rw [cut_list, bs_list] at this
  rwa [hy] at this
set_option maxHeartbeats 4000000 in
theorem bt_readHeader_some (d : Dsk) (v : Value) (frm til : Int) (k : Nat) (V n : Nat) (w : World) (hc : chk d = 0) (hf : fits5 d frm til = true) (hk : k <= 1) (hh : hdrX (pageL d (frm + k)) frm til k = some (V, n)) (hD : DskV w v d) :
  Calls Tryz.prog 90 #[v, .int .i64 frm, .int .i64 til, .int .i64 (frm + k)] w fun e w' => e = .returned (.tuple #[.int .i64 V, .int .i64 n, .bool true]) /\ Below w.heap.size w w' := by
 obtain ⟨f1, f2, f3, f4, f5⟩ := fits5_true hf
 have hr := rangedB_true (chk_zero hc).1
 have hl := page512 hc f1 (i := frm + k) (by omega) (by omega)
 have hrd := read_pg0 hc (i := frm + k) (by omega) (by omega)
 obtain ⟨q1, q2, q3, q4, q5, q6, q7, q8⟩ := hdrX_some hh
 obtain ⟨s, hs⟩ : ∃ s, bs (pageL d (frm + k)) = s := ⟨_, rfl⟩
 have hz : s.size = 512 := by rw [<- hs, bs_size, hl]
 obtain ⟨v1, v2⟩ := ints_page hs hl (x := V) (y := n) (by rw [q1]; exact valR_le q4) (by rw [q2]; exact valR_le q5)
 have hhd : ∀ W, Calls Tryz.prog 47 #[.int .i64 V, .int .i64 n] W fun e w' => e = .returned (.string s) /\ Below W.heap.size W w' := fun W => by
  have := bt_header V n W
  rwa [<- q8, hs] at this
 rw [hs] at hrd
 have q7' : (V : Int) % 2 = (k : Int) := by omega
 have hre : ∀ W vv, DskV W vv d -> Calls Tryz.prog 41 #[vv, .int .i64 (frm + k)] W fun e w' => e = .returned (.tuple #[.string s, .int .i64 0]) /\ Below W.heap.size W w' := fun W vv h => v_read d vv (frm + k) W h hrd
 have Hre := zhI hre
 have hD0 := hD
 obtain ⟨po, pc, co, cc, rfl⟩ := hD.agg
 have Hq := zhI q8
 clear hD hf hh q1 q2 q8 hs hl hrd f1 hre
 rcases q6 with q6 | ⟨q6, q6'⟩
 .
  have q0 : ((n : Int) != 0) = false := by simpa using q6
  clear q6
  go_enter Tryz.func90, Tryz.ntmps90
  go_wp2_with fail
  refine (Hre.out _ _ (hD0.below (Below.one _ _))).mono ?_
  rintro e w1 ⟨rfl, hb1⟩
  have x1 := (Bx.new w _ _).belowAll hb1
  have hB1 := btr (Below.one _ _) hb1
  go_wp2_with fail
  go_quiet ((first | (go_at_call 130; with_reducible exact Calls.quiet_of_same (v1 _)) | (go_at_call 130; with_reducible exact Calls.quiet_of_same (v2 _))))
  have x2 := x1.drewN nq
  have cX := x2.cell
  have lX := x2.lt
  go_wp2_with fail
  refine (hhd _).mono ?_
  rintro e w2 ⟨rfl, hb2⟩
  go_wp2
  refine bodyPost_ret (v := .tuple #[.int .i64 V, .int .i64 n, .bool true]) (by simp [results, Tryz.results90, go_sem]) rfl ?_
  exact ⟨rfl, btr (Below.drewN hB1 nq) hb2⟩
 .
  have q0 : ((n : Int) != 0) = true := by simp; omega
  have q0' : ¬ (n : Int) < frm + 2 := by omega
  go_enter Tryz.func90, Tryz.ntmps90
  go_wp2_with fail
  refine (Hre.out _ _ (hD0.below (Below.one _ _))).mono ?_
  rintro e w1 ⟨rfl, hb1⟩
  have x1 := (Bx.new w _ _).belowAll hb1
  have hB1 := btr (Below.one _ _) hb1
  go_wp2_with fail
  go_quiet ((first | (go_at_call 130; with_reducible exact Calls.quiet_of_same (v1 _)) | (go_at_call 130; with_reducible exact Calls.quiet_of_same (v2 _))))
  have x2 := x1.drewN nq
  have cX := x2.cell
  have lX := x2.lt
  go_wp2_with fail
  refine (hhd _).mono ?_
  rintro e w2 ⟨rfl, hb2⟩
  go_wp2
  refine bodyPost_ret (v := .tuple #[.int .i64 V, .int .i64 n, .bool true]) (by simp [results, Tryz.results90, go_sem]) rfl ?_
  exact ⟨rfl, btr (Below.drewN hB1 nq) hb2⟩
set_option maxHeartbeats 4000000 in
theorem bt_readHeader_none (d : Dsk) (v : Value) (frm til : Int) (k : Nat) (w : World) (hc : chk d = 0) (hf : fits5 d frm til = true) (hk : k <= 1) (hh : hdrX (pageL d (frm + k)) frm til k = none) (hD : DskV w v d) :
  Calls Tryz.prog 90 #[v, .int .i64 frm, .int .i64 til, .int .i64 (frm + k)] w fun e w' => (∃ x y, e = .returned (.tuple #[.int .i64 x, .int .i64 y, .bool false])) /\ Below w.heap.size w w' := by
 obtain ⟨f1, f2, f3, f4, f5⟩ := fits5_true hf
 have hr := rangedB_true (chk_zero hc).1
 have hl := page512 hc f1 (i := frm + k) (by omega) (by omega)
 have hrd := read_pg0 hc (i := frm + k) (by omega) (by omega)
 obtain ⟨s, hs⟩ : ∃ s, bs (pageL d (frm + k)) = s := ⟨_, rfl⟩
 have hsl : s.data.toList = pageL d (frm + k) := by rw [<- hs, bs_list]
 have hz : s.size = 512 := by rw [<- hs, bs_size, hl]
 obtain ⟨x, hx⟩ : ∃ x, valR (be ((pageL d (frm + k)).take 8)) = x := ⟨_, rfl⟩
 obtain ⟨y, hy⟩ : ∃ y, valR (be (((pageL d (frm + k)).drop 8).take 8)) = y := ⟨_, rfl⟩
 obtain ⟨v1, v2⟩ := ints_page hs hl hx hy
 have bx := valR_bd hx
 have by_ := valR_bd hy
 rw [hs] at hrd
 have hre : ∀ W vv, DskV W vv d -> Calls Tryz.prog 41 #[vv, .int .i64 (frm + k)] W fun e w' => e = .returned (.tuple #[.string s, .int .i64 0]) /\ Below W.heap.size W w' := fun W vv h => v_read d vv (frm + k) W h hrd
 have Hre := zhI hre
 have hD0 := hD
 obtain ⟨po, pc, co, cc, rfl⟩ := hD.agg
 have Hx := zhI hx
 have Hy := zhI hy
 have Hh := zhI hh
 have Hs := zhI hsl
 clear hD hf hh hs hl hrd f1 hre hx hy hsl
 cases g1 : decide (x < 1)
 rotate_left
 .
  have g1' := of_decide_eq_true g1
  go_enter Tryz.func90, Tryz.ntmps90
  go_wp2_with fail
  refine (Hre.out _ _ (hD0.below (Below.one _ _))).mono ?_
  rintro e w1 ⟨rfl, hb1⟩
  have x1 := (Bx.new w _ _).belowAll hb1
  have hB1 := btr (Below.one _ _) hb1
  go_wp2_with fail
  go_quiet ((first | (go_at_call 130; with_reducible exact Calls.quiet_of_same (v1 _)) | (go_at_call 130; with_reducible exact Calls.quiet_of_same (v2 _))))
  have x2 := x1.drewN nq
  have cX := x2.cell
  have lX := x2.lt
  go_wp2
  refine bodyPost_ret (v := .tuple #[.int .i64 0, .int .i64 0, .bool false]) (by simp [results, Tryz.results90, go_sem]) rfl ?_
  exact ⟨⟨_, _, rfl⟩, Below.drewN hB1 nq⟩
 have g1' := of_decide_eq_false g1
 obtain ⟨V, rfl⟩ : ∃ V : Nat, x = V := ⟨x.toNat, by omega⟩
 obtain ⟨ok, hok⟩ : ∃ ok, (decide (y = 0) || (decide (frm + 2 <= y) && decide (y < til))) = ok := ⟨_, rfl⟩
 cases ok with
 | false =>
  simp only [Bool.or_eq_false_iff, decide_eq_false_iff_not, Bool.and_eq_false_iff] at hok
  obtain ⟨o1, o2⟩ := hok
  have q0 : (y != 0) = true := by simpa using o1
  clear o1
  cases g2 : decide (y < frm + 2)
  rotate_left
  .
   have g2' := of_decide_eq_true g2
   clear o2
   go_enter Tryz.func90, Tryz.ntmps90
   go_wp2_with fail
   refine (Hre.out _ _ (hD0.below (Below.one _ _))).mono ?_
   rintro e w1 ⟨rfl, hb1⟩
   have x1 := (Bx.new w _ _).belowAll hb1
   have hB1 := btr (Below.one _ _) hb1
   go_wp2_with fail
   go_quiet ((first | (go_at_call 130; with_reducible exact Calls.quiet_of_same (v1 _)) | (go_at_call 130; with_reducible exact Calls.quiet_of_same (v2 _))))
   have x2 := x1.drewN nq
   have cX := x2.cell
   have lX := x2.lt
   go_wp2
   refine bodyPost_ret (v := .tuple #[.int .i64 0, .int .i64 0, .bool false]) (by simp [results, Tryz.results90, go_sem]) rfl ?_
   exact ⟨⟨_, _, rfl⟩, Below.drewN hB1 nq⟩
  have g2' := of_decide_eq_false g2
  have g3' : til <= y := by omega
  clear o2
  go_enter Tryz.func90, Tryz.ntmps90
  go_wp2_with fail
  refine (Hre.out _ _ (hD0.below (Below.one _ _))).mono ?_
  rintro e w1 ⟨rfl, hb1⟩
  have x1 := (Bx.new w _ _).belowAll hb1
  have hB1 := btr (Below.one _ _) hb1
  go_wp2_with fail
  go_quiet ((first | (go_at_call 130; with_reducible exact Calls.quiet_of_same (v1 _)) | (go_at_call 130; with_reducible exact Calls.quiet_of_same (v2 _))))
  have x2 := x1.drewN nq
  have cX := x2.cell
  have lX := x2.lt
  go_wp2
  refine bodyPost_ret (v := .tuple #[.int .i64 0, .int .i64 0, .bool false]) (by simp [results, Tryz.results90, go_sem]) rfl ?_
  exact ⟨⟨_, _, rfl⟩, Below.drewN hB1 nq⟩
 | true =>
  obtain ⟨n, rfl⟩ : ∃ n : Nat, y = n := ⟨y.toNat, by simp at hok; omega⟩
  have Hok := zhI hok
  have hq : ((n : Int) != 0) = false \/ (((n : Int) != 0) = true /\ ¬ (n : Int) < frm + 2 /\ (n : Int) < til) := by
   simp at hok
   rcases hok with h | h
   .
    exact .inl (by simpa using h)
   .
    exact .inr ⟨by simp; omega, by omega, h.2⟩
  clear hok
  cases g4 : decide ((V : Int) % 2 = (k : Int))
  .
   have g4' : ¬ (frm + (k : Int) = frm + (V : Int) % 2) := by have := of_decide_eq_false g4; omega
   rcases hq with q0 | ⟨q0, q1, q2⟩
   all_goals
    go_enter Tryz.func90, Tryz.ntmps90
    go_wp2_with fail
    refine (Hre.out _ _ (hD0.below (Below.one _ _))).mono ?_
    rintro e w1 ⟨rfl, hb1⟩
    have x1 := (Bx.new w _ _).belowAll hb1
    have hB1 := btr (Below.one _ _) hb1
    go_wp2_with fail
    go_quiet ((first | (go_at_call 130; with_reducible exact Calls.quiet_of_same (v1 _)) | (go_at_call 130; with_reducible exact Calls.quiet_of_same (v2 _))))
    have x2 := x1.drewN nq
    have cX := x2.cell
    have lX := x2.lt
    go_wp2
    refine bodyPost_ret (v := .tuple #[.int .i64 V, .int .i64 n, .bool false]) (by simp [results, Tryz.results90, go_sem]) rfl ?_
    exact ⟨⟨_, _, rfl⟩, Below.drewN hB1 nq⟩
  have g4' := of_decide_eq_true g4
  have hne2 : ¬ hdrL 512 V n = s.toList := by
   intro e
   rw [ByteArray.toList_eq, Hs.out] at e
   obtain ⟨b1, b1'⟩ := valR_nat Hx.out
   obtain ⟨b2, b2'⟩ := valR_nat Hy.out
   have := Hh.out
   unfold hdrX at this
   have hk2 := Hok.out
   simp at hk2
   rw [if_pos ⟨by omega, by omega, by omega, by omega, by omega, by rw [b1, b2]; exact e.symm⟩] at this
   cases this
  have Hne := zhI hne2
  clear Hok hne2
  rcases hq with q0 | ⟨q0, q1, q2⟩
  all_goals
   go_enter Tryz.func90, Tryz.ntmps90
   go_wp2_with fail
   refine (Hre.out _ _ (hD0.below (Below.one _ _))).mono ?_
   rintro e w1 ⟨rfl, hb1⟩
   have x1 := (Bx.new w _ _).belowAll hb1
   have hB1 := btr (Below.one _ _) hb1
   go_wp2_with fail
   go_quiet ((first | (go_at_call 130; with_reducible exact Calls.quiet_of_same (v1 _)) | (go_at_call 130; with_reducible exact Calls.quiet_of_same (v2 _))))
   have x2 := x1.drewN nq
   have cX := x2.cell
   have lX := x2.lt
   go_wp2_with fail
   refine (bt_header _ _ _).mono ?_
   rintro e w2 ⟨rfl, hb2⟩
   go_wp2
   refine bodyPost_ret (v := .tuple #[.int .i64 V, .int .i64 n, .bool false]) (by simp [results, Tryz.results90, go_sem, Hne.out]) rfl ?_
   exact ⟨⟨_, _, rfl⟩, btr (Below.drewN hB1 nq) hb2⟩
section
variable {P : Program} {ops : Array Oper} {rest : List Oper} {o : Oper} {a : Act} {Q : Exit -> Act -> World -> Prop} {w : World}
end
end Go.Proofs.YtlefmmhlpgmbjaaGreat
namespace Go.Proofs.YtlefmmhlpgmbjaaGreat
open Go.RowKit Go.Shelf
attribute [local go_sem] Oper.semAt_some
theorem info_parts {P : Program} {t : TypeId} {z : Value} {n b : Nat} (h : (P.info? t).map (fun i => (i.zero, i.size, i.bytes)) = some (some z, n, b)) : ∃ i, P.info? t = some i /\ i.zero = some z /\ i.size = n /\ i.bytes = b := by
 cases hi : P.info? t with
 | none => simp [hi] at h
 | some i => simp [hi] at h; exact ⟨i, rfl, h.1, h.2.1, h.2.2⟩
end Go.Proofs.YtlefmmhlpgmbjaaGreat
namespace Go.Proofs.YtlefmmhlpgmbjaaGreat
open Go.RowKit Go.Shelf
section
attribute [local go_sem] Oper.semAt_some
end
end Go.Proofs.YtlefmmhlpgmbjaaGreat
namespace Go.Proofs.YtlefmmhlpgmbjaaGreat
set_option maxRecDepth 100000
open Go.RowKit
theorem flat_len {α : Type} {m : Nat} : ∀ {L : List (List α)}, (∀ x ∈ L, x.length = m) -> L.flatten.length = L.length * m
 | [], _ => by simp
 | x :: L, h => by
  rw [List.flatten_cons, zlA, h x (by simp), flat_len (L := L) (fun y hy => h y (by simp [hy])), zlC, Nat.add_mul]; omega
theorem flat_get {α : Type} {m : Nat} : ∀ {L : List (List α)}, (∀ x ∈ L, x.length = m) -> ∀ (i r : Nat), r < m -> L.flatten[i * m + r]? = L[i]?.bind (·[r]?)
 | [], _, i, r, _ => by simp
 | x :: L, h, 0, r, hr => by
  rw [List.flatten_cons, Nat.zero_mul, Nat.zero_add, List.getElem?_append_left (by rw [h x (by simp)]; exact hr)]; rfl
 | x :: L, h, i + 1, r, hr => by
  rw [List.flatten_cons, List.getElem?_append_right (by rw [h x (by simp), Nat.add_mul]; omega), h x (by simp), show (i + 1) * m + r - m = i * m + r by rw [Nat.add_mul]; omega, flat_get (L := L) (fun y hy => h y (by simp [hy])) i r hr]
  rfl
def KeepX (t : TypeId) (w w' : World) : Prop := ∀ (b : Nat) (cs : Array Value) (t' : TypeId), t' ≠ t -> Bx w b cs t' -> Bx w' b cs t'
theorem KeepX.trans {t : TypeId} {a b c : World} (h : KeepX t a b) (k : KeepX t b c) : KeepX t a c := fun b cs t' hn hx => k b cs t' hn (h b cs t' hn hx)
theorem KeepX.alloc (t : TypeId) (w : World) (o : Obj) : KeepX t w (w.alloc o) := fun _ _ _ _ hx => hx.alloc o
theorem KeepX.grown {t : TypeId} {w w' : World} {base size n : Nat} {v : Value} {xs : List Value} (ho : w.ownsRow base t size v n xs) (hg : w.grownBy w' v.ownBlock) : KeepX t w w' :=
 fun _ _ _ hn hx => hx.grown hg fun e => ownsRow_ne_bx ho hx (fun h => hn h.symm) e.symm
theorem Below.grownOwn {t : TypeId} {w0 w w' : World} {base size n : Nat} {v : Value} {xs : List Value} (h : Below base w0 w) (ho : w.ownsRow base t size v n xs) (hg : w.grownBy w' v.ownBlock) (hz : base <= w.heap.size) : Below base w0 w' :=
 h.grown hg hz fun k e => (ho.lt k e).1
theorem textL_len (s : ByteArray) : (textL s).length = s.size + 1 := by unfold textL; rw [zlC, Array.length_toList]; rfl
theorem u8_of (n : Nat) : (UInt8.ofNat n).toNat = n % 256 := by simp
theorem strCells_bytes (s : ByteArray) : Lib.strCells s = bytesV s.data.toList := by simp [Lib.strCells, bytesV]
set_option maxHeartbeats 1000000 in
theorem bt_text (base : Nat) (v : Value) (l : List UInt8) (s : ByteArray) (w : World) (hown : w.ownsRow base 5 1 v l.length (bytesV l)) (hbw : base <= w.heap.size) (hs : s.size <= 1000000) (hl : l.length <= 1000000) :
  Calls Tryz.prog 160 #[v, .string s] w fun e w' => ∃ v', e = .returned v' /\ w'.ownsRow base 5 1 v' (l ++ textL s).length (bytesV (l ++ textL s)) /\ Below base w w' /\ KeepX 5 w w' := by
 obtain ⟨i0, hi, hz0, hz1, hz2⟩ := info_parts infoU8
 obtain ⟨c, hc⟩ : ∃ c : UInt8, UInt8.ofNat s.size = c := ⟨_, rfl⟩
 have hu : ((s.size : Int) % 256) = (c.toNat : Int) := by rw [<- hc, u8_of]; omega
 have Hc := zhI hc
 clear hc
 obtain ⟨n, hn⟩ : ∃ n, l.length = n := ⟨_, rfl⟩
 rw [hn] at hown hl
 have Hn := zhI hn
 clear hn
 go_enter Tryz.func160, Tryz.ntmps160
 go_wp2_with (first
  | (at_builtin; refine wpList_app rfl _ _ 139 rfl base 5 i0 _ 1 1 Tryz.underlying139 hi hz0 hz1 hz2 rfl (by decide) _ n _ rfl (hown.alloc _) _ 1 1 (bytesV [c]) rfl (by intro e; cases e) rfl (RowAt.bx (Bx.new w _ _)) (bytesV_one _) (by unfold maxLen; omega) (by omega) (by simp; omega) ?_; intro v1 w1 hown1 hg1)
  | (at_builtin; refine Lib.wpList_append_own_string _ rfl _ _ 139 9 rfl base 5 i0 Tryz.underlying139 Tryz.underlying9 hi hz0 hz1 hz2 _ (n + 1) _ rfl hown1 s rfl (by unfold maxLen; omega) (by omega) (by have := hg1.size; simp at this; omega) ?_; intro v2 w2 hown2 hg2 _))
 go_ret
 have hz1' : base <= w1.heap.size := by have := hg1.size; simp at this; omega
 refine ⟨v2, rfl, ?_, ?_, ?_⟩
 .
  rw [zlA, textL_len, Hn.out]
  have : bytesV (l ++ textL s) = bytesV l ++ bytesV [c] ++ Lib.strCells s := by rw [strCells_bytes, <- Hc.out]; simp [bytesV, textL]
  rw [this, show n + (s.size + 1) = n + 1 + s.size by omega]
  exact hown2
 .
  exact Below.grownOwn (Below.grownOwn ((Below.refl _ w).alloc hbw _) (hown.alloc _) hg1 (by simp; omega)) hown1 hg2 hz1'
 .
  exact ((KeepX.alloc _ w _).trans (KeepX.grown (hown.alloc _) hg1)).trans (KeepX.grown hown1 hg2)
def kvC (p : Kv) : List Value := [.string p.1, .string p.2]
def kvsC (l : List Kv) : List Value := (l.map kvC).flatten
theorem kvC_len (l : List Kv) : ∀ x ∈ l.map kvC, x.length = 2 := by
 intro x hx
 obtain ⟨p, _, rfl⟩ := List.mem_map.1 hx
 rfl
theorem kvsC_len (l : List Kv) : (kvsC l).length = l.length * 2 := by
 unfold kvsC
 induction l with
 | nil => rfl
 | cons p l ih => rw [List.map_cons, List.flatten_cons, zlA, ih, zlC]; simp [kvC]; omega
theorem kvsC_app (l m : List Kv) : kvsC (l ++ m) = kvsC l ++ kvsC m := by simp [kvsC]
theorem kvsC_get {l : List Kv} {i : Nat} (h : i < l.length) : (kvsC l)[i * 2]? = some (.string l[i].1) /\ (kvsC l)[i * 2 + 1]? = some (.string l[i].2) := by
 have h0 := flat_get (kvC_len l) i 0 (by omega)
 have h1 := flat_get (kvC_len l) i 1 (by omega)
 rw [List.getElem?_map, List.getElem?_eq_getElem h] at h0 h1
 exact ⟨h0, h1⟩
theorem kvsC_one (l : List Kv) : ∀ u ∈ kvsC l, u.oneCell' = true := by
 intro u hu
 obtain ⟨x, hx, hu⟩ := List.mem_flatten.1 hu
 obtain ⟨p, _, rfl⟩ := List.mem_map.1 hx
 simp [kvC] at hu
 rcases hu with rfl | rfl <;> rfl
theorem take_get {α : Type} {l m : List α} {n j : Nat} (h : l.take n = m) (hj : j < m.length) : l[j]? = some m[j] := by
 subst h
 have h1 : j < n /\ j < l.length := by rw [List.length_take] at hj; omega
 rw [List.getElem_take, List.getElem?_eq_getElem h1.2]
def RowO (w : World) (base : Nat) (e : TypeId) (k : Nat) (v : Value) (n : Nat) (xs : List Value) : Prop :=
 xs.length = n * k /\ ((v = .slice none 0 0 /\ n = 0) \/
  ∃ g cap cur, v = .slice (some ⟨g, 0, none⟩) n cap /\ base <= g /\ w.heap[g]? = some (.cells cur e (0, 0)) /\ n <= cap /\ cap <= maxLen /\ cap * k <= cur.size /\ cur.toList.take (n * k) = xs)
theorem RowO.own {w : World} {base k n : Nat} {e : TypeId} {v : Value} {xs : List Value} (h : w.ownsRow base e k v n xs) : RowO w base e k v n xs := by
 refine ⟨h.1, ?_⟩
 rcases h.2 with h | ⟨g, cap, cur, h1, h2, h3, h4, h5, h6, h7⟩
 .
  exact .inl h
 .
  exact .inr ⟨g, cap, cur, h1, h2, h3, h4, h5, by omega, h7⟩
theorem RowO.lt {w : World} {base k n : Nat} {e : TypeId} {v : Value} {xs : List Value} (h : RowO w base e k v n xs) : ∀ g, v.ownBlock = some g -> base <= g /\ g < w.heap.size := by
 intro g hg
 rcases h.2 with ⟨rfl, _⟩ | ⟨g', cap, cur, rfl, hb, hh, _⟩
 .
  simp [Value.ownBlock] at hg
 .
  simp [Value.ownBlock] at hg
  subst hg
  exact ⟨hb, (Array.getElem?_eq_some_iff.1 hh).1⟩
theorem RowO.same {w w' : World} {base k n : Nat} {e : TypeId} {v : Value} {xs : List Value} (h : RowO w base e k v n xs) (hw : ∀ g, v.ownBlock = some g -> w'.heap[g]? = w.heap[g]?) : RowO w' base e k v n xs := by
 refine ⟨h.1, ?_⟩
 rcases h.2 with h | ⟨g, cap, cur, rfl, h2, h3, h4⟩
 .
  exact .inl h
 .
  exact .inr ⟨g, cap, cur, rfl, h2, (hw g rfl).trans h3, h4⟩
theorem RowO.at {w : World} {base k n : Nat} {e : TypeId} {v : Value} {xs : List Value} (h : RowO w base e k v n xs) :
  ∃ o c, v = .slice o n c /\ SlW o n c /\ RowAt (fun g => v.ownBlock = some g) w o xs := by
 rcases h.2 with ⟨rfl, rfl⟩ | ⟨g, cap, cur, rfl, hb, hh, hn, hc, hs, ht⟩
 .
  have hx : xs = [] := List.eq_nil_of_length_eq_zero (by simpa using h.1)
  subst hx
  exact ⟨none, 0, rfl, .inl ⟨rfl, rfl, rfl⟩, RowAt.nil _ _ _⟩
 .
  refine ⟨_, cap, rfl, .inr ⟨_, rfl, hn, hc⟩, ?_⟩
  intro j hj
  refine ⟨g, 0, rfl, ?_, rfl⟩
  have hj' : cur.toList[j]? = some xs[j] := take_get ht hj
  simp [World.cell?, hh]
  rw [<- Array.getElem?_toList]
  exact hj'
inductive AT where
 | mk (b : Nat) (pv kv : Value) (ps : List Kv) (kids : List AT) (page : Int)
def AT.b : AT -> Nat | .mk b _ _ _ _ _ => b
def AT.pv : AT -> Value | .mk _ v _ _ _ _ => v
def AT.kv : AT -> Value | .mk _ _ v _ _ _ => v
def AT.ps : AT -> List Kv | .mk _ _ _ l _ _ => l
def AT.kids : AT -> List AT | .mk _ _ _ _ l _ => l
def AT.page : AT -> Int | .mk _ _ _ _ _ p => p
theorem AT.ind {P : AT -> Prop} (h : ∀ b pv kv ps kids page, (∀ k ∈ kids, P k) -> P (.mk b pv kv ps kids page)) (n : AT) : P n :=
 AT.rec (motive_1 := P) (motive_2 := fun l => ∀ k ∈ l, P k) (fun b pv kv ps kids page ih => h b pv kv ps kids page ih) (fun k hk => by cases hk)
  (fun x l hx hl k hk => (zmC.1 hk).elim (fun e => e ▸ hx) (hl k)) n
def AT.ptr (t : AT) : Value := .pointer (some ⟨t.b, 0, none⟩)
mutual
def AT.nd : AT -> Nd
 | .mk _ _ _ ps kids page => .mk ps (AT.ndL kids) page
def AT.ndL : List AT -> List Nd
 | [] => []
 | t :: l => t.nd :: AT.ndL l
end
theorem AT.ndL_eq (l : List AT) : AT.ndL l = l.map AT.nd := by
 induction l with
 | nil => rfl
 | cons x l ih => rw [AT.ndL, ih]; rfl
theorem AT.nd_eq (t : AT) : t.nd = .mk t.ps (t.kids.map AT.nd) t.page := by
 cases t with | mk b pv kv ps kids page => rw [AT.nd, AT.ndL_eq]; rfl
theorem AT.nd_kids (t : AT) : t.nd.kids = t.kids.map AT.nd := by rw [AT.nd_eq]; rfl
theorem AT.nd_ps (t : AT) : t.nd.ps = t.ps := by rw [AT.nd_eq]; rfl
theorem AT.nd_page (t : AT) : t.nd.page = t.page := by rw [AT.nd_eq]; rfl
mutual
def AT.fp : AT -> List Nat
 | .mk b pv kv _ kids _ => b :: (pv.ownBlock.toList ++ (kv.ownBlock.toList ++ AT.fpL kids))
def AT.fpL : List AT -> List Nat
 | [] => []
 | t :: l => t.fp ++ AT.fpL l
end
theorem AT.fpL_eq (l : List AT) : AT.fpL l = (l.map AT.fp).flatten := by
 induction l with
 | nil => rfl
 | cons x l ih => rw [AT.fpL, ih]; rfl
theorem AT.mem_fpL {l : List AT} {x : Nat} : x ∈ AT.fpL l ↔ ∃ t ∈ l, x ∈ t.fp := by
 rw [AT.fpL_eq, List.mem_flatten]
 constructor
 .
  rintro ⟨y, hy, hx⟩
  obtain ⟨t, ht, rfl⟩ := List.mem_map.1 hy
  exact ⟨t, ht, hx⟩
 .
  rintro ⟨t, ht, hx⟩
  exact ⟨_, List.mem_map.2 ⟨t, ht, rfl⟩, hx⟩
def nodeC (leaf : Bool) (pv kv : Value) (page : Int) : Array Value := #[.bool leaf, pv, kv, .int .i64 page]
inductive Lies (base : Nat) (w : World) : AT -> Prop
 | mk (b : Nat) (pv kv : Value) (ps : List Kv) (kids : List AT) (page : Int) (hb : base <= b) (hx : Bx w b (nodeC kids.isEmpty pv kv page) 129)
  (hp : RowO w base 77 2 pv ps.length (kvsC ps)) (hk : RowO w base 88 1 kv kids.length (kids.map AT.ptr)) (hc : ∀ t ∈ kids, Lies base w t) : Lies base w (.mk b pv kv ps kids page)
theorem Lies.hb {base : Nat} {w : World} {t : AT} (h : Lies base w t) : base <= t.b := by cases h; assumption
theorem Lies.hx {base : Nat} {w : World} {t : AT} (h : Lies base w t) : Bx w t.b (nodeC t.kids.isEmpty t.pv t.kv t.page) 129 := by cases h; assumption
theorem Lies.hp {base : Nat} {w : World} {t : AT} (h : Lies base w t) : RowO w base 77 2 t.pv t.ps.length (kvsC t.ps) := by cases h; assumption
theorem Lies.hk {base : Nat} {w : World} {t : AT} (h : Lies base w t) : RowO w base 88 1 t.kv t.kids.length (t.kids.map AT.ptr) := by cases h; assumption
theorem Lies.hc {base : Nat} {w : World} {t : AT} (h : Lies base w t) : ∀ c ∈ t.kids, Lies base w c := by cases h; assumption
theorem Lies.lt {base : Nat} {w : World} : ∀ {t : AT}, Lies base w t -> ∀ x ∈ t.fp, base <= x /\ x < w.heap.size := by
 intro t
 induction t using AT.ind with
 | h b pv kv ps kids page ih =>
  intro h x hx
  have h1 := h.hb
  have h2 := h.hx.lt
  have h3 := h.hp.lt
  have h4 := h.hk.lt
  have h5 := h.hc
  simp only [AT.b, AT.pv, AT.kv, AT.kids] at h1 h2 h3 h4 h5
  rw [AT.fp, zmC, zmA, zmA] at hx
  rcases hx with rfl | hx | hx | hx
  .
   exact ⟨h1, h2⟩
  .
   exact h3 x (by simpa using hx)
  .
   exact h4 x (by simpa using hx)
  .
   obtain ⟨t, ht, hx⟩ := AT.mem_fpL.1 hx
   exact ih t ht (h5 t ht) x hx
theorem Lies.same {base : Nat} {w w' : World} : ∀ {t : AT}, Lies base w t -> (∀ x ∈ t.fp, w'.heap[x]? = w.heap[x]?) -> Lies base w' t := by
 intro t
 induction t using AT.ind with
 | h b pv kv ps kids page ih =>
  intro h hs
  have h1 := h.hb
  have h2 := h.hx
  have h3 := h.hp
  have h4 := h.hk
  have h5 := h.hc
  simp only [AT.b, AT.pv, AT.kv, AT.kids, AT.ps, AT.page] at h1 h2 h3 h4 h5
  simp only [AT.fp, zmC, zmA] at hs
  refine .mk _ _ _ _ _ _ h1 ((hs b (.inl rfl)).trans h2) (h3.same fun g e => hs g (.inr (.inl (by simpa using e)))) (h4.same fun g e => hs g (.inr (.inr (.inl (by simpa using e))))) ?_
  intro t ht
  exact ih t ht (h5 t ht) fun x hx => hs x (.inr (.inr (.inr (AT.mem_fpL.2 ⟨t, ht, hx⟩))))
theorem Lies.stays {base B : Nat} {w w' : World} {t : AT} (h : Lies base w t) (hb : Below B w w') (hB : w.heap.size <= B) : Lies base w' t :=
 h.same fun x hx => hb.block x (znL (h.lt x hx).2 hB)
theorem Lies.staysAll {base : Nat} {w w' : World} {t : AT} (h : Lies base w t) (hb : Below w.heap.size w w') : Lies base w' t := h.stays hb (Nat.le_refl _)
def Nd.first : Nd -> Bool
 | .mk ps [] _ => !ps.isEmpty
 | .mk _ (k :: _) _ => k.first
def AT.height : AT -> Nat
 | .mk _ _ _ _ [] _ => 0
 | .mk _ _ _ _ (k :: _) _ => k.height + 1
theorem ptr_row {w : World} {base : Nat} {e : TypeId} {v : Value} {l : List AT} (h : RowO w base e 1 v l.length (l.map AT.ptr)) {i : Nat} (hi : i < l.length) :
  ∃ b c, v = .slice (some ⟨b, 0, none⟩) l.length c /\ w.cell? ⟨b, i, none⟩ = some l[i].ptr /\ l.length <= c /\ v.ownBlock = some b := by
 rcases h.2 with ⟨rfl, h0⟩ | ⟨g, cap, cur, rfl, hb, hh, hn, hc, hs, ht⟩
 .
  omega
 .
  refine ⟨g, cap, rfl, ?_, hn, rfl⟩
  have hj' : cur.toList[i]? = some l[i].ptr := by
   rw [take_get ht (by simpa using hi), List.getElem_map]
  simp [World.cell?, hh]
  rw [<- Array.getElem?_toList]
  exact hj'
theorem pair_row {w : World} {base : Nat} {e : TypeId} {v : Value} {l : List Kv} (h : RowO w base e 2 v l.length (kvsC l)) {i : Nat} (hi : i < l.length) :
  ∃ b c, v = .slice (some ⟨b, 0, none⟩) l.length c /\ w.cell? ⟨b, i * 2, none⟩ = some (.string l[i].1) /\ w.cell? ⟨b, i * 2 + 1, none⟩ = some (.string l[i].2) /\ l.length <= c /\ v.ownBlock = some b := by
 rcases h.2 with ⟨rfl, h0⟩ | ⟨g, cap, cur, rfl, hb, hh, hn, hc, hs, ht⟩
 .
  omega
 .
  have hl := kvsC_len l
  obtain ⟨e0, e1⟩ := kvsC_get hi
  have f : ∀ j, j < (kvsC l).length -> w.cell? ⟨g, j, none⟩ = (kvsC l)[j]? := by
   intro j hj
   have := take_get ht hj
   simp [World.cell?, hh]
   rw [<- Array.getElem?_toList, this, List.getElem?_eq_getElem hj]
  exact ⟨g, cap, rfl, (f _ (by omega)).trans e0, (f _ (by omega)).trans e1, hn, rfl⟩
set_option maxHeartbeats 1000000 in
theorem bt_least (base : Nat) (t : AT) (w : World) (h : Lies base w t) (hf : t.nd.first = true) :
  Calls Tryz.prog 137 #[t.ptr] w fun e w' => e = .returned (.string t.nd.least) /\ w' = w := by
 go_enter Tryz.func137, Tryz.ntmps137
 go_wp2
 go_loopg [0] t.height (fun k p wr => ∃ s : AT, p = s.ptr /\ Hid (Lies base w s /\ s.nd.least = t.nd.least /\ s.nd.first = true /\ s.height = k) /\ wr = w)
 case atStart => exact ⟨t, rfl, zhI ⟨h, rfl, hf, rfl⟩, rfl⟩
 case round =>
  obtain ⟨s, rfl, H, rfl⟩ := hrel
  obtain ⟨hl, h1, h2, h3⟩ := H.out
  obtain ⟨b, pv, kv, ps, kids, page⟩ := s
  have hx := hl.hx
  have hp := hl.hp
  have hk := hl.hk
  have hc := hl.hc
  simp only [AT.b, AT.pv, AT.kv, AT.ps, AT.kids, AT.page] at hx hp hk hc
  simp only [AT.ptr, AT.b]
  cases kids with
  | nil =>
   have hps : 0 < ps.length := by
    rw [AT.nd, AT.ndL, Nd.first] at h2
    cases ps with
    | nil => simp at h2
    | cons => simp
   obtain ⟨g, c, rfl, c0, -, hle, -⟩ := pair_row hp hps
   rw [Nat.zero_mul] at c0
   have cX := hx.cell
   have lX := hx.lt
   unfold nodeC at cX
   have hres : (AT.mk b (.slice (some ⟨g, 0, none⟩) ps.length c) kv ps [] page).nd.least = ps[0].1 := by
    cases ps with
    | nil => simp at hps
    | cons x l => rw [AT.nd, AT.ndL, Nd.least]; rfl
   rw [hres] at h1
   have R := zhI h1
   clear hl H h1 h2 h3 hc hx hp hk hres
   go_wp2
   go_ret
   exact ⟨by rw [<- R.out]; rfl, rfl⟩
  | cons k0 ks =>
   obtain ⟨g, c, rfl, c0, hle, -⟩ := ptr_row (i := 0) hk (by simp)
   rw [List.getElem_cons_zero] at c0
   have cX := hx.cell
   have lX := hx.lt
   unfold nodeC at cX
   have hk0 := hc k0 (by simp)
   have R : Hid (Lies base wr k0 /\ k0.nd.least = t.nd.least /\ k0.nd.first = true /\ k0.height + 1 = gk) := zhI ⟨hk0, by rw [<- h1, AT.nd, AT.ndL, Nd.least], by rw [AT.nd, AT.ndL, Nd.first] at h2; exact h2, by rw [<- h3, AT.height]⟩
   obtain ⟨n, hn⟩ : ∃ n, (k0 :: ks).length = n + 1 := ⟨ks.length, by simp⟩
   rw [hn] at cX
   unfold AT.ptr at c0
   clear hl H h1 h2 h3 hc hx hp hk hk0
   go_wp2
   go_roundg k0.height
   case rel => exact ⟨k0, rfl, zhI ⟨R.out.1, R.out.2.1, R.out.2.2.1, rfl⟩, rfl⟩
   case measure => have := R.out.2.2.2; omega
end Go.Proofs.YtlefmmhlpgmbjaaGreat
