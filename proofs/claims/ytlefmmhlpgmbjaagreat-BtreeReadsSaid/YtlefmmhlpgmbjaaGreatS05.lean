/- Numbers of 8 bytes of layer 42: btree.integer, readInteger, header, padded; the reference's number, value, filled, Header. Numbers of 8 bytes and headers of the reference of layer 42. Layer 40's functions as the laws meet them: a disk that lies somewhere in memory. A header read: pagelog.read; quiltref41.header's own part is in PReadR. Whether pages fit (pagelog.fits, quiltref41.Fits), the size of the area; quiltref41.read, area, header. The bytes of the area, as the reference collects them. quiltref41.header: the header of a page. Whether pages fit, valid headers: btree.fits, readHeader; quiltref42.Fits, header. Valid headers of layer 42: btree.readHeader, quiltref42.header. 32-bit words: what the walk computes on them, as UInt32. Rotations of words. The schedule of words of a block, of the program and of the reference. The program's schedule of words. The constants of the steps and the first state. One block: the program's compress. Xor of two digests, of the program and of the reference. What both Sums compute. sha256.blocks: the contract of its iterator: the blocks of the padded message, in order. sha256.Sum: the digest of a message. The reference's padded message. One block: the reference's step. quiltref02.Sum: the digest of a message. The check value of a digest: of the program and of the reference. Rows of elements of more than one cell: reading, writing, growing; structs and arrays built and compared. No function of the program is named here. What is kept besides a row of the call's own: blocks of other types; trees of the program in memory, nodes of the reference. -/
import Derived.Test.YtlefmmhlpgmbjaaGreatS03
import Derived.Test.YtlefmmhlpgmbjaaGreatS04
import Derived.Lib.AppendStr
import Derived.RangeFuncBox
import Derived.RangeFuncLeaves
import Derived.Shelf.Abstract
import Derived.WalkKit
import Derived.OwnWalkIn
import Derived.TacticsInMore
import Derived.LoopNIn
import Derived.LoopIn
import Derived.Test.YtlefmmhlpgmbjaaGreatS02
import Derived.DeepKeys
import Derived.Deep.LoopGhost
import Derived.Test.YtlefmmhlpgmbjaaGreatS01
namespace Go.Proofs.YtlefmmhlpgmbjaaGreat
set_option maxRecDepth 100000
open Go.RowKit
set_option maxHeartbeats 1000000 in
theorem zfz (n : Nat) (w : World) :
  Calls Tryz.prog 85 #[.int .i64 n] w fun e w' => e = .returned (.string (bs (num8 n))) /\ Below w.heap.size w w' := by
 go_enter Tryz.func85, Tryz.ntmps85;go_wp2
 go_loopw [4, 5] (fun _ i wr => ∃ k : Nat, k <= 8 /\ i = .int .i64 k /\ Bx wr w.heap.size (zam (numC n k)).toArray 195 /\ Below w.heap.size w wr) (fun _ i _ => 8 - (intOf i).toNat)
 case atStart => exact ⟨0, by omega, rfl, Bx.new w _ _, Below.one _ _⟩
 case round =>
  obtain ⟨k, hk, rfl, x, hB⟩ := hrel
  by_cases hlt : k < 8
  .
   have fX := x.free (7 - k);have cX : wr.cell? ⟨w.heap.size, 7 - k, none⟩ = some (.int .u8 0) := by rw [x.cell, zlJ n k hlt]
   go_wp2;go_roundw
   case rel => exact ⟨k + 1, by omega, by go_num, by rw [<- zmf n k hlt]; exact x.set _ _, zaa hB (Nat.le_refl _)⟩
   case measure => simp [intOf]; omega
  .
   obtain rfl : k = 8 := by omega
   go_wp2_with (refine zbx rfl _ 139 9 5 rfl Tryz.underlying139 Tryz.underlying5 Tryz.underlying9 _ 8 8 (num8 n) rfl rfl (S := (· = w.heap.size)) (by rw [<- zlY]; simpa using RowAt.bx x) ?_);go_ret;exact ⟨rfl, hB⟩
theorem zjG (l : List UInt8) (c : UInt8) : be (l ++ [c]) = be l * 256 + c.toNat := by unfold be; rw [List.foldl_append]; rfl
theorem zmn : ∀ (m l : List UInt8), be l <= be (l ++ m)
 | [], l => by simp
 | c :: m, l => by have h := zmn m (l ++ [c]);rw [zjG, List.append_assoc] at h;simp at h;omega
theorem znh (l : List UInt8) (k : Nat) : be (l.take k) <= be l := by
 have := zmn (l.drop k) (l.take k);rwa [List.take_append_drop] at this
set_option maxHeartbeats 1000000 in
theorem zcK (s : ByteArray) (w : World) (hs : s.size <= 1000000) :
  Calls Tryz.prog 130 #[.string s] w fun e w' => e = .returned (.int .i64 (valR (be s.data.toList))) /\ w = w' := by
 have hsl : s.data.toList.length = s.size := by rw [Array.length_toList]; rfl
 go_enter Tryz.func130, Tryz.ntmps130;go_wp2
 go_loop [3, 4, 7] (fun n _ i => ∃ (k m : Nat), k <= s.size /\ i = .int .i64 k /\ n = .int .i64 m /\ m <= 1099511627776 /\ Hid (be (s.data.toList.take k) = m)) (fun _ _ i => s.size - (intOf i).toNat)
 case atStart => exact ⟨0, 0, by omega, rfl, rfl, by omega, zhI rfl⟩
 case round =>
  obtain ⟨k, m, hk, rfl, rfl, hm2, hv⟩ := hrel
  by_cases hlt : k < s.size
  .
   obtain ⟨q, hq⟩ : ∃ q : Nat, m * 256 + s[k].toNat = q := ⟨_, rfl⟩;have he := or8s m s[k] (by omega);rw [hq] at he;have hn : be (s.data.toList.take (k + 1)) = q := by rw [List.take_succ_eq_append_getElem (by omega), zjG, hv.out, <- hq]; rfl
   have hle := znh s.data.toList (k + 1);rw [hn] at hle;have Hn := zhI hn;have Hle := zhI hle;clear hn hle hq hv hsl
   by_cases hb : 1099511627776 < q
   .
    have hb' : (1099511627776 : Int) < (q : Int) := by omega
    go_wp2;go_ret;refine ⟨?_, rfl⟩;have := Hle.out;unfold valR;rw [if_pos (by omega)]; rfl
   .
    have hb' : ¬ (1099511627776 : Int) < (q : Int) := by omega
    go_wp2;go_roundw
    case rel => exact ⟨k + 1, q, by omega, by go_num, rfl, by omega, Hn⟩
    case measure => simp [intOf]; omega
  .
   obtain rfl : k = s.size := by omega
   go_wp2;go_ret;refine ⟨?_, rfl⟩;have h := hv.out;rw [List.take_of_length_le (by omega)] at h;unfold valR;rw [h, if_neg (by omega)]; rfl
theorem len8 (n : Nat) : (num8 n).length = 8 := rfl
set_option maxHeartbeats 1000000 in
theorem zde (v r : Nat) (w : World) :
  Calls Tryz.prog 47 #[.int .i64 v, .int .i64 r] w fun e w' => e = .returned (.string (bs (hdrL 512 v r))) /\ Below w.heap.size w w' := by
 have hzs : (zbO 488).size = 488 := by simp [zbO, ByteArray.size]
 have h8v : (num8 v).length = 8 := rfl;have h8r : (num8 r).length = 8 := rfl;go_enter Tryz.func47, Tryz.ntmps47;go_wp2_with fail;refine (zfz v _).mono ?_;rintro e w1 ⟨rfl, hb1⟩;go_wp2_with fail;refine (zfz r _).mono ?_;rintro e w2 ⟨rfl, hb2⟩;go_wp2_with fail;refine (zb8 488 (by omega) _).mono ?_;rintro e w3 ⟨rfl, hb3⟩;go_wp2;go_ret;refine ⟨?_, btr (btr hb1 hb2) hb3⟩;show Ending.returned (.string (bs (num8 v) ++ bs (num8 r) ++ bs (List.replicate 488 0) ++ bs (num8 v))) = _;rw [zbr, zbr, zbr]; rfl
set_option maxHeartbeats 1000000 in
theorem zhj {S : Nat -> Prop} (l : List UInt8) (ad : Addr) (c : Nat) (w : World) (hl : l.length <= 512) (hr : RowAt S w (some ad) (zam l)) :
  Calls Tryz.prog 46 #[.slice (some ad) l.length c] w fun e w' => e = .returned (.string (bs (padZ l))) /\ Below w.heap.size w w' := by
 obtain ⟨n, hn⟩ : ∃ n, l.length = n := ⟨_, rfl⟩;rw [hn];have e512 : (512 : Int) - (n : Int) = ((512 - n : Nat) : Int) := by omega
 have hle : 512 - n <= 1000000 := by omega
 have hzs : (zbO (512 - n)).size = 512 - n := by simp [zbO, ByteArray.size]
 have hbl : (bs l).size = n := by rw [zaj, hn]
 have hsum : ¬ (9223372036854775807 : Int) < ((bs l).size + (zbO (512 - n)).size : Nat) := by rw [hbl, hzs]; omega
 have Hn := zhI hn;clear hn;go_enter Tryz.func46, Tryz.ntmps46;go_wp2_with fail;refine zal 8 0 #[true, true, true, true, true, true, true, true] (fun i => if i = 1 then some (annK (.string (bs l))) else if i = 5 then some (annK (.string (zbO (512 - n)))) else none) (by kernel_rfl) (by rfl) (by rfl) (by kernel_rfl) ?_;simp only [List.take_succ_cons, List.take_zero];refine LW.block 1 1 (by rfl) (by kernel_rfl) (by kernel_rfl) ?_;simp only [ztP]
 repeat (first | go_big_quiet_skip | (go_big_quiet_want; go_big_quiet_op; go_big_quiet_on))
 refine wpQuiet_nil ?_;refine LW.lzy _ (by rfl) (by rfl) ?_ ?_
 . intro yL _;exact zkK (.tmp 3) 139 9 5 rfl Tryz.underlying139 Tryz.underlying5 Tryz.underlying9 _ n _ l rfl Hn.out (S := S) (hr.below yL.h)
 intro r1;simp only [Act.put, zsP]
 (try simp only [annK])
 refine LW.block 3 5 (by rfl) (by kernel_rfl) (by kernel_rfl) ?_;simp only [ztP]
 repeat (first | go_big_quiet_skip | (go_big_quiet_want; go_big_quiet_op; go_big_quiet_on))
 refine wpQuiet_nil ?_;refine LW.lzy _ (by rfl) (by rfl) ?_ ?_
 . intro yL _;unfold lzAt;go_simp;exact zaH (zb8 (512 - n) hle _)
 intro _;simp only [Act.put, zsP]
 (try simp only [annK])
 refine LW.block 2 8 (by rfl) (by kernel_rfl) (by kernel_rfl) ?_;simp only [ztP]
 repeat (first | go_big_quiet_skip | (go_big_quiet_want; go_big_quiet_op; go_big_quiet_on))
 refine wpQuiet_nil ?_;refine LW.done ?_;intro w' hG;refine wpAny_done (by kernel_rfl) ?_ _;go_wp2;go_ret;refine ⟨?_, hG.below⟩;show Ending.returned (.string (bs l ++ bs (List.replicate (512 - n) 0))) = _;rw [zbr, <- Hn.out]; rfl
section
variable {P : Program} {o : Oper} {a : Act} {w : World}
theorem zkG (x : Operand) (src dst e : TypeId) (hop : o.op = .convert src dst x) (hs : P.underlying src = some (.slice e)) (he : P.underlying e = some (.int .u8)) (hd : P.underlying dst = some .string)
  (n c : Nat) (hx : a.eval x = .slice none n c) : lzAt P o a w (zcL (annK (.string (bs []))) w) := by
 unfold lzAt;simp [execOp, hop, hx, run_convert_bytes_nil w src e hs he _ _ dst hd, Result.andThen];exact ⟨Below.refl _ _, fun _ => undef, rfl, fun _ _ => trivial⟩
end
set_option maxHeartbeats 1000000 in
theorem zf2 (w : World) :
  Calls Tryz.prog 46 #[.slice none 0 0] w fun e w' => e = .returned (.string (bs (padZ []))) /\ Below w.heap.size w w' := by
 have hzs : (zbO 512).size = 512 := by simp [zbO, ByteArray.size]
 go_enter Tryz.func46, Tryz.ntmps46;go_wp2_with fail;refine zal 8 0 #[true, true, true, true, true, true, true, true] (fun i => if i = 1 then some (annK (.string (bs []))) else if i = 5 then some (annK (.string (zbO 512))) else none) (by kernel_rfl) (by rfl) (by rfl) (by kernel_rfl) ?_;simp only [List.take_succ_cons, List.take_zero];refine LW.block 1 1 (by rfl) (by kernel_rfl) (by kernel_rfl) ?_;simp only [ztP]
 repeat (first | go_big_quiet_skip | (go_big_quiet_want; go_big_quiet_op; go_big_quiet_on))
 refine wpQuiet_nil ?_;refine LW.lzy _ (by rfl) (by rfl) ?_ ?_
 . intro yL _;exact zkG (.tmp 3) 139 9 5 rfl Tryz.underlying139 Tryz.underlying5 Tryz.underlying9 0 0 rfl
 intro r1;simp only [Act.put, zsP]
 (try simp only [annK])
 refine LW.block 3 5 (by rfl) (by kernel_rfl) (by kernel_rfl) ?_;simp only [ztP]
 repeat (first | go_big_quiet_skip | (go_big_quiet_want; go_big_quiet_op; go_big_quiet_on))
 refine wpQuiet_nil ?_;refine LW.lzy _ (by rfl) (by rfl) ?_ ?_
 . intro yL _;unfold lzAt;go_simp;exact zaH (zb8 512 (by omega) _)
 intro _;simp only [Act.put, zsP]
 (try simp only [annK])
 refine LW.block 2 8 (by rfl) (by kernel_rfl) (by kernel_rfl) ?_;simp only [ztP]
 repeat (first | go_big_quiet_skip | (go_big_quiet_want; go_big_quiet_op; go_big_quiet_on))
 refine wpQuiet_nil ?_;refine LW.done ?_;intro w' hG;refine wpAny_done (by kernel_rfl) ?_ _;go_wp2;go_ret;refine ⟨?_, hG.below⟩;show Ending.returned (.string (bs [] ++ bs (List.replicate 512 0))) = _;rw [zbr]; rfl
theorem zmX (n k : Nat) (hk : k < 8) : ∃ c : UInt8, (num8 n).take (k + 1) = (num8 n).take k ++ [c] /\ ((n : Int) / 2 ^ (56 - 8 * k) % 256) = (c.toNat : Int) := by
 have h := zj1 n k hk;have hl : k < (num8 n).length := by rw [len8]; exact hk
 refine ⟨(num8 n)[k], List.take_succ_eq_append_getElem hl, ?_⟩;rw [List.take_succ_eq_append_getElem hl] at h;simp only [zam, List.map_append, List.map_cons, List.map_nil] at h;have := List.append_cancel_left h;simpa using this.symm
set_option maxHeartbeats 1000000 in
theorem zeC (n : Nat) (w : World) :
  Calls Tryz.prog 89 #[.int .i64 n] w fun e w' => e = .returned (.string (bs (num8 n))) /\ Below w.heap.size w w' := by
 go_enter Tryz.func89, Tryz.ntmps89;go_wp2
 go_loopw [3, 4] (fun v i wr => ∃ (k : Nat) (x : Int), k <= 8 /\ i = .int .i64 x /\ -8 <= x /\ x <= 56 /\ Hid (x = 56 - 8 * k) /\ v = .string (bs ((num8 n).take k)) /\ Below w.heap.size w wr) (fun _ i _ => (intOf i + 8).toNat)
 case atStart => exact ⟨0, 56, by omega, rfl, by omega, by omega, zhI rfl, rfl, Below.refl _ _⟩
 case round =>
  obtain ⟨k, x, hk, rfl, hx1, hx2, hx, rfl, hB⟩ := hrel
  by_cases hlt : k < 8
  .
   have hz := hB.size;obtain rfl : x = ((56 - 8 * k : Nat) : Int) := by rw [hx.out]; omega
   obtain ⟨c, hc1, hc2⟩ := zmX n k hlt;have Hc := zhI hc1;obtain ⟨t, ht⟩ : ∃ t, bs ((num8 n).take k) = t := ⟨_, rfl⟩;have htz : t.size = k := by rw [<- ht, zaj, List.length_take, len8]; omega
   rw [ht];have Ht := zhI ht;have hcz : ByteArray.size { data := #[c] } = 1 := rfl;clear ht hc1;go_wp2_with (refine zbx rfl _ 139 9 5 rfl Tryz.underlying139 Tryz.underlying5 Tryz.underlying9 (some ⟨wr.heap.size, 0, none⟩) 1 1 [c] rfl rfl (S := (· = wr.heap.size)) (by first | exact RowAt.bx (Bx.new wr _ _) | (rw [hc2]; exact RowAt.bx (Bx.new wr _ _))) ?_);go_roundw
   case rel => refine ⟨k + 1, _, by omega, rfl, by omega, by omega, zhI (by omega), ?_, hB.alloc hz _⟩;rw [Hc.out, <- zbr, Ht.out]
   case measure => simp [intOf]; omega
  .
   obtain rfl : k = 8 := by omega
   obtain rfl : x = -8 := by rw [hx.out]; rfl
   go_wp2;go_ret;exact ⟨rfl, hB⟩
set_option maxHeartbeats 1000000 in
theorem zih (s : ByteArray) (w : World) (hs : 8 <= s.size) :
  Calls Tryz.prog 93 #[.string s] w fun e w' => e = .returned (.int .i64 (valR (be (s.data.toList.take 8)))) /\ w = w' := by
 go_enter Tryz.func93, Tryz.ntmps93;go_wp2
 go_loop [3, 4] (fun n i => ∃ (k m : Nat) (x : Int), k <= 8 /\ i = .int .i64 k /\ n = .int .i64 x /\ -9223372036854775808 <= x /\ x <= 9223372036854775807 /\ Hid (x = wrap64 m /\ m < 256 ^ k /\ be (s.data.toList.take k) = m)) (fun _ i => 8 - (intOf i).toNat)
 case atStart => exact ⟨0, 0, 0, by omega, rfl, rfl, by omega, by omega, zhI ⟨by unfold wrap64; omega, by omega, rfl⟩⟩
 case round =>
  obtain ⟨k, m, x, hk, rfl, rfl, hx1, hx2, hv⟩ := hrel
  by_cases hlt : k < 8
  .
   have hm7 : m < 72057594037927936 := by have h1 := hv.out.2.1;have : 256 ^ k <= 256 ^ 7 := Nat.pow_le_pow_right (by omega) (by omega);omega
   obtain rfl : x = (m : Int) := by rw [hv.out.1, IntWalk.wrap64_in _ (by omega)]
   go_wp2;go_roundw
   case rel =>
    have hc := s[k].toNat_lt;have hlt' := hv.out.2.1;refine ⟨k + 1, m * 256 + s[k].toNat, _, by omega, by go_num, rfl, ?_, ?_, zhI ⟨?_, ?_, ?_⟩⟩
    . rw [or8 m _ hm7 hc]; exact (zmi _).1
    . rw [or8 m _ hm7 hc]; exact (zmi _).2
    . rw [or8 m _ hm7 hc]; simp
    . rw [Nat.pow_succ]; omega
    .
     have hk' : k < s.data.toList.length := by rw [Array.length_toList]; exact (show k < s.size by omega)
     rw [List.take_succ_eq_append_getElem hk'];unfold be;rw [List.foldl_append];have := hv.out.2.2;unfold be at this;rw [this]; rfl
   case measure => simp [intOf]; omega
  .
   obtain rfl : k = 8 := by omega
   go_wp2
   all_goals
    go_ret;refine ⟨?_, rfl⟩;obtain ⟨h1, h2, h3⟩ := hv.out;rw [h3];simp only [valR];show Ending.returned (.int .i64 _) = _;congr 2;unfold wrap64 at h1;split <;> omega
set_option maxHeartbeats 1000000 in
theorem zeN (s : ByteArray) (w : World) (hs : s.size <= 512) :
  Calls Tryz.prog 51 #[.string s] w fun e w' => e = .returned (.string (bs (padZ s.data.toList))) /\ Below w.heap.size w w' := by
 obtain ⟨i0, hi, hz0, hz1, hz2⟩ := info_parts zkR;obtain ⟨n, hn⟩ : ∃ n, 512 - s.size = n := ⟨_, rfl⟩;have e512 : (512 : Int) - (s.size : Int) = (n : Int) := by omega
 have hzs : (ByteArray.mk (List.replicate n 0).toArray).size = n := by simp [ByteArray.size]
 have Hn := zhI hn;have hle : s.size + n <= 512 := by omega
 clear hn;go_enter Tryz.func51, Tryz.ntmps51;go_wp2_with (first
  | (refine zgS rfl (.tmp 6) (.tmp 6) 139 rfl 5 i0 _ 1 Tryz.underlying139 hi hz0 hz1 hz2 rfl n rfl rfl (by omega) (by omega) ?_; intro w2 xG hg2 hz2')
  | (refine zbx rfl _ 139 9 5 rfl Tryz.underlying139 Tryz.underlying5 Tryz.underlying9 (some ⟨w.heap.size, 0, none⟩) n n (List.replicate n 0) rfl (by simp) (S := (· = w.heap.size)) (by have := RowAt.bx xG; simpa [zam] using this) ?_))
 go_ret;refine ⟨?_, (Below.refl _ _).grown hg2 (Nat.le_refl _) (by intro k e; cases e)⟩;have hl : s.data.toList.length = s.size := by rw [Array.length_toList]; rfl
 unfold padZ;rw [hl, Hn.out, <- zbr, bs_of];simp [bs]
theorem zkc (v r : Nat) : (padZ (num8 v ++ num8 r)).take 504 ++ num8 v = hdrL 512 v r := by
 unfold padZ hdrL;have : (num8 v ++ num8 r).length = 16 := rfl;rw [this, List.take_append, this, List.take_of_length_le (by rw [this]; omega), List.take_replicate];simp
set_option maxHeartbeats 2000000 in
theorem zgL (v r : Nat) (w : World) :
  Calls Tryz.prog 52 #[.int .i64 v, .int .i64 r] w fun e w' => e = .returned (.string (bs (hdrL 512 v r))) /\ Below w.heap.size w w' := by
 have h8v : (num8 v).length = 8 := rfl;have h8r : (num8 r).length = 8 := rfl;obtain ⟨q, hq⟩ : ∃ q, padZ (num8 v ++ num8 r) = q := ⟨_, rfl⟩;have hql : q.length = 512 := by rw [<- hq]; rfl
 have hf : ∀ W, Calls Tryz.prog 51 #[.string (bs (num8 v) ++ bs (num8 r))] W fun e w' => e = .returned (.string (bs q)) /\ Below W.heap.size W w' := fun W => by have := zeN (bs (num8 v) ++ bs (num8 r)) W (by rw [zbr, zaj]; simp [len8]);rw [zbr, za3, hq] at this;rwa [zbr]
 have hqz : (bs q).size = 512 := by rw [zaj, hql]
 have hcut : (bs q).extract 0 504 = bs (q.take 504) := by rw [zeT]; simp
 have hcz : (bs (q.take 504)).size = 504 := by rw [zaj, List.length_take, hql]; rfl
 have Hq := zhI hq;clear hq;obtain ⟨p, hp⟩ : ∃ p, bs q = p := ⟨_, rfl⟩;rw [hp] at hf hqz hcut;have Hp := zhI hp;clear hp;go_enter Tryz.func52, Tryz.ntmps52;go_wp2_with fail;refine zal 11 0 #[true, true, true, true, true, true, true, true, true, true, true] (fun i => if i = 1 \/ i = 8 then some (annK (.string (bs (num8 v)))) else if i = 3 then some (annK (.string (bs (num8 r)))) else if i = 5 then some (annK (.string p)) else none) (by kernel_rfl) (by rfl) (by rfl) (by kernel_rfl) ?_;simp only [List.take_succ_cons, List.take_zero];refine LW.block 1 1 (by rfl) (by kernel_rfl) (by kernel_rfl) ?_;simp only [ztP]
 repeat (first | go_big_quiet_skip | (go_big_quiet_want; go_big_quiet_op; go_big_quiet_on))
 refine wpQuiet_nil ?_;refine LW.lzy _ (by rfl) (by rfl) ?_ ?_
 . intro yL _;unfold lzAt;go_simp;exact zaH (zeC v _)
 intro _;simp only [Act.put, zsP]
 (try simp only [annK])
 refine LW.block 1 3 (by rfl) (by kernel_rfl) (by kernel_rfl) ?_;simp only [ztP]
 repeat (first | go_big_quiet_skip | (go_big_quiet_want; go_big_quiet_op; go_big_quiet_on))
 refine wpQuiet_nil ?_;refine LW.lzy _ (by rfl) (by rfl) ?_ ?_
 . intro yL _;unfold lzAt;go_simp;exact zaH (zeC r _)
 intro _;simp only [Act.put, zsP]
 (try simp only [annK])
 refine LW.block 1 5 (by rfl) (by kernel_rfl) (by kernel_rfl) ?_;simp only [ztP]
 repeat (first | go_big_quiet_skip | (go_big_quiet_want; go_big_quiet_op; go_big_quiet_on))
 refine wpQuiet_nil ?_;refine LW.lzy _ (by rfl) (by rfl) ?_ ?_
 . intro yL _;unfold lzAt;go_simp;exact zaH (hf _)
 intro _;simp only [Act.put, zsP]
 (try simp only [annK])
 refine LW.block 2 8 (by rfl) (by kernel_rfl) (by kernel_rfl) ?_;simp only [ztP]
 repeat (first | go_big_quiet_skip | (go_big_quiet_want; go_big_quiet_op; go_big_quiet_on))
 refine wpQuiet_nil ?_;refine LW.lzy _ (by rfl) (by rfl) ?_ ?_
 . intro yL _;unfold lzAt;go_simp;exact zaH (zeC v _)
 intro _;simp only [Act.put, zsP]
 (try simp only [annK])
 refine LW.block 2 11 (by rfl) (by kernel_rfl) (by kernel_rfl) ?_;simp only [ztP]
 repeat (first | go_big_quiet_skip | (go_big_quiet_want; go_big_quiet_op; go_big_quiet_on))
 refine wpQuiet_nil ?_;refine LW.done ?_;intro w' hG;refine wpAny_done (by kernel_rfl) ?_ _;go_wp2;go_ret;refine ⟨?_, hG.below⟩;rw [<- zkc, Hq.out, <- zbr]
 first | rfl | (rw [<- hcut]; rfl)
def DskV (w : World) (v : Value) (d : Dsk) : Prop := DskR (· < w.heap.size) w v d
theorem DskV.of {S : Nat -> Prop} {w : World} {v : Value} {d : Dsk} (h : DskR S w v d) (hS : InS S w) : DskV w v d := h.mono hS
theorem DskV.below {w w' : World} {v : Value} {d : Dsk} (h : DskV w v d) (hb : Below w.heap.size w w') : DskV w' v d :=
 DskR.mono (DskR.below h hb) fun _ hs => znL hs hb.size
theorem zgp (w : World) : InS (· < w.heap.size) w := fun _ h => h
theorem zjA {w w' : World} (hb : Below w.heap.size w w') : InS (Gr (· < w.heap.size) w w') w' := (zgp w).gr hb
theorem DskV.agg {w : World} {v : Value} {d : Dsk} (h : DskV w v d) : ∃ po pc co cc, v = .agg #[.int .i64 d.size, .slice po d.pages.length pc, .slice co d.cache.length cc, .int .i64 d.left] := by
 obtain ⟨po, pc, co, cc, e, _⟩ := h;exact ⟨po, pc, co, cc, e⟩
def zmq (d : Dsk) (po co : Option Addr) (pc cc : Nat) : Array Value := #[.int .i64 d.size, .slice po d.pages.length pc, .slice co d.cache.length cc, .int .i64 d.left]
theorem zmE (d : Dsk) (v : Value) (i : Int) (data : ByteArray) (w : World) (hD : DskV w v d) (hd : data.size <= 140737488351232) (hn : d.cache.length <= 1000000) {A : Dsk} {er : Int} (he : zbc d i data = (A, er)) :
  Calls Tryz.prog 83 #[v, .int .i64 i, .string data] w fun e w' => ∃ v', e = .returned (.tuple #[v', .int .i64 er]) /\ DskV w' v' A /\ Below w.heap.size w w' := by
 refine (zje d v i data w (zgp w) hD hd hn).mono ?_;rintro e w' ⟨v', rfl, h, hb⟩;rw [he] at h |-;exact ⟨v', rfl, .of h (zjA hb), hb⟩
theorem zmW (d : Dsk) (v : Value) (w : World) (hD : DskV w v d) {A : Dsk} {er : Int} (he : zbi d = (A, er)) :
  Calls Tryz.prog 84 #[v] w fun e w' => ∃ v', e = .returned (.tuple #[v', .int .i64 er]) /\ DskV w' v' A /\ Below w.heap.size w w' := by
 refine (zjp d v w (zgp w) hD).mono ?_;rintro e w' ⟨v', rfl, h, hb⟩;rw [he] at h |-;exact ⟨v', rfl, .of h (zjA hb), hb⟩
theorem zjW (d : Dsk) (v : Value) (i : Int) (w : World) (hD : DskV w v d) {s : ByteArray} {er : Int} (he : readD d i = (s, er)) :
  Calls Tryz.prog 41 #[v, .int .i64 i] w fun e w' => e = .returned (.tuple #[.string s, .int .i64 er]) /\ Below w.heap.size w w' := by
 refine (zkN d v i w (zgp w) hD).mono ?_;rintro e w' ⟨rfl, hb⟩;rw [he];exact ⟨rfl, hb⟩
theorem zhM (d : Dsk) (v : Value) (w : World) (hD : DskV w v d) {er : Int} (he : chk d = er) :
  Calls Tryz.prog 43 #[v] w fun e w' => e = .returned (.int .i64 er) /\ Below w.heap.size w w' := he ▸ zaN d v w hD
theorem zlk (d : Dsk) (v : Value) (w : World) (hD : DskV w v d) {er : Int} (he : chk d = er) :
  Calls Tryz.prog 48 #[v] w fun e w' => e = .returned (.int .i64 er) /\ Below w.heap.size w w' := he ▸ zbC d v w hD
theorem zka {s : List UInt8} {k : Nat} {area : Int} {v n : Nat} (h : hdrP s k area = some (v, n)) :
  be (s.take 8) = v /\ be ((s.drop 8).take 8) = n /\ 1 <= v /\ v <= 1099511627776 /\ v % 2 = k /\ (n : Int) <= area /\ n <= 1099511627776 /\ s = hdrL s.length v n := by
 unfold hdrP at h;split at h
 .
  rename_i hc
  obtain ⟨h1, h2, h3, h4, h5, h6⟩ := hc;simp only [Option.some.injEq, Prod.mk.injEq] at h;obtain ⟨rfl, rfl⟩ := h;exact ⟨rfl, rfl, h1, h2, h3, h4, h5, h6⟩
 . cases h
theorem zcx (s : ByteArray) : s.data.toList.length = s.size := by rw [Array.length_toList]; rfl
theorem zhW {d : Dsk} (h : chk d = 0) {k : Nat} (hk : k < d.pages.length) : ((zak d k hk).size : Int) = d.size := by
 obtain ⟨_, h2, h3, _⟩ := zaq h;exact ze9 (fun x hx => (h3 x hx).2.2) _ (h2 _ (List.getElem_mem _))
theorem zjQ {d : Dsk} (h : chk d = 0) {i : Int} (h0 : 0 <= i) (h1 : i < d.pages.length) : (pageL d i).length = d.size.toNat := by
 have hk : i.toNat < d.pages.length := by omega
 have e : (i.toNat : Int) = i := by omega
 unfold pageL;rw [<- e, zfT h hk];have := zhW h hk;rw [Array.length_toList];show (zak d i.toNat hk).size = _;omega
theorem zfG {n : Nat} (h : n <= 1099511627776) : valR n = n := by unfold valR; rw [if_neg (by omega)]
theorem zcw (s : ByteArray) (a b : Nat) : (s.extract a b).data.toList = (s.data.toList.drop a).take (b - a) := by
 conv => lhs; rw [<- bs_of s, zeT, za3]
theorem zax {d : Dsk} {frm til : Int} (h : fits5 d frm til = true) : d.size = 512 /\ 0 <= frm /\ til <= (d.pages.length : Int) /\ 3 <= til /\ frm <= til - 3 := by
 unfold fits5 at h; simp at h; omega
theorem zaK {d : Dsk} {frm til : Int} (h : ¬ (d.size = 512 /\ 0 <= frm /\ til <= (d.pages.length : Int) /\ 3 <= til /\ frm <= til - 3)) : fits5 d frm til = false := by
 cases g : fits5 d frm til
 . rfl
 . exact absurd (zax g) h
theorem zf0 {d : Dsk} {frm til : Int} (h1 : d.size = 512) (h2 : 0 <= frm) (h3 : til <= (d.pages.length : Int)) (h4 : 3 <= til) (h5 : frm <= til - 3) : fits5 d frm til = true := by
 unfold fits5; simp; omega
theorem zdA (d : Dsk) (v : Value) (frm til : Int) (w : World) (hc : chk d = 0) {b : Bool} (hb : fits5 d frm til = b) (hD : DskV w v d) :
  Calls Tryz.prog 44 #[v, .int .i64 frm, .int .i64 til] w fun e w' => e = .returned (.bool b) /\ Below w.heap.size w w' := by
 subst hb;obtain ⟨po, pc, co, cc, rfl⟩ := hD.agg;have hr := zag (zaq hc).1;have x1 := Bx.new w #[.int .i64 d.size, .slice po d.pages.length pc, .slice co d.cache.length cc, .int .i64 d.left] 25;have cX := x1.cell;have lX := x1.lt;clear hD hc;cases g1 : (d.size == 512)
 .
  have g1' : d.size ≠ 512 := by simpa using g1
  go_enter Tryz.func44, Tryz.ntmps44;go_wp2;go_ret;refine ⟨?_, Below.one _ _⟩;rw [zaK (by omega)]; rfl
 have g1' : d.size = 512 := by simpa using g1
 have G1 := zhI g1';clear g1';cases g2 : decide (0 <= frm)
 . have g2' := of_decide_eq_false g2;go_enter Tryz.func44, Tryz.ntmps44;go_wp2;go_ret;refine ⟨?_, Below.one _ _⟩;rw [zaK (by omega)]; rfl
 have g2' := of_decide_eq_true g2;cases g3 : decide (til <= (d.pages.length : Int))
 . have g3' := of_decide_eq_false g3;go_enter Tryz.func44, Tryz.ntmps44;go_wp2;go_ret;refine ⟨?_, Below.one _ _⟩;rw [zaK (by omega)]; rfl
 have g3' := of_decide_eq_true g3;cases g4 : decide (3 <= til)
 . have g4' := of_decide_eq_false g4;go_enter Tryz.func44, Tryz.ntmps44;go_wp2;go_ret;refine ⟨?_, Below.one _ _⟩;rw [zaK (by omega)]; rfl
 have g4' := of_decide_eq_true g4;cases g5 : decide (frm <= til - 3)
 . have g5' := of_decide_eq_false g5;go_enter Tryz.func44, Tryz.ntmps44;go_wp2;go_ret;refine ⟨?_, Below.one _ _⟩;rw [zaK (by omega)]; rfl
 have g5' := of_decide_eq_true g5;go_enter Tryz.func44, Tryz.ntmps44;go_wp2;go_ret;refine ⟨?_, Below.one _ _⟩;rw [zf0 G1.out g2' g3' g4' g5']; rfl
theorem zjJ (d : Dsk) (v : Value) (frm til : Int) (w : World) (hc : chk d = 0) {b : Bool} (hb : fits5 d frm til = b) (hD : DskV w v d) :
  Calls Tryz.prog 49 #[v, .int .i64 frm, .int .i64 til] w fun e w' => e = .returned (.bool b) /\ Below w.heap.size w w' := by
 subst hb;obtain ⟨po, pc, co, cc, rfl⟩ := hD.agg;have hr := zag (zaq hc).1;have x1 := Bx.new w #[.int .i64 d.size, .slice po d.pages.length pc, .slice co d.cache.length cc, .int .i64 d.left] 25;have cX := x1.cell;have lX := x1.lt;clear hD hc;cases g1 : (d.size == 512)
 .
  have g1' : d.size ≠ 512 := by simpa using g1
  go_enter Tryz.func49, Tryz.ntmps49;go_wp2;go_ret;refine ⟨?_, Below.one _ _⟩;rw [zaK (by omega)]; rfl
 have g1' : d.size = 512 := by simpa using g1
 have G1 := zhI g1';clear g1';cases g2 : decide (0 <= frm)
 . have g2' := of_decide_eq_false g2;go_enter Tryz.func49, Tryz.ntmps49;go_wp2;go_ret;refine ⟨?_, Below.one _ _⟩;rw [zaK (by omega)]; rfl
 have g2' := of_decide_eq_true g2;cases g3 : decide (til <= (d.pages.length : Int))
 . have g3' := of_decide_eq_false g3;go_enter Tryz.func49, Tryz.ntmps49;go_wp2;go_ret;refine ⟨?_, Below.one _ _⟩;rw [zaK (by omega)]; rfl
 have g3' := of_decide_eq_true g3;cases g4 : decide (3 <= til)
 . have g4' := of_decide_eq_false g4;go_enter Tryz.func49, Tryz.ntmps49;go_wp2;go_ret;refine ⟨?_, Below.one _ _⟩;rw [zaK (by omega)]; rfl
 have g4' := of_decide_eq_true g4;cases g5 : decide (frm <= til - 3)
 . have g5' := of_decide_eq_false g5;go_enter Tryz.func49, Tryz.ntmps49;go_wp2;go_ret;refine ⟨?_, Below.one _ _⟩;rw [zaK (by omega)]; rfl
 have g5' := of_decide_eq_true g5;go_enter Tryz.func49, Tryz.ntmps49;go_wp2;go_ret;refine ⟨?_, Below.one _ _⟩;rw [zf0 G1.out g2' g3' g4' g5']; rfl
theorem zmR (d : Dsk) (i : Int) : readD d i = (bs (pageL d i), (readD d i).2) := by
 unfold pageL; rw [bs_of]
theorem zcz {d : Dsk} (h : chk d = 0) {i : Int} (h0 : 0 <= i) (h1 : i < d.pages.length) : readD d i = (bs (pageL d i), 0) := by
 rw [zmR];congr 1;have hk : i.toNat < d.pages.length := by omega
 have e : (i.toNat : Int) = i := by omega
 rw [<- e, zfT h hk]
theorem zdy {d : Dsk} (h : chk d = 0) (hz : d.size = 512) {i : Int} (h0 : 0 <= i) (h1 : i < d.pages.length) : (pageL d i).length = 512 := by
 rw [zjQ h h0 h1, hz]; rfl
theorem zbg {s : List UInt8} {frm til : Int} {k v n : Nat} (h : hdrX s frm til k = some (v, n)) :
  be (s.take 8) = v /\ be ((s.drop 8).take 8) = n /\ 1 <= v /\ v <= 1099511627776 /\ n <= 1099511627776 /\ (n = 0 \/ (frm + 2 <= (n : Int) /\ (n : Int) < til)) /\ v % 2 = k /\ s = hdrL 512 v n := by
 unfold hdrX at h;split at h
 .
  rename_i hc
  obtain ⟨h1, h2, h3, h4, h5, h6⟩ := hc;simp only [Option.some.injEq, Prod.mk.injEq] at h;obtain ⟨rfl, rfl⟩ := h;exact ⟨rfl, rfl, h1, h2, h3, h4, h5, h6⟩
 . cases h
theorem zfS {n : Nat} {x : Int} (h : valR n = x) : -1 <= x /\ x <= 1099511627776 := by unfold valR at h; split at h <;> omega
theorem zef {n m : Nat} (h : valR n = (m : Int)) : n = m /\ n <= 1099511627776 := by unfold valR at h; split at h <;> omega
theorem zgs {L : List UInt8} {s : ByteArray} (hs : bs L = s) (_hl : L.length = 512) {x y : Int} (hx : valR (be (L.take 8)) = x) (hy : valR (be ((L.drop 8).take 8)) = y) :
  (∀ W, Calls Tryz.prog 130 #[.string (s.extract 0 8)] W fun e w' => e = .returned (.int .i64 x) /\ w' = W) /\
  (∀ W, Calls Tryz.prog 130 #[.string (s.extract 8 16)] W fun e w' => e = .returned (.int .i64 y) /\ w' = W) := by
 subst hs;constructor
 . intro W;have := (zcK ((bs L).extract 0 8) W (by simp; omega)).mono fun _ _ h => (zaI h.1 h.2.symm);rw [zcw, za3] at this;simp only [List.drop_zero, Nat.sub_zero] at this;rwa [hx] at this
 . intro W;have := (zcK ((bs L).extract 8 16) W (by simp; omega)).mono fun _ _ h => (zaI h.1 h.2.symm);rw [zcw, za3] at this;rwa [hy] at this
theorem zfD {L : List UInt8} {s : ByteArray} (hs : bs L = s) (hl : L.length = 512) {x y : Int} (hx : valR (be (L.take 8)) = x) (hy : valR (be ((L.drop 8).take 8)) = y) :
  (∀ W, Calls Tryz.prog 93 #[.string (s.extract 0 8)] W fun e w' => e = .returned (.int .i64 x) /\ w' = W) /\
  (∀ W, Calls Tryz.prog 93 #[.string (s.extract 8 16)] W fun e w' => e = .returned (.int .i64 y) /\ w' = W) := by
 subst hs;have hz : (bs L).size = 512 := by rw [zaj, hl]
 constructor
 . intro W;have := (zih ((bs L).extract 0 8) W (by simp; omega)).mono fun _ _ h => (zaI h.1 h.2.symm);rw [zcw, za3] at this;simp only [List.drop_zero, Nat.sub_zero, List.take_take, Nat.min_self] at this;rwa [hx] at this
 . intro W;have := (zih ((bs L).extract 8 16) W (by simp; omega)).mono fun _ _ h => (zaI h.1 h.2.symm);rw [zcw, za3, List.take_take, Nat.min_eq_left (by omega)] at this;rwa [hy] at this
set_option maxHeartbeats 4000000 in
theorem zdf (d : Dsk) (v : Value) (frm til : Int) (k : Nat) (V n : Nat) (w : World) (hc : chk d = 0) (hf : fits5 d frm til = true) (hk : k <= 1) (hh : hdrX (pageL d (frm + k)) frm til k = some (V, n)) (hD : DskV w v d) :
  Calls Tryz.prog 90 #[v, .int .i64 frm, .int .i64 til, .int .i64 (frm + k)] w fun e w' => e = .returned (.tuple #[.int .i64 V, .int .i64 n, .bool true]) /\ Below w.heap.size w w' := by
 obtain ⟨f1, f2, f3, f4, f5⟩ := zax hf;have hr := zag (zaq hc).1;have hl := zdy hc f1 (i := frm + k) (by omega) (by omega);have hrd := zcz hc (i := frm + k) (by omega) (by omega);obtain ⟨q1, q2, q3, q4, q5, q6, q7, q8⟩ := zbg hh;obtain ⟨s, hs⟩ : ∃ s, bs (pageL d (frm + k)) = s := ⟨_, rfl⟩;have hz : s.size = 512 := by rw [<- hs, zaj, hl]
 obtain ⟨v1, v2⟩ := zgs hs hl (x := V) (y := n) (by rw [q1]; exact zfG q4) (by rw [q2]; exact zfG q5);have hhd : ∀ W, Calls Tryz.prog 47 #[.int .i64 V, .int .i64 n] W fun e w' => e = .returned (.string s) /\ Below W.heap.size W w' := fun W => by have := zde V n W;rwa [<- q8, hs] at this
 rw [hs] at hrd;have q7' : (V : Int) % 2 = (k : Int) := by omega
 have hre : ∀ W vv, DskV W vv d -> Calls Tryz.prog 41 #[vv, .int .i64 (frm + k)] W fun e w' => e = .returned (.tuple #[.string s, .int .i64 0]) /\ Below W.heap.size W w' := fun W vv h => zjW d vv (frm + k) W h hrd;have Hre := zhI hre;have hD0 := hD;obtain ⟨po, pc, co, cc, rfl⟩ := hD.agg;have Hq := zhI q8;clear hD hf hh q1 q2 q8 hs hl hrd f1 hre;rcases q6 with q6 | ⟨q6, q6'⟩
 .
  have q0 : ((n : Int) != 0) = false := by simpa using q6
  clear q6;go_enter Tryz.func90, Tryz.ntmps90;go_wp2_with fail;refine (Hre.out _ _ (hD0.below (Below.one _ _))).mono ?_;rintro e w1 ⟨rfl, hb1⟩;have x1 := (Bx.new w _ _).belowAll hb1;have hB1 := btr (Below.one _ _) hb1;go_wp2_with fail;go_quiet ((first | (go_at_call 130; with_reducible exact Calls.quiet_of_same (v1 _)) | (go_at_call 130; with_reducible exact Calls.quiet_of_same (v2 _))));have x2 := x1.drewN nq;have cX := x2.cell;have lX := x2.lt;go_wp2_with fail;refine (hhd _).mono ?_;rintro e w2 ⟨rfl, hb2⟩;go_wp2;refine bodyPost_ret (v := .tuple #[.int .i64 V, .int .i64 n, .bool true]) (by simp [results, Tryz.results90, go_sem]) rfl ?_;exact ⟨rfl, btr (Below.drewN hB1 nq) hb2⟩
 .
  have q0 : ((n : Int) != 0) = true := by simp; omega
  have q0' : ¬ (n : Int) < frm + 2 := by omega
  go_enter Tryz.func90, Tryz.ntmps90;go_wp2_with fail;refine (Hre.out _ _ (hD0.below (Below.one _ _))).mono ?_;rintro e w1 ⟨rfl, hb1⟩;have x1 := (Bx.new w _ _).belowAll hb1;have hB1 := btr (Below.one _ _) hb1;go_wp2_with fail;go_quiet ((first | (go_at_call 130; with_reducible exact Calls.quiet_of_same (v1 _)) | (go_at_call 130; with_reducible exact Calls.quiet_of_same (v2 _))));have x2 := x1.drewN nq;have cX := x2.cell;have lX := x2.lt;go_wp2_with fail;refine (hhd _).mono ?_;rintro e w2 ⟨rfl, hb2⟩;go_wp2;refine bodyPost_ret (v := .tuple #[.int .i64 V, .int .i64 n, .bool true]) (by simp [results, Tryz.results90, go_sem]) rfl ?_;exact ⟨rfl, btr (Below.drewN hB1 nq) hb2⟩
set_option maxHeartbeats 4000000 in
theorem zdb (d : Dsk) (v : Value) (frm til : Int) (k : Nat) (w : World) (hc : chk d = 0) (hf : fits5 d frm til = true) (hk : k <= 1) (hh : hdrX (pageL d (frm + k)) frm til k = none) (hD : DskV w v d) :
  Calls Tryz.prog 90 #[v, .int .i64 frm, .int .i64 til, .int .i64 (frm + k)] w fun e w' => (∃ x y, e = .returned (.tuple #[.int .i64 x, .int .i64 y, .bool false])) /\ Below w.heap.size w w' := by
 obtain ⟨f1, f2, f3, f4, f5⟩ := zax hf;have hr := zag (zaq hc).1;have hl := zdy hc f1 (i := frm + k) (by omega) (by omega);have hrd := zcz hc (i := frm + k) (by omega) (by omega);obtain ⟨s, hs⟩ : ∃ s, bs (pageL d (frm + k)) = s := ⟨_, rfl⟩;have hsl : s.data.toList = pageL d (frm + k) := by rw [<- hs, za3]
 have hz : s.size = 512 := by rw [<- hs, zaj, hl]
 obtain ⟨x, hx⟩ : ∃ x, valR (be ((pageL d (frm + k)).take 8)) = x := ⟨_, rfl⟩;obtain ⟨y, hy⟩ : ∃ y, valR (be (((pageL d (frm + k)).drop 8).take 8)) = y := ⟨_, rfl⟩;obtain ⟨v1, v2⟩ := zgs hs hl hx hy;have bx := zfS hx;have by_ := zfS hy;rw [hs] at hrd;have hre : ∀ W vv, DskV W vv d -> Calls Tryz.prog 41 #[vv, .int .i64 (frm + k)] W fun e w' => e = .returned (.tuple #[.string s, .int .i64 0]) /\ Below W.heap.size W w' := fun W vv h => zjW d vv (frm + k) W h hrd;have Hre := zhI hre;have hD0 := hD;obtain ⟨po, pc, co, cc, rfl⟩ := hD.agg;have Hx := zhI hx;have Hy := zhI hy;have Hh := zhI hh;have Hs := zhI hsl;clear hD hf hh hs hl hrd f1 hre hx hy hsl;cases g1 : decide (x < 1);rotate_left
 . have g1' := of_decide_eq_true g1;go_enter Tryz.func90, Tryz.ntmps90;go_wp2_with fail;refine (Hre.out _ _ (hD0.below (Below.one _ _))).mono ?_;rintro e w1 ⟨rfl, hb1⟩;have x1 := (Bx.new w _ _).belowAll hb1;have hB1 := btr (Below.one _ _) hb1;go_wp2_with fail;go_quiet ((first | (go_at_call 130; with_reducible exact Calls.quiet_of_same (v1 _)) | (go_at_call 130; with_reducible exact Calls.quiet_of_same (v2 _))));have x2 := x1.drewN nq;have cX := x2.cell;have lX := x2.lt;go_wp2;refine bodyPost_ret (v := .tuple #[.int .i64 0, .int .i64 0, .bool false]) (by simp [results, Tryz.results90, go_sem]) rfl ?_;exact ⟨⟨_, _, rfl⟩, Below.drewN hB1 nq⟩
 have g1' := of_decide_eq_false g1;obtain ⟨V, rfl⟩ : ∃ V : Nat, x = V := ⟨x.toNat, by omega⟩;obtain ⟨ok, hok⟩ : ∃ ok, (decide (y = 0) || (decide (frm + 2 <= y) && decide (y < til))) = ok := ⟨_, rfl⟩;cases ok with
 | false =>
  simp only [Bool.or_eq_false_iff, decide_eq_false_iff_not, Bool.and_eq_false_iff] at hok;obtain ⟨o1, o2⟩ := hok;have q0 : (y != 0) = true := by simpa using o1
  clear o1;cases g2 : decide (y < frm + 2);rotate_left
  . have g2' := of_decide_eq_true g2;clear o2;go_enter Tryz.func90, Tryz.ntmps90;go_wp2_with fail;refine (Hre.out _ _ (hD0.below (Below.one _ _))).mono ?_;rintro e w1 ⟨rfl, hb1⟩;have x1 := (Bx.new w _ _).belowAll hb1;have hB1 := btr (Below.one _ _) hb1;go_wp2_with fail;go_quiet ((first | (go_at_call 130; with_reducible exact Calls.quiet_of_same (v1 _)) | (go_at_call 130; with_reducible exact Calls.quiet_of_same (v2 _))));have x2 := x1.drewN nq;have cX := x2.cell;have lX := x2.lt;go_wp2;refine bodyPost_ret (v := .tuple #[.int .i64 0, .int .i64 0, .bool false]) (by simp [results, Tryz.results90, go_sem]) rfl ?_;exact ⟨⟨_, _, rfl⟩, Below.drewN hB1 nq⟩
  have g2' := of_decide_eq_false g2;have g3' : til <= y := by omega
  clear o2;go_enter Tryz.func90, Tryz.ntmps90;go_wp2_with fail;refine (Hre.out _ _ (hD0.below (Below.one _ _))).mono ?_;rintro e w1 ⟨rfl, hb1⟩;have x1 := (Bx.new w _ _).belowAll hb1;have hB1 := btr (Below.one _ _) hb1;go_wp2_with fail;go_quiet ((first | (go_at_call 130; with_reducible exact Calls.quiet_of_same (v1 _)) | (go_at_call 130; with_reducible exact Calls.quiet_of_same (v2 _))));have x2 := x1.drewN nq;have cX := x2.cell;have lX := x2.lt;go_wp2;refine bodyPost_ret (v := .tuple #[.int .i64 0, .int .i64 0, .bool false]) (by simp [results, Tryz.results90, go_sem]) rfl ?_;exact ⟨⟨_, _, rfl⟩, Below.drewN hB1 nq⟩
 | true =>
  obtain ⟨n, rfl⟩ : ∃ n : Nat, y = n := ⟨y.toNat, by simp at hok; omega⟩;have Hok := zhI hok;have hq : ((n : Int) != 0) = false \/ (((n : Int) != 0) = true /\ ¬ (n : Int) < frm + 2 /\ (n : Int) < til) := by
   simp at hok;rcases hok with h | h
   . exact .inl (by simpa using h)
   . exact .inr ⟨by simp; omega, by omega, h.2⟩
  clear hok;cases g4 : decide ((V : Int) % 2 = (k : Int))
  .
   have g4' : ¬ (frm + (k : Int) = frm + (V : Int) % 2) := by have := of_decide_eq_false g4; omega
   rcases hq with q0 | ⟨q0, q1, q2⟩
   all_goals
    go_enter Tryz.func90, Tryz.ntmps90;go_wp2_with fail;refine (Hre.out _ _ (hD0.below (Below.one _ _))).mono ?_;rintro e w1 ⟨rfl, hb1⟩;have x1 := (Bx.new w _ _).belowAll hb1;have hB1 := btr (Below.one _ _) hb1;go_wp2_with fail;go_quiet ((first | (go_at_call 130; with_reducible exact Calls.quiet_of_same (v1 _)) | (go_at_call 130; with_reducible exact Calls.quiet_of_same (v2 _))));have x2 := x1.drewN nq;have cX := x2.cell;have lX := x2.lt;go_wp2;refine bodyPost_ret (v := .tuple #[.int .i64 V, .int .i64 n, .bool false]) (by simp [results, Tryz.results90, go_sem]) rfl ?_;exact ⟨⟨_, _, rfl⟩, Below.drewN hB1 nq⟩
  have g4' := of_decide_eq_true g4;have hne2 : ¬ hdrL 512 V n = s.toList := by intro e;rw [ByteArray.toList_eq, Hs.out] at e;obtain ⟨b1, b1'⟩ := zef Hx.out;obtain ⟨b2, b2'⟩ := zef Hy.out;have := Hh.out;unfold hdrX at this;have hk2 := Hok.out;simp at hk2;rw [if_pos ⟨by omega, by omega, by omega, by omega, by omega, by rw [b1, b2]; exact e.symm⟩] at this;cases this
  have Hne := zhI hne2;clear Hok hne2;rcases hq with q0 | ⟨q0, q1, q2⟩
  all_goals
   go_enter Tryz.func90, Tryz.ntmps90;go_wp2_with fail;refine (Hre.out _ _ (hD0.below (Below.one _ _))).mono ?_;rintro e w1 ⟨rfl, hb1⟩;have x1 := (Bx.new w _ _).belowAll hb1;have hB1 := btr (Below.one _ _) hb1;go_wp2_with fail;go_quiet ((first | (go_at_call 130; with_reducible exact Calls.quiet_of_same (v1 _)) | (go_at_call 130; with_reducible exact Calls.quiet_of_same (v2 _))));have x2 := x1.drewN nq;have cX := x2.cell;have lX := x2.lt;go_wp2_with fail;refine (zde _ _ _).mono ?_;rintro e w2 ⟨rfl, hb2⟩;go_wp2;refine bodyPost_ret (v := .tuple #[.int .i64 V, .int .i64 n, .bool false]) (by simp [results, Tryz.results90, go_sem, Hne.out]) rfl ?_;exact ⟨⟨_, _, rfl⟩, btr (Below.drewN hB1 nq) hb2⟩
set_option maxHeartbeats 4000000 in
theorem zeZ (d : Dsk) (v : Value) (frm til : Int) (k : Nat) (V n : Nat) (w : World) (hc : chk d = 0) (hf : fits5 d frm til = true) (hk : k <= 1) (hh : hdrX (pageL d (frm + k)) frm til k = some (V, n)) (hD : DskV w v d) :
  Calls Tryz.prog 54 #[v, .int .i64 frm, .int .i64 til, .int .i64 k] w fun e w' => e = .returned (.tuple #[.int .i64 V, .int .i64 n]) /\ Below w.heap.size w w' := by
 obtain ⟨f1, f2, f3, f4, f5⟩ := zax hf;have hr := zag (zaq hc).1;have hl := zdy hc f1 (i := frm + k) (by omega) (by omega);have hrd := zcz hc (i := frm + k) (by omega) (by omega);obtain ⟨q1, q2, q3, q4, q5, q6, q7, q8⟩ := zbg hh;obtain ⟨s, hs⟩ : ∃ s, bs (pageL d (frm + k)) = s := ⟨_, rfl⟩;have hz : s.size = 512 := by rw [<- hs, zaj, hl]
 obtain ⟨v1, v2⟩ := zfD hs hl (x := V) (y := n) (by rw [q1]; exact zfG q4) (by rw [q2]; exact zfG q5);have hhd : ∀ W, Calls Tryz.prog 52 #[.int .i64 V, .int .i64 n] W fun e w' => e = .returned (.string s) /\ Below W.heap.size W w' := fun W => by have := zgL V n W;rwa [<- q8, hs] at this
 rw [hs] at hrd;have q7' : (V : Int) % 2 = (k : Int) := by omega
 have hre : ∀ W vv, DskV W vv d -> Calls Tryz.prog 92 #[vv, .int .i64 (frm + k)] W fun e w' => e = .returned (.tuple #[.string s, .int .i64 0]) /\ Below W.heap.size W w' := fun W vv h => by have := zdM d vv (frm + k) W h;rw [hrd] at this;exact this
 have Hre := zhI hre;have hD0 := hD;obtain ⟨po, pc, co, cc, rfl⟩ := hD.agg;clear hD hf hh q1 q2 q8 hs hl hrd f1 hre;rcases q6 with q6 | ⟨q6, q6'⟩
 .
  have q0 : ¬ (0 : Int) < (n : Int) := by omega
  clear q6;go_enter Tryz.func54, Tryz.ntmps54;go_wp2_with fail;refine (Hre.out _ _ (hD0.below (Below.one _ _))).mono ?_;rintro e w1 ⟨rfl, hb1⟩;have x1 := (Bx.new w _ _).belowAll hb1;have hB1 := btr (Below.one _ _) hb1;go_wp2_with fail;go_quiet ((first | (go_at_call 93; with_reducible exact Calls.quiet_of_same (v1 _)) | (go_at_call 93; with_reducible exact Calls.quiet_of_same (v2 _))));have x2 := x1.drewN nq;have cX := x2.cell;have lX := x2.lt;go_wp2_with fail;refine (hhd _).mono ?_;rintro e w2 ⟨rfl, hb2⟩;go_wp2;go_ret2;exact ⟨rfl, btr (Below.drewN hB1 nq) hb2⟩
 .
  have q0 : (0 : Int) < (n : Int) := by omega
  have q0' : ¬ (n : Int) < frm + 2 := by omega
  go_enter Tryz.func54, Tryz.ntmps54;go_wp2_with fail;refine (Hre.out _ _ (hD0.below (Below.one _ _))).mono ?_;rintro e w1 ⟨rfl, hb1⟩;have x1 := (Bx.new w _ _).belowAll hb1;have hB1 := btr (Below.one _ _) hb1;go_wp2_with fail;go_quiet ((first | (go_at_call 93; with_reducible exact Calls.quiet_of_same (v1 _)) | (go_at_call 93; with_reducible exact Calls.quiet_of_same (v2 _))));have x2 := x1.drewN nq;have cX := x2.cell;have lX := x2.lt;go_wp2_with fail;refine (hhd _).mono ?_;rintro e w2 ⟨rfl, hb2⟩;go_wp2;go_ret2;exact ⟨rfl, btr (Below.drewN hB1 nq) hb2⟩
set_option maxHeartbeats 4000000 in
theorem ze2 (d : Dsk) (v : Value) (frm til : Int) (k : Nat) (w : World) (hc : chk d = 0) (hf : fits5 d frm til = true) (hk : k <= 1) (hh : hdrX (pageL d (frm + k)) frm til k = none) (hD : DskV w v d) :
  Calls Tryz.prog 54 #[v, .int .i64 frm, .int .i64 til, .int .i64 k] w fun e w' => e = .returned (.tuple #[.int .i64 0, .int .i64 0]) /\ Below w.heap.size w w' := by
 obtain ⟨f1, f2, f3, f4, f5⟩ := zax hf;have hr := zag (zaq hc).1;have hl := zdy hc f1 (i := frm + k) (by omega) (by omega);have hrd := zcz hc (i := frm + k) (by omega) (by omega);obtain ⟨s, hs⟩ : ∃ s, bs (pageL d (frm + k)) = s := ⟨_, rfl⟩;have hsl : s.data.toList = pageL d (frm + k) := by rw [<- hs, za3]
 have hz : s.size = 512 := by rw [<- hs, zaj, hl]
 obtain ⟨x, hx⟩ : ∃ x, valR (be ((pageL d (frm + k)).take 8)) = x := ⟨_, rfl⟩;obtain ⟨y, hy⟩ : ∃ y, valR (be (((pageL d (frm + k)).drop 8).take 8)) = y := ⟨_, rfl⟩;obtain ⟨v1, v2⟩ := zfD hs hl hx hy;have bx := zfS hx;have by_ := zfS hy;rw [hs] at hrd;have hre : ∀ W vv, DskV W vv d -> Calls Tryz.prog 92 #[vv, .int .i64 (frm + k)] W fun e w' => e = .returned (.tuple #[.string s, .int .i64 0]) /\ Below W.heap.size W w' := fun W vv h => by have := zdM d vv (frm + k) W h;rw [hrd] at this;exact this
 have Hre := zhI hre;have hD0 := hD;obtain ⟨po, pc, co, cc, rfl⟩ := hD.agg;have Hx := zhI hx;have Hy := zhI hy;have Hh := zhI hh;have Hs := zhI hsl;clear hD hf hh hs hl hrd f1 hre hx hy hsl;cases g1 : decide (x < 1);rotate_left
 . have g1' := of_decide_eq_true g1;go_enter Tryz.func54, Tryz.ntmps54;go_wp2_with fail;refine (Hre.out _ _ (hD0.below (Below.one _ _))).mono ?_;rintro e w1 ⟨rfl, hb1⟩;have x1 := (Bx.new w _ _).belowAll hb1;have hB1 := btr (Below.one _ _) hb1;go_wp2_with fail;go_quiet ((first | (go_at_call 93; with_reducible exact Calls.quiet_of_same (v1 _)) | (go_at_call 93; with_reducible exact Calls.quiet_of_same (v2 _))));have x2 := x1.drewN nq;have cX := x2.cell;have lX := x2.lt;go_wp2;go_ret2;exact ⟨rfl, Below.drewN hB1 nq⟩
 have g1' := of_decide_eq_false g1;obtain ⟨V, rfl⟩ : ∃ V : Nat, x = V := ⟨x.toNat, by omega⟩;cases g0 : decide (y < 0);rotate_left
 . have g0' := of_decide_eq_true g0;go_enter Tryz.func54, Tryz.ntmps54;go_wp2_with fail;refine (Hre.out _ _ (hD0.below (Below.one _ _))).mono ?_;rintro e w1 ⟨rfl, hb1⟩;have x1 := (Bx.new w _ _).belowAll hb1;have hB1 := btr (Below.one _ _) hb1;go_wp2_with fail;go_quiet ((first | (go_at_call 93; with_reducible exact Calls.quiet_of_same (v1 _)) | (go_at_call 93; with_reducible exact Calls.quiet_of_same (v2 _))));have x2 := x1.drewN nq;have cX := x2.cell;have lX := x2.lt;go_wp2;go_ret2;exact ⟨rfl, Below.drewN hB1 nq⟩
 have g0' := of_decide_eq_false g0;obtain ⟨n, rfl⟩ : ∃ n : Nat, y = n := ⟨y.toNat, by omega⟩;obtain ⟨ok, hok⟩ : ∃ ok, (decide ((n : Int) = 0) || (decide (frm + 2 <= (n : Int)) && decide ((n : Int) < til))) = ok := ⟨_, rfl⟩;cases ok with
 | false =>
  simp only [Bool.or_eq_false_iff, decide_eq_false_iff_not, Bool.and_eq_false_iff] at hok;obtain ⟨o1, o2⟩ := hok;have q0 : (0 : Int) < (n : Int) := by omega
  clear o1;cases g2 : decide ((n : Int) < frm + 2);rotate_left
  . have g2' := of_decide_eq_true g2;clear o2;go_enter Tryz.func54, Tryz.ntmps54;go_wp2_with fail;refine (Hre.out _ _ (hD0.below (Below.one _ _))).mono ?_;rintro e w1 ⟨rfl, hb1⟩;have x1 := (Bx.new w _ _).belowAll hb1;have hB1 := btr (Below.one _ _) hb1;go_wp2_with fail;go_quiet ((first | (go_at_call 93; with_reducible exact Calls.quiet_of_same (v1 _)) | (go_at_call 93; with_reducible exact Calls.quiet_of_same (v2 _))));have x2 := x1.drewN nq;have cX := x2.cell;have lX := x2.lt;go_wp2;go_ret2;exact ⟨rfl, Below.drewN hB1 nq⟩
  have g2' := of_decide_eq_false g2;have g3' : til <= (n : Int) := by omega
  clear o2;go_enter Tryz.func54, Tryz.ntmps54;go_wp2_with fail;refine (Hre.out _ _ (hD0.below (Below.one _ _))).mono ?_;rintro e w1 ⟨rfl, hb1⟩;have x1 := (Bx.new w _ _).belowAll hb1;have hB1 := btr (Below.one _ _) hb1;go_wp2_with fail;go_quiet ((first | (go_at_call 93; with_reducible exact Calls.quiet_of_same (v1 _)) | (go_at_call 93; with_reducible exact Calls.quiet_of_same (v2 _))));have x2 := x1.drewN nq;have cX := x2.cell;have lX := x2.lt;go_wp2;go_ret2;exact ⟨rfl, Below.drewN hB1 nq⟩
 | true =>
  have Hok := zhI hok;have hq : ¬ (0 : Int) < (n : Int) \/ ((0 : Int) < (n : Int) /\ ¬ (n : Int) < frm + 2 /\ (n : Int) < til) := by
   simp at hok;rcases hok with h | h
   . exact .inl (by omega)
   . exact .inr ⟨by omega, by omega, h.2⟩
  clear hok;cases g4 : decide ((V : Int) % 2 = (k : Int))
  .
   have g4' := of_decide_eq_false g4;rcases hq with q0 | ⟨q0, q1, q2⟩
   all_goals
    go_enter Tryz.func54, Tryz.ntmps54;go_wp2_with fail;refine (Hre.out _ _ (hD0.below (Below.one _ _))).mono ?_;rintro e w1 ⟨rfl, hb1⟩;have x1 := (Bx.new w _ _).belowAll hb1;have hB1 := btr (Below.one _ _) hb1;go_wp2_with fail;go_quiet ((first | (go_at_call 93; with_reducible exact Calls.quiet_of_same (v1 _)) | (go_at_call 93; with_reducible exact Calls.quiet_of_same (v2 _))));have x2 := x1.drewN nq;have cX := x2.cell;have lX := x2.lt;go_wp2;go_ret2;exact ⟨rfl, Below.drewN hB1 nq⟩
  have g4' := of_decide_eq_true g4;have hne2 : (hdrL 512 V n == s.toList) = false := by rw [beq_eq_false_iff_ne];intro e;rw [ByteArray.toList_eq, Hs.out] at e;obtain ⟨b1, b1'⟩ := zef Hx.out;obtain ⟨b2, b2'⟩ := zef Hy.out;have := Hh.out;unfold hdrX at this;have hk2 := Hok.out;simp at hk2;rw [if_pos ⟨by omega, by omega, by omega, by omega, by omega, by rw [b1, b2]; exact e.symm⟩] at this;cases this
  clear Hok;rcases hq with q0 | ⟨q0, q1, q2⟩
  all_goals
   go_enter Tryz.func54, Tryz.ntmps54;go_wp2_with fail;refine (Hre.out _ _ (hD0.below (Below.one _ _))).mono ?_;rintro e w1 ⟨rfl, hb1⟩;have x1 := (Bx.new w _ _).belowAll hb1;have hB1 := btr (Below.one _ _) hb1;go_wp2_with fail;go_quiet ((first | (go_at_call 93; with_reducible exact Calls.quiet_of_same (v1 _)) | (go_at_call 93; with_reducible exact Calls.quiet_of_same (v2 _))));have x2 := x1.drewN nq;have cX := x2.cell;have lX := x2.lt;go_wp2_with fail;refine (zgL _ _ _).mono ?_;rintro e w2 ⟨rfl, hb2⟩;go_wp2;go_ret2;exact ⟨rfl, btr (Below.drewN hB1 nq) hb2⟩
section
variable {P : Program} {ops : Array Oper} {rest : List Oper} {o : Oper} {a : Act} {Q : Exit -> Act -> World -> Prop} {w : World}
end
end Go.Proofs.YtlefmmhlpgmbjaaGreat
namespace Go.Proofs.YtlefmmhlpgmbjaaGreat
open Go.RowKit Go.Shelf
attribute [local go_sem] Oper.semAt_some
theorem info_parts {P : Program} {t : TypeId} {z : Value} {n b : Nat} (h : (P.info? t).map (fun i => (i.zero, i.size, i.bytes)) = some (some z, n, b)) : ∃ i, P.info? t = some i /\ i.zero = some z /\ i.size = n /\ i.bytes = b := by
 cases hi : P.info? t with
 | none => simp [hi] at h
 | some i => simp [hi] at h; exact ⟨i, rfl, h.1, h.2.1, h.2.2⟩
end Go.Proofs.YtlefmmhlpgmbjaaGreat
namespace Go.Proofs.YtlefmmhlpgmbjaaGreat
open Go.RowKit Go.Shelf
section
attribute [local go_sem] Oper.semAt_some
end
end Go.Proofs.YtlefmmhlpgmbjaaGreat
namespace Go.Proofs.YtlefmmhlpgmbjaaGreat
set_option maxRecDepth 100000
open Go.RowKit
theorem ziI {α : Type} {m : Nat} : ∀ {L : List (List α)}, (∀ x ∈ L, x.length = m) -> L.flatten.length = L.length * m
 | [], _ => by simp
 | x :: L, h => by rw [List.flatten_cons, zlA, h x (by simp), ziI (L := L) (fun y hy => h y (by simp [hy])), zlC, Nat.add_mul]; omega
theorem flat_get {α : Type} {m : Nat} : ∀ {L : List (List α)}, (∀ x ∈ L, x.length = m) -> ∀ (i r : Nat), r < m -> L.flatten[i * m + r]? = L[i]?.bind (·[r]?)
 | [], _, i, r, _ => by simp
 | x :: L, h, 0, r, hr => by rw [List.flatten_cons, Nat.zero_mul, Nat.zero_add, List.getElem?_append_left (by rw [h x (by simp)]; exact hr)]; rfl
 | x :: L, h, i + 1, r, hr => by rw [List.flatten_cons, List.getElem?_append_right (by rw [h x (by simp), Nat.add_mul]; omega), h x (by simp), show (i + 1) * m + r - m = i * m + r by rw [Nat.add_mul]; omega, flat_get (L := L) (fun y hy => h y (by simp [hy])) i r hr];rfl
def KeepX (t : TypeId) (w w' : World) : Prop := ∀ (b : Nat) (cs : Array Value) (t' : TypeId), t' ≠ t -> Bx w b cs t' -> Bx w' b cs t'
theorem KeepX.trans {t : TypeId} {a b c : World} (h : KeepX t a b) (k : KeepX t b c) : KeepX t a c := fun b cs t' hn hx => k b cs t' hn (h b cs t' hn hx)
theorem KeepX.alloc (t : TypeId) (w : World) (o : Obj) : KeepX t w (w.alloc o) := fun _ _ _ _ hx => hx.alloc o
theorem KeepX.grown {t : TypeId} {w w' : World} {base size n : Nat} {v : Value} {xs : List Value} (ho : w.ownsRow base t size v n xs) (hg : w.grownBy w' v.ownBlock) : KeepX t w w' :=
 fun _ _ _ hn hx => hx.grown hg fun e => zab ho hx (fun h => hn h.symm) e.symm
theorem Below.grownOwn {t : TypeId} {w0 w w' : World} {base size n : Nat} {v : Value} {xs : List Value} (h : Below base w0 w) (ho : w.ownsRow base t size v n xs) (hg : w.grownBy w' v.ownBlock) (hz : base <= w.heap.size) : Below base w0 w' :=
 h.grown hg hz fun k e => (ho.lt k e).1
theorem zby (s : ByteArray) : (textL s).length = s.size + 1 := by unfold textL; rw [zlC, Array.length_toList]; rfl
theorem u8_of (n : Nat) : (UInt8.ofNat n).toNat = n % 256 := by simp
theorem ze3 (s : ByteArray) : Lib.strCells s = zam s.data.toList := by simp [Lib.strCells, zam]
set_option maxHeartbeats 1000000 in
theorem zeF (base : Nat) (v : Value) (l : List UInt8) (s : ByteArray) (w : World) (hown : w.ownsRow base 5 1 v l.length (zam l)) (hbw : base <= w.heap.size) (hs : s.size <= 1000000) (hl : l.length <= 1000000) :
  Calls Tryz.prog 160 #[v, .string s] w fun e w' => ∃ v', e = .returned v' /\ w'.ownsRow base 5 1 v' (l ++ textL s).length (zam (l ++ textL s)) /\ Below base w w' /\ KeepX 5 w w' := by
 obtain ⟨i0, hi, hz0, hz1, hz2⟩ := info_parts zkR;obtain ⟨c, hc⟩ : ∃ c : UInt8, UInt8.ofNat s.size = c := ⟨_, rfl⟩;have hu : ((s.size : Int) % 256) = (c.toNat : Int) := by rw [<- hc, u8_of]; omega
 have Hc := zhI hc;clear hc;obtain ⟨n, hn⟩ : ∃ n, l.length = n := ⟨_, rfl⟩;rw [hn] at hown hl;have Hn := zhI hn;clear hn;go_enter Tryz.func160, Tryz.ntmps160;go_wp2_with (first
  | (at_builtin; refine zau rfl _ _ 139 rfl base 5 i0 _ 1 1 Tryz.underlying139 hi hz0 hz1 hz2 rfl (by decide) _ n _ rfl (hown.alloc _) _ 1 1 (zam [c]) rfl (by intro e; cases e) rfl (RowAt.bx (Bx.new w _ _)) (zfm _) (by unfold maxLen; omega) (by omega) (by simp; omega) ?_; intro v1 w1 hown1 hg1)
  | (at_builtin; refine Lib.wpList_append_own_string _ rfl _ _ 139 9 rfl base 5 i0 Tryz.underlying139 Tryz.underlying9 hi hz0 hz1 hz2 _ (n + 1) _ rfl hown1 s rfl (by unfold maxLen; omega) (by omega) (by have := hg1.size; simp at this; omega) ?_; intro v2 w2 hown2 hg2 _))
 go_ret;have hz1' : base <= w1.heap.size := by have := hg1.size; simp at this; omega
 refine ⟨v2, rfl, ?_, ?_, ?_⟩
 .
  rw [zlA, zby, Hn.out];have : zam (l ++ textL s) = zam l ++ zam [c] ++ Lib.strCells s := by rw [ze3, <- Hc.out]; simp [zam, textL]
  rw [this, show n + (s.size + 1) = n + 1 + s.size by omega];exact hown2
 . exact Below.grownOwn (Below.grownOwn ((Below.refl _ w).alloc hbw _) (hown.alloc _) hg1 (by simp; omega)) hown1 hg2 hz1'
 . exact ((KeepX.alloc _ w _).trans (KeepX.grown (hown.alloc _) hg1)).trans (KeepX.grown hown1 hg2)
end Go.Proofs.YtlefmmhlpgmbjaaGreat
