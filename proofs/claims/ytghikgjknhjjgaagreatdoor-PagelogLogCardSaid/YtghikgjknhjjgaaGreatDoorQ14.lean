/- The reference's Decimal, Size, stream. Disks and logs do not lie in a box that holds no string: they keep their values over stores into it. No function of the program is named here. pagelog.Open = openL at any pages; pagelog.valid, quiltref41.Valid = validL. The reference's comparison of records, Valid; Room on both sides. Plain laws: headers, and what a log in good order is (LogS): it opens as itself. No function of the program is named here. -/
import Derived.Test.YtghikgjknhjjgaaGreatDoorQ07
import Derived.Test.YtghikgjknhjjgaaGreatDoorQ11
import Derived.Test.YtghikgjknhjjgaaGreatDoorQ13
import Derived.Test.YtghikgjknhjjgaaGreatDoorQ02
import Derived.Test.YtghikgjknhjjgaaGreatDoorQ06
import Derived.Test.YtghikgjknhjjgaaGreatDoorQ01
namespace Go.Proofs.YtghikgjknhjjgaaGreatDoor
set_option maxRecDepth 100000
open Go.RowKit
def annBl (x : Value) (e : TypeId) : Ann := ⟨fun r => .slice (some ⟨r.lo, 0, none⟩) 1 1, fun r W => Bx W r.lo #[x] e⟩
theorem dec_small {n : Nat} (h : n < 10) : Lib.decDigits n = [UInt8.ofNat (48 + n)] := by rw [Lib.decDigits, dif_pos h]
theorem dec_big {n : Nat} (h : ¬ n < 10) : Lib.decDigits n = Lib.decDigits (n / 10) ++ [UInt8.ofNat (48 + n % 10)] := by rw [Lib.decDigits, dif_neg h]
theorem digit_val {m : Nat} (h : m < 10) {c : UInt8} (hc : UInt8.ofNat (48 + m) = c) : (c.toNat : Int) = 48 + (m : Int) := by
 rw [← hc, UInt8.toNat_ofNat']
 omega
set_option maxHeartbeats 2000000 in
theorem rf_decimal : ∀ (n : Nat), n ≤ 140737488351232 → ∀ (w : World),
  Calls Tryz.prog 46 #[.int .i64 n] w fun e w' => e = .returned (.string (bs (Lib.decDigits n))) ∧ Below w.heap.size w w' := by
 intro n
 induction n using Nat.strongRecOn with
 | _ n ih =>
  intro hn w
  by_cases h : n < 10
  ·
   obtain ⟨c, hc⟩ : ∃ c : UInt8, UInt8.ofNat (48 + n) = c := ⟨_, rfl⟩
   have hcn := digit_val h hc
   have Hc := Lib.hid hc
   have Hcn := Lib.hid hcn
   clear hc hcn
   go_enter Tryz.func46, Tryz.ntmps46
   go_wp2_with (refine wpList_str rfl _ 86 9 5 rfl Tryz.underlying86 Tryz.underlying5 Tryz.underlying9 (some ⟨w.heap.size, 0, none⟩) 1 1 [c] rfl rfl (S := (· = w.heap.size)) (by have := RowAt.bx (Bx.new w #[.int .u8 (48 + n)] 5); simpa [bytesV, Hcn.out] using this) ?_)
   go_ret
   refine ⟨?_, Below.one _ _⟩
   rw [dec_small h, Hc.out]; rfl
  ·
   obtain ⟨c, hc⟩ : ∃ c : UInt8, UInt8.ofNat (48 + n % 10) = c := ⟨_, rfl⟩
   have hcn := digit_val (Nat.mod_lt n (by decide)) hc
   have hcall : ∀ W, Calls Tryz.prog 46 #[.int .i64 ((n : Int) / 10)] W fun e w' => e = .returned (.string (bs (Lib.decDigits (n / 10)))) ∧ Below W.heap.size W w' := fun W => ih (n / 10) (by omega) (by omega) W
   have hdl := (dec_len (n := n / 10) (by omega)).2
   have Hc := Lib.hid hc
   have Hcn := Lib.hid hcn
   have Hd := Lib.hid (dec_big h)
   clear hc hcn ih
   go_enter Tryz.func46, Tryz.ntmps46
   go_wp2_with fail
   refine wp_region_lz 11 0 #[true, true, true, true, true, true, true, true, true, true, true] (fun i => if i = 2 then some (annK (.string (bs (Lib.decDigits (n / 10))))) else if i = 7 then some (annBl (.int .u8 (48 + (n : Int) % 10)) 5) else if i = 8 then some (annK (.string (bs [c]))) else none) (by kernel_rfl) (by rfl) (by rfl) (by kernel_rfl) ?_
   simp only [List.take_succ_cons, List.take_zero]
   refine LW.block 2 2 (by rfl) (by kernel_rfl) (by kernel_rfl) ?_
   simp only [List.take_succ_cons, List.take_zero, List.drop_succ_cons, List.drop_zero]
   repeat (first | go_big_quiet_skip | (go_big_quiet_want; go_big_quiet_op; go_big_quiet_on))
   refine wpQuiet_nil ?_
   refine LW.lzy _ (by rfl) (by rfl) ?_ ?_
   ·
    intro yL _
    unfold lzAt
    go_simp
    exact lz_constB (hcall _)
   intro _
   simp only [Act.put, List.setIfInBounds_toArray, List.set_cons_zero, List.set_cons_succ]
   (try simp only [annK])
   refine LW.block 4 7 (by rfl) (by kernel_rfl) (by kernel_rfl) ?_
   simp only [List.take_succ_cons, List.take_zero, List.drop_succ_cons, List.drop_zero]
   repeat (first | go_big_quiet_skip | (go_big_quiet_want; go_big_quiet_op; go_big_quiet_on))
   refine wpQuiet_nil ?_
   refine LW.lzy _ (by rfl) (by rfl) ?_ ?_
   ·
    intro yL _
    unfold lzAt
    go_simp
    exact ⟨Below.one _ _, fun _ => undef, rfl, fun w'' hb => (Bx.new yL.w _ _).belowAll hb⟩
   intro r7
   simp only [Act.put, List.setIfInBounds_toArray, List.set_cons_zero, List.set_cons_succ]
   refine LW.lzy _ (by rfl) (by rfl) ?_ ?_
   ·
    intro yL hf
    have hx := (hf 7 (by decide +kernel)).get (by rfl) (by rfl)
    exact lz_strK (.tmp 25) 86 9 5 rfl Tryz.underlying86 Tryz.underlying5 Tryz.underlying9 _ 1 1 [c] rfl rfl (S := (· = r7.lo)) (by have := RowAt.bx hx; simpa [bytesV, Hcn.out] using this)
   intro r8
   simp only [Act.put, List.setIfInBounds_toArray, List.set_cons_zero, List.set_cons_succ]
   (try simp only [annK])
   refine LW.block 2 11 (by rfl) (by kernel_rfl) (by kernel_rfl) ?_
   simp only [List.take_succ_cons, List.take_zero, List.drop_succ_cons, List.drop_zero]
   repeat (first | go_big_quiet_skip | (go_big_quiet_want; go_big_quiet_op; go_big_quiet_on))
   refine wpQuiet_nil ?_
   refine LW.done ?_
   intro w' hG
   refine wpAny_done (by kernel_rfl) ?_ _
   go_wp2
   go_ret
   refine ⟨?_, hG.below⟩
   show Ending.returned (.string (bs (Lib.decDigits (n / 10)) ++ bs [c])) = _
   rw [bs_app, Hd.out, Hc.out]
set_option maxHeartbeats 2000000 in
theorem rf_Size {S : Nat → Prop} (w : World) (o : Option Addr) (c : Nat) (l : List ByteArray) (ha : StrsAt S w o l) (hm : sizeL l ≤ 1000000000000) (hl : l.length ≤ 140737488351232) :
  Calls Tryz.prog 16 #[.slice o l.length c] w fun e w' => e = .returned (.int .i64 (sizeL l)) ∧ Below w.heap.size w w' := by
 go_enter Tryz.func16, Tryz.ntmps16
 go_wp2
 go_loopw [3, 4] (fun n i wr => ∃ (k m : Nat), k ≤ l.length ∧ i = .int .i64 k ∧ n = .int .i64 m ∧ m ≤ 1000000000000 ∧ Hid (sizeL (l.take k) = m) ∧ Below w.heap.size w wr) (fun _ i _ => l.length - (intOf i).toNat)
 case atStart => exact ⟨0, 0, by omega, rfl, rfl, by omega, Lib.hid rfl, Below.refl _ _⟩
 case round =>
  obtain ⟨k, m, hk, rfl, rfl, hm', hv, hB⟩ := hrel
  by_cases hlt : k < l.length
  ·
   obtain ⟨b, off, rfl, hc0, _⟩ := ha k hlt
   have hc : wr.cell? ⟨b, off + k, none⟩ = some (.string l[k]) := by rw [hB.cell (World.block_lt_of_cell? w _ hc0)]; exact hc0
   have hbl : b < wr.heap.size := World.block_lt_of_cell? wr _ hc
   have hsn := sizeL_snoc l k hlt
   have htk := sizeL_take l (k + 1)
   have hsz : l[k].size ≤ 140737488351232 := by omega
   have hdl := (dec_len hsz).2
   have hd1 := (dec_len hsz).1
   have hsum : m + ((Lib.decDigits l[k].size).length + 1 + l[k].size) ≤ 1000000000000 := by have := hv.out; omega
   have Hs := Lib.hid hsn
   clear hsn htk hc0
   go_wp2_with fail
   have cQ := Lat.cells wr
   refine wp_region_lat (by kernel_rfl) (by kernel_rfl) ?_
   repeat (any_goals (first | go_big_quiet_skip | (go_big_quiet_want; go_big_quiet_op; first | go_big_quiet_on | go_big_quiet_call (((go_at_call 46; exact Calls.lat (rf_decimal l[k].size hsz _))))) | quiet_step (((go_at_call 46; exact Calls.lat (rf_decimal l[k].size hsz _))))))
   refine wpQuiet_nil ?_
   rintro W2 ⟨⟨_, hb2⟩, rfl⟩
   go_wp2
   go_roundw
   case rel => exact ⟨k + 1, m + ((Lib.decDigits l[k].size).length + 1 + l[k].size), by omega, by go_num, by go_num, hsum, Lib.hid (by rw [Hs.out, hv.out]), btr hB hb2⟩
   case measure => simp [intOf]; omega
  ·
   obtain rfl : k = l.length := by omega
   go_wp2
   go_ret
   exact ⟨by rw [← hv.out, List.take_length]; rfl, hB⟩
set_option maxHeartbeats 2000000 in
theorem rf_stream {S : Nat → Prop} (w : World) (o : Option Addr) (c : Nat) (l : List ByteArray) (ha : StrsAt S w o l) (hm : sizeL l ≤ 1000000000000) (hl : l.length ≤ 140737488351232) :
  Calls Tryz.prog 38 #[.slice o l.length c] w fun e w' => e = .returned (.string (bs (streamL l))) ∧ Below w.heap.size w w' := by
 go_enter Tryz.func38, Tryz.ntmps38
 go_wp2
 go_loopw [3, 4] (fun n i wr => ∃ (k : Nat) (T : ByteArray), k ≤ l.length ∧ i = .int .i64 k ∧ n = .string T ∧ T.size ≤ 1000000000000 ∧ Hid (T = bs (streamL (l.take k))) ∧ Below w.heap.size w wr) (fun _ i _ => l.length - (intOf i).toNat)
 case atStart => exact ⟨0, _, by omega, rfl, rfl, by decide, Lib.hid rfl, Below.refl _ _⟩
 case round =>
  obtain ⟨k, T, hk, rfl, rfl, hm', hv, hB⟩ := hrel
  by_cases hlt : k < l.length
  ·
   obtain ⟨b, off, rfl, hc0, _⟩ := ha k hlt
   have hc : wr.cell? ⟨b, off + k, none⟩ = some (.string l[k]) := by rw [hB.cell (World.block_lt_of_cell? w _ hc0)]; exact hc0
   have hbl : b < wr.heap.size := World.block_lt_of_cell? wr _ hc
   have hsn := sizeL_snoc l k hlt
   have htk := sizeL_take l (k + 1)
   have hsz : l[k].size ≤ 140737488351232 := by omega
   have hdl := (dec_len hsz).2
   have hd1 := (dec_len hsz).1
   have hT : T.size = sizeL (l.take k) := by rw [hv.out, bs_size, streamL_len]
   have hsum : T.size + ((Lib.decDigits l[k].size).length + 1 + l[k].size) ≤ 1000000000000 := by omega
   clear hsn htk hc0 hT
   go_wp2_with fail
   have cQ := Lat.cells wr
   refine wp_region_lat (by kernel_rfl) (by kernel_rfl) ?_
   repeat (any_goals (first | go_big_quiet_skip | (go_big_quiet_want; go_big_quiet_op; first | go_big_quiet_on | go_big_quiet_call (((go_at_call 46; exact Calls.lat (rf_decimal l[k].size hsz _))))) | quiet_step (((go_at_call 46; exact Calls.lat (rf_decimal l[k].size hsz _))))))
   refine wpQuiet_nil ?_
   rintro W2 ⟨⟨_, hb2⟩, rfl⟩
   go_wp2
   go_roundw
   case rel =>
    refine ⟨k + 1, _, by omega, by go_num, rfl, ?_, Lib.hid ?_, btr hB hb2⟩
    ·
     show (T ++ bs (Lib.decDigits l[k].size) ++ bs [58] ++ l[k]).size ≤ 1000000000000
     rw [ByteArray.size_append, ByteArray.size_append, ByteArray.size_append, bs_size (Lib.decDigits l[k].size), show (bs [58]).size = 1 from rfl]
     omega
    ·
     rw [hv.out, streamL_snoc l k hlt]
     unfold recL
     conv => lhs; rw [← bs_of l[k]]
     show bs _ ++ bs _ ++ bs [58] ++ bs _ = _
     rw [bs_app, bs_app, bs_app]
     simp
   case measure => simp [intOf]; omega
  ·
   obtain rfl : k = l.length := by omega
   rw [List.take_length] at hv
   go_wp2
   go_ret
   exact ⟨by rw [← hv.out]; rfl, hB⟩
end Go.Proofs.YtghikgjknhjjgaaGreatDoor
namespace Go.Proofs.YtghikgjknhjjgaaGreatDoor
set_option maxRecDepth 100000
open Go.RowKit
def NoS (cs : Array Value) : Prop := ∀ (k : Nat) (s : ByteArray), cs[k]? ≠ some (.string s)
theorem noS4 {a b : Int} {x y : Value} (hx : ∀ s, x ≠ .string s) (hy : ∀ s, y ≠ .string s) : NoS #[.int .i64 a, x, y, .int .i64 b] := by
 intro k s
 rcases k with _ | _ | _ | _ | k <;> simp <;> first | exact hx s | exact hy s | skip
theorem noS_dC (d : Dsk) (po co : Option Addr) (pc cc : Nat) : NoS (dC d po co pc cc) := noS4 (by simp) (by simp)
abbrev dZ : Array Value := #[.int .i64 0, .slice none 0 0, .slice none 0 0, .int .i64 0]
theorem noS_dZ : NoS dZ := noS4 (by simp) (by simp)
theorem noS_lg (a b c e f : Int) (o1 o2 o3 : Option Addr) (n1 n2 n3 c1 c2 c3 : Nat) : NoS #[.int .i64 a, .slice o1 n1 c1, .slice o2 n2 c2, .int .i64 b, .int .i64 c, .int .i64 e, .int .i64 f, .slice o3 n3 c3] := by
 intro k s
 rcases k with _ | _ | _ | _ | _ | _ | _ | _ | k <;> simp
theorem StrsAt.apart {S : Nat → Prop} {w : World} {o : Option Addr} {l : List ByteArray} {r : Nat} {cs : Array Value} {t : TypeId} (h : StrsAt S w o l) (hx : Bx w r cs t) (hn : NoS cs) : StrsAt (fun b => S b ∧ b ≠ r) w o l := by
 intro i hi
 obtain ⟨b, off, e, hc, hs⟩ := h i hi
 refine ⟨b, off, e, hc, hs, ?_⟩
 rintro rfl
 rw [hx.cell] at hc
 exact hn _ _ hc
theorem PWsAt.apart {S : Nat → Prop} {w : World} {o : Option Addr} {l : List PW} {r : Nat} {cs : Array Value} {t : TypeId} (h : PWsAt S w o l) (hx : Bx w r cs t) (hn : NoS cs) : PWsAt (fun b => S b ∧ b ≠ r) w o l := by
 intro i hi
 obtain ⟨b, off, e, hc, hd, hs⟩ := h i hi
 refine ⟨b, off, e, hc, hd, hs, ?_⟩
 rintro rfl
 rw [hx.cell] at hd
 exact hn _ _ hd
theorem DskR.apart {S : Nat → Prop} {w : World} {v : Value} {d : Dsk} {r : Nat} {cs : Array Value} {t : TypeId} (h : DskR S w v d) (hx : Bx w r cs t) (hn : NoS cs) : DskR (fun b => S b ∧ b ≠ r) w v d := by
 obtain ⟨po, pc, co, cc, e, hp, hc, ok⟩ := h
 exact ⟨po, pc, co, cc, e, hp.apart hx hn, hc.apart hx hn, ok⟩
/-- only block r is another one -/
def Only (r : Nat) (w w' : World) : Prop := w.heap.size ≤ w'.heap.size ∧ ∀ b, b ≠ r → w'.heap[b]? = w.heap[b]?
theorem Only.refl (r : Nat) (w : World) : Only r w w := ⟨Nat.le_refl _, fun _ _ => rfl⟩
theorem Only.set {r : Nat} {w w' : World} (h : Only r w w') (k : Nat) (v : Value) : Only r w (w'.setCell ⟨r, k, none⟩ v) := ⟨by simpa using h.1, fun b hb => (Below.heap_setCell w' ⟨r, k, none⟩ v b hb).trans (h.2 b hb)⟩
theorem Only.one {r k : Nat} {v : Value} {w : World} : Only r w (w.setCell ⟨r, k, none⟩ v) := (Only.refl r w).set k v
theorem Only.four {r : Nat} {v0 v1 v2 v3 : Value} {w : World} : Only r w ((((w.setCell ⟨r, 0, none⟩ v0).setCell ⟨r, 1, none⟩ v1).setCell ⟨r, 2, none⟩ v2).setCell ⟨r, 3, none⟩ v3) := ((((Only.refl r w).set 0 _).set 1 _).set 2 _).set 3 _
def st4 (w : World) (b : Nat) (v0 v1 v2 v3 : Value) : World := (((w.setCell ⟨b, 0, none⟩ v0).setCell ⟨b, 1, none⟩ v1).setCell ⟨b, 2, none⟩ v2).setCell ⟨b, 3, none⟩ v3
theorem only_st4 {w : World} {b : Nat} {v0 v1 v2 v3 : Value} : Only b w (Go.Proofs.YtghikgjknhjjgaaGreatDoor.st4 w b v0 v1 v2 v3) := Only.four
theorem Bx.st4 {w : World} {b : Nat} {u0 u1 u2 u3 v0 v1 v2 v3 : Value} {t : TypeId} (h : Bx w b #[u0, u1, u2, u3] t) : Bx (Go.Proofs.YtghikgjknhjjgaaGreatDoor.st4 w b v0 v1 v2 v3) b #[v0, v1, v2, v3] t := h.set4
theorem below_st4 {B b : Nat} {w w' : World} {v0 v1 v2 v3 : Value} (h : Below B w w') (hb : B ≤ b) : Below B w (Go.Proofs.YtghikgjknhjjgaaGreatDoor.st4 w' b v0 v1 v2 v3) := below_set4 (b := b) h hb
theorem size_st4 (w : World) (b : Nat) (v0 v1 v2 v3 : Value) : (Go.Proofs.YtghikgjknhjjgaaGreatDoor.st4 w b v0 v1 v2 v3).heap.size = w.heap.size := size_set4
theorem Only.eight {r : Nat} {v0 v1 v2 v3 v4 v5 v6 v7 : Value} {w : World} : Only r w (st8 w r v0 v1 v2 v3 v4 v5 v6 v7) := ((((((((Only.refl r w).set 0 _).set 1 _).set 2 _).set 3 _).set 4 _).set 5 _).set 6 _).set 7 _
theorem DskV.only {w w' : World} {v : Value} {d : Dsk} {r : Nat} {cs : Array Value} {t : TypeId} (h : DskV w v d) (hx : Bx w r cs t) (hn : NoS cs) (ho : Only r w w') : DskV w' v d :=
 ((DskR.apart h hx hn).same (w' := w') (fun b hb => ho.2 b hb.2)).mono (fun _b hb => Nat.lt_of_lt_of_le hb.1 ho.1)
theorem StrsAt.only {w w' : World} {o : Option Addr} {l : List ByteArray} {r : Nat} {cs : Array Value} {t : TypeId} (h : StrsAt (· < w.heap.size) w o l) (hx : Bx w r cs t) (hn : NoS cs) (ho : Only r w w') : StrsAt (· < w'.heap.size) w' o l :=
 ((StrsAt.apart h hx hn).same (w' := w') (fun b hb => ho.2 b hb.2)).mono (fun _b hb => Nat.lt_of_lt_of_le hb.1 ho.1)
theorem LgV.only {w w' : World} {v : Value} {l : Lg} {r : Nat} {cs : Array Value} {t : TypeId} (h : LgV w v l) (hx : Bx w r cs t) (hn : NoS cs) (ho : Only r w w') : LgV w' v l := by
 obtain ⟨po, pc, co, cc, ro, rc, e, h1, h2, h3⟩ := h
 exact ⟨po, pc, co, cc, ro, rc, e, h1.only hx hn ho, h2, h3.only hx hn ho⟩
theorem Bx.only {w w' : World} {r b : Nat} {cs : Array Value} {t : TypeId} (h : Bx w b cs t) (ho : Only r w w') (hb : b ≠ r) : Bx w' b cs t := (ho.2 b hb).trans h
theorem Below.only {B r : Nat} {w w' w'' : World} (h : Below B w w') (ho : Only r w' w'') (hos : w''.os = w'.os) (htp : w''.tape = w'.tape) (hou : w''.output = w'.output) (hr : B ≤ r) : Below B w w'' :=
 ⟨hos ▸ h.os, htp ▸ h.tape, hou ▸ h.output, Nat.le_trans h.size ho.1, fun b hb => (ho.2 b (by omega)).trans (h.block b hb)⟩
end Go.Proofs.YtghikgjknhjjgaaGreatDoor
namespace Go.Proofs.YtghikgjknhjjgaaGreatDoor
set_option maxRecDepth 100000
open Go.RowKit Go.Shelf
set_option maxRecDepth 100000 in
set_option maxHeartbeats 1000000 in
theorem pl_Open_bad (d : Dsk) (v : Value) (frm til : Int) (w : World) (hD : DskV w v d) (hf : fitE d frm til ≠ 0) :
  Calls Tryz.prog 23 #[v, .int .i64 frm, .int .i64 til] w (RetLE w zeroL (fitE d frm til)) := by
 have hD0 := hD
 obtain ⟨po, pc, co, cc, rfl⟩ := hD.agg
 obtain ⟨N, hN⟩ : ∃ N, w.heap.size = N := ⟨_, rfl⟩
 obtain ⟨W0, hW0⟩ : ∃ W0, (((w.alloc (.cells (dC d po co pc cc) 25)).alloc (.cells #[.int .i64 frm] 3)).alloc (.cells #[.int .i64 til] 3)).alloc (.cells lgZ 27) = W0 := ⟨_, rfl⟩
 have x0 : Bx W0 N (dC d po co pc cc) 25 := by subst hW0 hN; exact (((Bx.new w _ _).alloc _).alloc _).alloc _
 have x1 : Bx W0 (N + 1) #[.int .i64 frm] 3 := by subst hW0 hN; exact ((Bx.newAt _ _ _ _ (by simp)).alloc _).alloc _
 have x2 : Bx W0 (N + 1 + 1) #[.int .i64 til] 3 := by subst hW0 hN; exact (Bx.newAt _ _ _ _ (by simp)).alloc _
 have x3 : Bx W0 (N + 1 + 1 + 1) lgZ 27 := by subst hW0 hN; exact Bx.newAt _ _ _ _ (by simp)
 have hB0 : Below w.heap.size w W0 := by subst hW0; exact (((Below.one w _).alloc (by simp) _).alloc (by simp; omega) _).alloc (by simp; omega) _
 obtain ⟨n, hn⟩ : ∃ n, 9 ≤ n := ⟨9, Nat.le_refl _⟩
 refine (callsIn_wide (n := n)).1 ?_
 have hro : Fence.wide.round = none := rfl
 have h1 : 1 ≤ n := by omega
 refine callsIn_of_wp_marks Tryz.func23 rfl trivial ?_ hro
 simp only [Tryz.ntmps23, List.size_toArray, List.length_cons, List.length_nil, Nat.reduceAdd, Nat.reduceSub, Array.replicate_succ, Array.replicate_zero, List.push_toArray, List.append_toArray, List.nil_append, List.cons_append]
 obtain ⟨er, her⟩ : ∃ er, fitE d frm til = er := ⟨_, rfl⟩
 rw [her] at hf ⊢
 have hfit := fun W vv (h : DskV W vv d) => by have := pl_fits d vv frm til W h; rw [her] at this; exact this
 have Hfit := Lib.hid hfit
 have c0 := x0.cell
 have c1 := x1.cell 0
 have c2 := x2.cell 0
 have l0 := x0.lt
 simp at c1 c2
 have hne : (er != 0) = true := by simpa using hf
 have hbad : ¬ (er = 0) := hf
 clear hfit hf her
 gi_wp2_with (refine ⟨trivial, ?_⟩; gi_at_call 51; refine (callsIn_wide.2 (Hfit.out _ _ (hD0.below hB0))).mono ?_)
 rintro e w1 ⟨rfl, hb1⟩
 have y3 := x3.belowAll hb1
 have hB1 := btr hB0 hb1
 clear c0 c1 c2 l0 x0 x1 x2 x3 hW0 hb1
 have cX := y3.cell
 have lX := y3.lt
 have fX := y3.free
 obtain ⟨Wf, hWf⟩ : ∃ Wf, st8 w1 (N + 1 + 1 + 1) (.int .i64 0) (.slice none 0 0) (.slice none 0 0) (.int .i64 0) (.int .i64 0) (.int .i64 0) (.int .i64 0) (.slice none 0 0) = Wf := ⟨_, rfl⟩
 have zR : Bx Wf (N + 1 + 1 + 1) lgZ 27 := by subst hWf; exact y3.set8
 have zB : Below w.heap.size w Wf := by subst hWf; exact below_set8 hB1 (by omega)
 have HWf := Lib.hid hWf
 clear hWf
 gi_wp2
 have HW := HWf.out
 unfold st8 at HW
 rw [HW]
 have cZ := zR.cell
 refine ⟨.tuple #[.agg lgZ, .int .i64 er], ?_, ?_⟩
 ·
  simp [results, Tryz.f23, go_sem, cZ]
 ·
  exact ⟨_, rfl, LgV.zero _, zB⟩
theorem pl_Open (d : Dsk) (v : Value) (frm til : Int) (w : World) (hD : DskV w v d) :
  Calls Tryz.prog 23 #[v, .int .i64 frm, .int .i64 til] w (RetLE w (openL d frm til).1 (openL d frm til).2) := by
 by_cases hf : fitE d frm til = 0
 ·
  exact pl_Open_ok d v frm til w hD hf
 ·
  rw [openL_bad hf]
  exact pl_Open_bad d v frm til w hD hf
theorem sl_equal {S T : Nat → Prop} (l m : List ByteArray) (a b : Option Addr) (c d : Nat) (w : World) (ha : StrsAt S w a l) (hb : StrsAt T w b m) (hl : l.length ≤ 9223372036854775807) (hm : m.length ≤ 9223372036854775807) :
  Calls Tryz.prog 63 #[.slice a l.length c, .slice b m.length d] w fun e w' => e = .returned (.bool (decide (l = m))) ∧ Below w.heap.size w w' := by
 by_cases hlm : l.length = m.length
 ·
  cases l with
  | nil =>
   have hm0 : m = [] := List.eq_nil_of_length_eq_zero (by simpa using hlm.symm)
   subst hm0
   refine (Tryz.slices_Equal_string_empty a b c 0 d w (by omega)).mono ?_
   rintro e w' ⟨rfl, rfl⟩
   exact ⟨rfl, Below.refl _ _⟩
  | cons x l =>
   obtain ⟨b1, o1, rfl, _⟩ := ha 0 (by simp)
   obtain ⟨b2, o2, rfl, _⟩ := hb 0 (by rw [← hlm]; simp)
   refine (Tryz.slices_Equal_string b1 o1 _ c b2 o2 _ d (x :: l) m w (Nat.le_refl _) (Nat.le_refl _) hl hm (fun j hj => ?_) (fun j hj => ?_)).mono ?_
   ·
    obtain ⟨b, off, e, hc, _⟩ := ha j hj
    obtain ⟨rfl, rfl⟩ : b1 = b ∧ o1 = off := by simpa using e
    rw [hc, List.getD, List.getElem?_eq_getElem hj, Option.getD_some]
   ·
    obtain ⟨b, off, e, hc, _⟩ := hb j hj
    obtain ⟨rfl, rfl⟩ : b2 = b ∧ o2 = off := by simpa using e
    rw [hc, List.getD, List.getElem?_eq_getElem hj, Option.getD_some]
   ·
    rintro e w' ⟨rfl, q, rfl⟩
    rw [List.take_length, List.take_length]
    exact ⟨rfl, Below.drewN (Below.refl _ _) q⟩
 ·
  refine (Tryz.slices_Equal_string_lens a b _ c _ d w hlm).mono ?_
  rintro e w' ⟨rfl, rfl⟩
  refine ⟨?_, Below.refl _ _⟩
  rw [decide_eq_false]
  intro e
  exact hlm (by rw [e])
theorem slw_len {o : Option Addr} {n c : Nat} (h : SlW o n c) : n ≤ 9223372036854775807 := by
 rcases h with ⟨_, rfl, _⟩ | ⟨_, _, h1, h2⟩
 ·
  omega
 ·
  unfold maxLen at h2; omega
set_option maxRecDepth 100000 in
set_option maxHeartbeats 1000000 in
theorem pl_valid (l : Lg) (v : Value) (w : World) (hL : LgV w v l) :
  Calls Tryz.prog 26 #[v] w fun e w' => e = .returned (.bool (validL l)) ∧ Below w.heap.size w w' := by
 obtain ⟨po, pc, co, cc, ro, rc, rfl, hD, hsl, hst⟩ := hL
 obtain ⟨N, hN⟩ : ∃ N, w.heap.size = N := ⟨_, rfl⟩
 obtain ⟨W0, hW0⟩ : ∃ W0, w.alloc (.cells (lgC l.disk po co pc cc l.frm l.til l.ver ro l.recs.length rc) 27) = W0 := ⟨_, rfl⟩
 have x0 : Bx W0 N (lgC l.disk po co pc cc l.frm l.til l.ver ro l.recs.length rc) 27 := by subst hW0 hN; exact Bx.new w _ _
 have hB0 : Below w.heap.size w W0 := by subst hW0; exact Below.one w _
 obtain ⟨X, er, he⟩ : ∃ X er, openL l.disk l.frm l.til = (X, er) := ⟨_, _, rfl⟩
 have hval : validL l = (decide (er = 0) && decide (X.ver = l.ver) && decide (X.recs = l.recs)) := by unfold validL; rw [he]
 have ho := pl_Open l.disk _ l.frm l.til W0 (hD.below hB0)
 rw [he] at ho
 rw [hval]
 have Ho := Lib.hid ho
 clear ho he hval
 have c0 := x0.cell
 have l0 := x0.lt
 go_enter Tryz.func26, Tryz.ntmps26
 go_wp2_with fail
 refine Ho.out.mono ?_
 rintro e w1 ⟨v1, rfl, hX, hb1⟩
 obtain ⟨po1, pc1, co1, cc1, ro1, rc1, rfl, hD1, hsl1, hst1⟩ := hX
 have y0 := x0.belowAll hb1
 have hB1 := btr hB0 hb1
 clear c0 l0
 have c0 := y0.cell
 have l0 := y0.lt
 have hz := hB1.size
 have heq := fun W (hb : Below w1.heap.size w1 W) => sl_equal X.recs l.recs ro1 ro rc1 rc W (hst1.below hb) (hst.below (btr hB1 hb)) (slw_len hsl1) (slw_len hsl)
 have Heq := Lib.hid heq
 clear heq hst1 hst hsl hsl1 hD hD1
 cases g1 : (er == 0)
 ·
  have e1 : er ≠ 0 := by simpa using g1
  go_wp2
  go_ret
  exact ⟨by simp [e1], hB1.alloc (by omega) _⟩
 ·
  have e1 : er = 0 := by simpa using g1
  cases g2 : (X.ver == l.ver)
  ·
   have e2 : X.ver ≠ l.ver := by simpa using g2
   go_wp2
   go_ret
   exact ⟨by simp [e2], hB1.alloc (by omega) _⟩
  ·
   have e2 : X.ver = l.ver := by simpa using g2
   go_wp2_with fail
   refine (Heq.out _ (Below.one _ _)).mono ?_
   rintro e w2 ⟨rfl, hb2⟩
   go_wp2
   go_ret
   exact ⟨by simp [e1, e2], btr (hB1.alloc (by omega) _) hb2⟩
end Go.Proofs.YtghikgjknhjjgaaGreatDoor
namespace Go.Proofs.YtghikgjknhjjgaaGreatDoor
set_option maxRecDepth 100000
open Go.RowKit Go.Shelf
theorem take_step {l m : List ByteArray} {k : Nat} (h : k < l.length) (h' : k < m.length) (e : l.take k = m.take k) (x : l[k] = m[k]) : l.take (k + 1) = m.take (k + 1) := by
 rw [List.take_succ_eq_append_getElem h, List.take_succ_eq_append_getElem h', e, x]
set_option maxHeartbeats 800000 in
theorem rf_same {S T : Nat → Prop} (l m : List ByteArray) (a b : Option Addr) (c d : Nat) (w : World) (ha : StrsAt S w a l) (hb : StrsAt T w b m) (hl : l.length ≤ 9223372036854775807) (hm : m.length ≤ 9223372036854775807) :
  Calls Tryz.prog 44 #[.slice a l.length c, .slice b m.length d] w fun e w' => e = .returned (.bool (decide (l = m))) ∧ Below w.heap.size w w' := by
 obtain ⟨r, hr⟩ : ∃ r, decide (l = m) = r := ⟨_, rfl⟩
 rw [hr]
 cases g : ((l.length : Int) != (m.length : Int))
 ·
  have hlm : l.length = m.length := by have := g; simp at this; omega
  go_enter Tryz.func44, Tryz.ntmps44
  go_wp2
  go_loopw [5] (fun i wr => ∃ (k : Nat), k ≤ l.length ∧ i = .int .i64 k ∧ l.take k = m.take k ∧ Below w.heap.size w wr) (fun i _ => l.length - (intOf i).toNat)
  case atStart => exact ⟨0, Nat.zero_le _, rfl, by simp, Below.refl _ _⟩
  case round =>
   obtain ⟨k, hk, rfl, hq0, hB⟩ := hrel
   by_cases hlt : k < l.length
   ·
    have hlt' : k < m.length := by omega
    obtain ⟨ba, offa, rfl, hcell0, _⟩ := ha k hlt
    obtain ⟨bb, offb, rfl, hcell0', _⟩ := hb k hlt'
    have hcell : wr.cell? ⟨ba, offa + k, none⟩ = some (.string l[k]) := by rw [hB.cell (World.block_lt_of_cell? w _ hcell0)]; exact hcell0
    have hcell' : wr.cell? ⟨bb, offb + k, none⟩ = some (.string m[k]) := by rw [hB.cell (World.block_lt_of_cell? w _ hcell0')]; exact hcell0'
    clear hcell0 hcell0'
    cases hs : (l[k].toList == m[k].toList)
    ·
     have hres : Hid (r = false) := by
      unfold Hid
      rw [← hr, decide_eq_false]
      intro e
      subst e
      simp at hs
     clear hlm hq0
     go_wp2
     go_quiet (fail)
     go_wp2
     go_ret
     exact ⟨by rw [hres.out]; rfl, Below.drewN hB _⟩
    ·
     have hst := Lib.hid (take_step hlt hlt' hq0 (toList_injB (by simpa using hs)))
     clear hlm hq0
     go_wp2
     go_quiet (fail)
     go_wp2
     go_roundw
     case rel => exact ⟨k + 1, by omega, by go_num, hst.out, Below.drewN hB _⟩
     case measure => simp [intOf]; omega
   ·
    have hres : Hid (r = true) := by
     unfold Hid
     rw [← hr, decide_eq_true]
     rw [List.take_of_length_le (by omega), List.take_of_length_le (by omega)] at hq0
     exact hq0
    clear hlm hq0
    go_wp2
    go_ret
    exact ⟨by rw [hres.out]; rfl, hB⟩
 ·
  have hres : Hid (r = false) := by
   unfold Hid
   rw [← hr, decide_eq_false]
   intro e
   subst e
   simp at g
  go_enter Tryz.func44, Tryz.ntmps44
  go_wp2
  go_ret
  exact ⟨by rw [hres.out]; rfl, Below.refl _ _⟩
set_option maxRecDepth 100000 in
set_option maxHeartbeats 1000000 in
theorem rf_Valid (l : Lg) (v : Value) (w : World) (hL : LgV w v l) :
  Calls Tryz.prog 36 #[v] w fun e w' => e = .returned (.bool (validL l)) ∧ Below w.heap.size w w' := by
 obtain ⟨po, pc, co, cc, ro, rc, rfl, hD, hsl, hst⟩ := hL
 obtain ⟨N, hN⟩ : ∃ N, w.heap.size = N := ⟨_, rfl⟩
 obtain ⟨W0, hW0⟩ : ∃ W0, w.alloc (.cells (lgC l.disk po co pc cc l.frm l.til l.ver ro l.recs.length rc) 27) = W0 := ⟨_, rfl⟩
 have x0 : Bx W0 N (lgC l.disk po co pc cc l.frm l.til l.ver ro l.recs.length rc) 27 := by subst hW0 hN; exact Bx.new w _ _
 have hB0 : Below w.heap.size w W0 := by subst hW0; exact Below.one w _
 obtain ⟨X, er, he⟩ : ∃ X er, openL l.disk l.frm l.til = (X, er) := ⟨_, _, rfl⟩
 have hval : validL l = (decide (er = 0) && decide (X.ver = l.ver) && decide (X.recs = l.recs)) := by unfold validL; rw [he]
 have ho := rf_Open l.disk _ l.frm l.til W0 (hD.below hB0)
 rw [he] at ho
 rw [hval]
 have Ho := Lib.hid ho
 clear ho he hval
 have c0 := x0.cell
 have l0 := x0.lt
 go_enter Tryz.func36, Tryz.ntmps36
 go_wp2_with fail
 refine Ho.out.mono ?_
 rintro e w1 ⟨v1, rfl, hX, hb1⟩
 obtain ⟨po1, pc1, co1, cc1, ro1, rc1, rfl, hD1, hsl1, hst1⟩ := hX
 have y0 := x0.belowAll hb1
 have hB1 := btr hB0 hb1
 clear c0 l0
 have c0 := y0.cell
 have l0 := y0.lt
 have hz := hB1.size
 have heq := fun W (hb : Below w1.heap.size w1 W) => rf_same X.recs l.recs ro1 ro rc1 rc W (hst1.below hb) (hst.below (btr hB1 hb)) (slw_len hsl1) (slw_len hsl)
 have Heq := Lib.hid heq
 clear heq hst1 hst hsl hsl1 hD hD1
 cases g1 : (er == 0)
 ·
  have e1 : er ≠ 0 := by simpa using g1
  go_wp2
  go_ret
  exact ⟨by simp [e1], hB1.alloc (by omega) _⟩
 ·
  have e1 : er = 0 := by simpa using g1
  cases g2 : (X.ver == l.ver)
  ·
   have e2 : X.ver ≠ l.ver := by simpa using g2
   go_wp2
   go_ret
   exact ⟨by simp [e2], hB1.alloc (by omega) _⟩
  ·
   have e2 : X.ver = l.ver := by simpa using g2
   go_wp2_with fail
   refine (Heq.out _ (Below.one _ _)).mono ?_
   rintro e w2 ⟨rfl, hb2⟩
   go_wp2
   go_ret
   exact ⟨by simp [e1, e2], btr (hB1.alloc (by omega) _) hb2⟩
theorem validL_parts {l : Lg} (h : validL l = true) : fitE l.disk l.frm l.til = 0 ∧ (headL l.disk l.frm l.til).1 ≠ 0 ∧ l.ver = (headL l.disk l.frm l.til).1 ∧ recsOf ((areaL l.disk l.frm l.til).take (headL l.disk l.frm l.til).2) = some l.recs := by
 unfold validL at h
 simp only [Bool.and_eq_true, decide_eq_true_eq] at h
 obtain ⟨⟨h1, h2⟩, h3⟩ := h
 by_cases hf : fitE l.disk l.frm l.til = 0
 ·
  by_cases hv : (headL l.disk l.frm l.til).1 = 0
  ·
   rw [openL_nohead hf hv] at h1; cases h1
  ·
   cases hr : recsOf ((areaL l.disk l.frm l.til).take (headL l.disk l.frm l.til).2) with
   | none => rw [openL_norecs hf hv hr] at h1; cases h1
   | some rs =>
    rw [openL_ok hf hv hr] at h2 h3
    exact ⟨hf, hv, h2.symm, congrArg some h3⟩
 ·
  rw [openL_bad hf] at h1; exact absurd h1 hf
/-- a valid log's records are those of the area: their size is what its header says -/
theorem valid_size {l : Lg} (h : validL l = true) : sizeL l.recs = (headL l.disk l.frm l.til).2 ∧ (sizeL l.recs : Int) ≤ areaN l.disk l.frm l.til ∧ streamL l.recs = (areaL l.disk l.frm l.til).take (sizeL l.recs) ∧ ∀ s ∈ l.recs, s.size ≤ 65536 := by
 obtain ⟨h1, h2, h3, h4⟩ := validL_parts h
 obtain ⟨e, hz⟩ := recsOf_stream h4
 have hb := (headL_bd l.disk l.frm l.til).2.2 h2
 have hs : sizeL l.recs = (headL l.disk l.frm l.til).2 := by
  rw [← streamL_len, e, List.length_take]
  have := areaL_len h1
  omega
 exact ⟨hs, by omega, by rw [hs]; exact e, hz⟩
theorem recs_len_size (l : List ByteArray) : 2 * l.length ≤ sizeL l := by
 induction l with
 | nil => simp [sizeL]
 | cons x l ih =>
  have e' : sizeL (x :: l) = ((Lib.decDigits x.size).length + 1 + x.size) + sizeL l := by simp [sizeL]
  have := Lib.decDigits_length x.size
  have := Lib.nDigits_pos x.size
  rw [e']
  simp
  omega
theorem valid_bd {l : Lg} (h : validL l = true) : sizeL l.recs ≤ 1024000 ∧ l.recs.length ≤ 1024000 := by
 have h1 := (valid_size h).2.1
 have h2 := (area_bd (validL_parts h).1).2.1
 have h3 := recs_len_size l.recs
 omega
set_option maxRecDepth 100000 in
set_option maxHeartbeats 1000000 in
theorem pl_Room (l : Lg) (v : Value) (w : World) (hL : LgV w v l) (hT : TabW w) :
  Calls Tryz.prog 13 #[v] w fun e w' => e = .returned (.int .i64 (roomL l)) ∧ Below w.heap.size w w' := by
 have hL0 := hL
 obtain ⟨po, pc, co, cc, ro, rc, rfl, hD, hsl, hst⟩ := hL
 obtain ⟨N, hN⟩ : ∃ N, w.heap.size = N := ⟨_, rfl⟩
 obtain ⟨W0, hW0⟩ : ∃ W0, w.alloc (.cells (lgC l.disk po co pc cc l.frm l.til l.ver ro l.recs.length rc) 27) = W0 := ⟨_, rfl⟩
 have x0 : Bx W0 N (lgC l.disk po co pc cc l.frm l.til l.ver ro l.recs.length rc) 27 := by subst hW0 hN; exact Bx.new w _ _
 have hB0 : Below w.heap.size w W0 := by subst hW0; exact Below.one w _
 have hv := pl_valid l _ W0 (hL0.below hB0)
 unfold roomL
 cases g : validL l
 ·
  rw [g] at hv
  have Hv := Lib.hid hv
  clear hv g
  have c0 := x0.cell
  have l0 := x0.lt
  go_enter Tryz.func13, Tryz.ntmps13
  go_wp2_with fail
  refine Hv.out.mono ?_
  rintro e w1 ⟨rfl, hb1⟩
  go_wp2
  go_ret
  exact ⟨rfl, by first | exact btr hB0 hb1 | (rw [← hN]; exact btr hB0 hb1)⟩
 ·
  rw [g] at hv
  have hbd := valid_bd g
  have hf := (validL_parts g).1
  have hab := area_bd hf
  have Hv := Lib.hid hv
  have hA := fun W (hb : Below w.heap.size w W) => pl_area l.disk _ l.frm l.til W hf (hD.below hb)
  have hS := fun W (hb : Below w.heap.size w W) => pl_Size W ro rc l.recs (hst.below hb) (by omega) (hT.below hb) (by omega)
  obtain ⟨a, ha⟩ : ∃ a, areaN l.disk l.frm l.til = a := ⟨_, rfl⟩
  obtain ⟨s, hs⟩ : ∃ s, sizeL l.recs = s := ⟨_, rfl⟩
  rw [ha] at hA hab
  rw [hs] at hS hbd
  rw [ha, hs]
  have HA := Lib.hid hA
  have HS := Lib.hid hS
  have Hab := Lib.hid hab
  have Hbd := Lib.hid hbd
  have hsub : IntKind.i64.wrap (a - (s : Int)) = a - s := IntWalk.i64_in _ (by have := Hab.out; have := Hbd.out; omega)
  clear hv g hA hS hab hbd hf ha hs hD hL0
  have c0 := x0.cell
  have l0 := x0.lt
  go_enter Tryz.func13, Tryz.ntmps13
  go_wp2_with fail
  refine Hv.out.mono ?_
  rintro e w1 ⟨rfl, hb1⟩
  have y0 := x0.belowAll hb1
  have hB1 := btr hB0 hb1
  clear c0 l0
  have c0 := y0.cell
  have l0 := y0.lt
  have cQ := Lat.cells w1
  have hLB : ∀ x : Lat w1, Below w.heap.size w x.w := fun x => btr hB1 x.h
  go_wp2
  refine wp_region_lat (by kernel_rfl) (by kernel_rfl) ?_
  repeat (any_goals (first | go_big_quiet_skip | (go_big_quiet_want; go_big_quiet_op; first | go_big_quiet_on | go_big_quiet_call ((first | (go_at_call 29; exact Calls.lat (HA.out _ (hLB _))) | (go_at_call 15; exact Calls.lat (HS.out _ (hLB _)))))) | quiet_step ((first | (go_at_call 29; exact Calls.lat (HA.out _ (hLB _))) | (go_at_call 15; exact Calls.lat (HS.out _ (hLB _)))))))
  refine wpQuiet_nil ?_
  rintro W9 ⟨⟨_, hb9⟩, rfl⟩
  go_wp2
  go_ret
  exact ⟨rfl, by first | exact btr hB1 hb9 | (rw [← hN]; exact btr hB1 hb9)⟩
set_option maxRecDepth 100000 in
set_option maxHeartbeats 1000000 in
theorem rf_Room (l : Lg) (v : Value) (w : World) (hL : LgV w v l) :
  Calls Tryz.prog 14 #[v] w fun e w' => e = .returned (.int .i64 (roomL l)) ∧ Below w.heap.size w w' := by
 have hL0 := hL
 obtain ⟨po, pc, co, cc, ro, rc, rfl, hD, hsl, hst⟩ := hL
 obtain ⟨N, hN⟩ : ∃ N, w.heap.size = N := ⟨_, rfl⟩
 obtain ⟨W0, hW0⟩ : ∃ W0, w.alloc (.cells (lgC l.disk po co pc cc l.frm l.til l.ver ro l.recs.length rc) 27) = W0 := ⟨_, rfl⟩
 have x0 : Bx W0 N (lgC l.disk po co pc cc l.frm l.til l.ver ro l.recs.length rc) 27 := by subst hW0 hN; exact Bx.new w _ _
 have hB0 : Below w.heap.size w W0 := by subst hW0; exact Below.one w _
 have hv := rf_Valid l _ W0 (hL0.below hB0)
 unfold roomL
 cases g : validL l
 ·
  rw [g] at hv
  have Hv := Lib.hid hv
  clear hv g
  have c0 := x0.cell
  have l0 := x0.lt
  go_enter Tryz.func14, Tryz.ntmps14
  go_wp2_with fail
  refine Hv.out.mono ?_
  rintro e w1 ⟨rfl, hb1⟩
  go_wp2
  go_ret
  exact ⟨rfl, by first | exact btr hB0 hb1 | (rw [← hN]; exact btr hB0 hb1)⟩
 ·
  rw [g] at hv
  have hbd := valid_bd g
  have hf := (validL_parts g).1
  have hab := area_bd hf
  have hfz := fitE_zero hf
  have hrg := rangedB_true (chk_zero hfz.1).1
  have Hv := Lib.hid hv
  have hS := fun W (hb : Below w.heap.size w W) => rf_Size W ro rc l.recs (hst.below hb) (by omega) (by omega)
  obtain ⟨a, ha⟩ : ∃ a, (l.til - l.frm - 2) * l.disk.size = a := ⟨_, rfl⟩
  obtain ⟨s, hs⟩ : ∃ s, sizeL l.recs = s := ⟨_, rfl⟩
  have ha' : areaN l.disk l.frm l.til = a := ha
  rw [ha'] at hab
  rw [hs] at hS hbd
  rw [ha', hs]
  have HS := Lib.hid hS
  have Hab := Lib.hid hab
  have Hbd := Lib.hid hbd
  have hw1 : IntKind.i64.wrap (l.til - l.frm) = l.til - l.frm := IntWalk.i64_in _ (by omega)
  have hw2 : IntKind.i64.wrap (l.til - l.frm - 2) = l.til - l.frm - 2 := IntWalk.i64_in _ (by omega)
  have hw3 : IntKind.i64.wrap ((l.til - l.frm - 2) * l.disk.size) = a := by rw [ha]; exact IntWalk.i64_in _ (by omega)
  have hsub : IntKind.i64.wrap (a - (s : Int)) = a - s := IntWalk.i64_in _ (by have := Hab.out; have := Hbd.out; omega)
  clear hv g hS hab hbd hf ha hs hD hL0 ha' hfz hrg
  have c0 := x0.cell
  have l0 := x0.lt
  go_enter Tryz.func14, Tryz.ntmps14
  go_wp2_with fail
  refine Hv.out.mono ?_
  rintro e w1 ⟨rfl, hb1⟩
  have y0 := x0.belowAll hb1
  have hB1 := btr hB0 hb1
  clear c0 l0
  have c0 := y0.cell
  have l0 := y0.lt
  have cQ := Lat.cells w1
  have hLB : ∀ x : Lat w1, Below w.heap.size w x.w := fun x => btr hB1 x.h
  go_wp2
  refine wp_region_lat (by kernel_rfl) (by kernel_rfl) ?_
  repeat (any_goals (first | go_big_quiet_skip | (go_big_quiet_want; go_big_quiet_op; first | go_big_quiet_on | go_big_quiet_call (((go_at_call 16; exact Calls.lat (HS.out _ (hLB _)))))) | quiet_step (((go_at_call 16; exact Calls.lat (HS.out _ (hLB _)))))))
  refine wpQuiet_nil ?_
  rintro W9 ⟨⟨_, hb9⟩, rfl⟩
  go_wp2
  go_ret
  exact ⟨rfl, by first | exact btr hB1 hb9 | (rw [← hN]; exact btr hB1 hb9)⟩
set_option maxRecDepth 100000 in
set_option maxHeartbeats 1000000 in
theorem rf_SameL (l : Lg) (va vb : Value) (w : World) (hA : LgV w va l) (hB : LgV w vb l) :
  Calls Tryz.prog 12 #[va, vb] w fun e w' => e = .returned (.bool true) ∧ Below w.heap.size w w' := by
 obtain ⟨po, pc, co, cc, ro, rc, rfl, hD, hsl, hst⟩ := hA
 obtain ⟨po', pc', co', cc', ro', rc', rfl, hD', hsl', hst'⟩ := hB
 obtain ⟨N, hN⟩ : ∃ N, w.heap.size = N := ⟨_, rfl⟩
 obtain ⟨W0, hW0⟩ : ∃ W0, (w.alloc (.cells (lgC l.disk po co pc cc l.frm l.til l.ver ro l.recs.length rc) 27)).alloc (.cells (lgC l.disk po' co' pc' cc' l.frm l.til l.ver ro' l.recs.length rc') 27) = W0 := ⟨_, rfl⟩
 have x0 : Bx W0 N (lgC l.disk po co pc cc l.frm l.til l.ver ro l.recs.length rc) 27 := by subst hW0 hN; exact (Bx.new w _ _).alloc _
 have x1 : Bx W0 (N + 1) (lgC l.disk po' co' pc' cc' l.frm l.til l.ver ro' l.recs.length rc') 27 := by subst hW0 hN; exact Bx.newAt _ _ _ _ (by simp)
 have hB0 : Below w.heap.size w W0 := by subst hW0; exact (Below.one w _).alloc (by simp) _
 have hsame := v_same l.disk _ _ W0 (hD.below hB0) (hD'.below hB0)
 have heq := fun W (hb : Below w.heap.size w W) => rf_same l.recs l.recs ro ro' rc rc' W (hst.below hb) (hst'.below hb) (slw_len hsl) (slw_len hsl)
 have Hs := Lib.hid hsame
 have He := Lib.hid heq
 clear hsame heq hD hD' hst hst' hsl hsl'
 have c0 := x0.cell
 have l0 := x0.lt
 have c1 := x1.cell
 have l1 := x1.lt
 go_enter Tryz.func12, Tryz.ntmps12
 go_wp2_with fail
 refine Hs.out.mono ?_
 rintro e w1 ⟨rfl, hb1⟩
 have y0 := x0.belowAll hb1
 have y1 := x1.belowAll hb1
 have hB1 := btr hB0 hb1
 clear c0 l0 c1 l1
 have c0 := y0.cell
 have l0 := y0.lt
 have c1 := y1.cell
 have l1 := y1.lt
 go_wp2_with fail
 refine (He.out _ hB1).mono ?_
 rintro e w2 ⟨rfl, hb2⟩
 go_wp2
 go_ret
 exact ⟨by simp, by first | exact btr hB1 hb2 | (rw [← hN]; exact btr hB1 hb2)⟩
/-- whether a log is larger than the statements use -/
def greatLg (l : Lg) : Bool := greatW l.disk.pages l.disk.cache || decide (40 < (l.recs.length : Int)) || decide (2000 < wsum l.recs 0)
set_option maxRecDepth 100000 in
set_option maxHeartbeats 1000000 in
theorem rf_GreatL (l : Lg) (v : Value) (w : World) (hL : LgV w v l) :
  Calls Tryz.prog 5 #[v] w fun e w' => e = .returned (.bool (greatLg l)) ∧ Below w.heap.size w w' := by
 obtain ⟨po, pc, co, cc, ro, rc, rfl, hD, hsl, hst⟩ := hL
 obtain ⟨N, hN⟩ : ∃ N, w.heap.size = N := ⟨_, rfl⟩
 have hlen := slw_len hsl
 obtain ⟨gr, hgr⟩ : ∃ gr, greatW l.disk.pages l.disk.cache = gr := ⟨_, rfl⟩
 have hgreat := fun W (hb : Below w.heap.size w W) => v_great l.disk _ W (hD.below hb) hgr
 have Hg := Lib.hid hgreat
 unfold greatLg
 rw [hgr]
 clear hgreat hD hsl hgr
 go_enter Tryz.func5, Tryz.ntmps5
 go_wp2
 have x0 : Bx (w.alloc (.cells (lgC l.disk po co pc cc l.frm l.til l.ver ro l.recs.length rc) 27)) N (lgC l.disk po co pc cc l.frm l.til l.ver ro l.recs.length rc) 27 := by subst hN; exact Bx.new w _ _
 have hB0 : Below w.heap.size w (w.alloc (.cells (lgC l.disk po co pc cc l.frm l.til l.ver ro l.recs.length rc) 27)) := Below.one w _
 generalize (w.alloc (.cells (lgC l.disk po co pc cc l.frm l.til l.ver ro l.recs.length rc) 27)) = W0 at *
 go_loopw [3, 4] (fun n i wr => ∃ (k : Nat) (m : Int), k ≤ l.recs.length ∧ n = .int .i64 m ∧ i = .int .i64 k ∧ wsum (l.recs.drop k) m = wsum l.recs 0 ∧ Below w.heap.size w wr ∧ Bx wr N (lgC l.disk po co pc cc l.frm l.til l.ver ro l.recs.length rc) 27) (fun _ i _ => l.recs.length - (intOf i).toNat)
 case atStart => exact ⟨0, 0, Nat.zero_le _, rfl, rfl, rfl, hB0, x0⟩
 case round =>
  clear x0 hB0
  obtain ⟨k, m, hk, rfl, rfl, hq0, hB, xX⟩ := hrel
  have hq := Lib.hid hq0
  clear hq0
  have cX := xX.cell
  have lX := xX.lt
  by_cases hlt : k < l.recs.length
  ·
   obtain ⟨b, off, rfl, hcell0, _⟩ := hst k hlt
   have hcell : wr.cell? ⟨b, off + k, none⟩ = some (.string l.recs[k]) := by rw [hB.cell (World.block_lt_of_cell? w _ hcell0)]; exact hcell0
   clear hcell0
   go_wp2
   go_roundw
   case rel => exact ⟨k + 1, _, by omega, rfl, by go_num, by rw [← wsum_step hlt m]; exact hq.out, hB, xX⟩
   case measure => simp [intOf]; omega
  ·
   have hP : Hid (wsum l.recs 0 = m) := by rw [Hid, ← hq.out, List.drop_of_length_le (by omega)]; rfl
   clear hq
   go_wp2_with fail
   refine (Hg.out _ hB).mono ?_
   rintro e w1 ⟨rfl, hb1⟩
   have y0 := xX.belowAll hb1
   have hB1 := btr hB hb1
   clear cX lX
   have c0 := y0.cell
   have l0 := y0.lt
   cases gr with
   | true =>
    go_wp2
    go_ret
    exact ⟨by simp, by first | exact hB1 | (rw [← hN]; exact hB1)⟩
   | false =>
    cases g2 : decide (40 < (l.recs.length : Int))
    ·
     go_wp2
     go_ret
     exact ⟨by rw [hP.out, g2]; simp, by first | exact hB1 | (rw [← hN]; exact hB1)⟩
    ·
     go_wp2
     go_ret
     exact ⟨by rw [g2]; simp, by first | exact hB1 | (rw [← hN]; exact hB1)⟩
end Go.Proofs.YtghikgjknhjjgaaGreatDoor
namespace Go.Proofs.YtghikgjknhjjgaaGreatDoor
set_option maxRecDepth 100000
open Go.RowKit
theorem be_num8 {n : Nat} (h : n ≤ 1099511627776) : be (num8 n) = n := by
 unfold be num8
 simp only [List.foldl_cons, List.foldl_nil, UInt8.toNat_ofNat']
 omega
theorem num8_len (n : Nat) : (num8 n).length = 8 := rfl
theorem hdrL_len {z v n : Nat} (hz : 24 ≤ z) : (hdrL z v n).length = z := by unfold hdrL; simp [num8_len]; omega
theorem hdrL_v (z v n : Nat) : (hdrL z v n).take 8 = num8 v := by
 unfold hdrL
 rw [List.append_assoc, List.append_assoc]
 exact List.take_left' (num8_len v)
theorem hdrL_n (z v n : Nat) : ((hdrL z v n).drop 8).take 8 = num8 n := by
 unfold hdrL
 rw [List.append_assoc, List.append_assoc, List.drop_left' (num8_len v)]
 exact List.take_left' (num8_len n)
theorem hdrL_tail {z v n : Nat} (hz : 24 ≤ z) : (hdrL z v n).drop (z - 8) = num8 v := by
 unfold hdrL
 exact List.drop_left' (by simp [num8_len]; omega)
theorem hdrP_mk {z V n k : Nat} {a : Int} (hz : 24 ≤ z) (h1 : 1 ≤ V) (h2 : V ≤ 1099511627776) (h3 : V % 2 = k) (h4 : (n : Int) ≤ a) (h5 : n ≤ 1099511627776) : hdrP (hdrL z V n) k a = some (V, n) := by
 unfold hdrP
 rw [hdrL_v, hdrL_n, be_num8 h2, be_num8 h5, hdrL_len hz, if_pos ⟨h1, h2, h3, h4, h5, rfl⟩]
/-- a page that holds no later header -/
def OldH (z V : Nat) (p : List UInt8) : Prop := p.length = z ∧ p.take 7 = List.replicate 7 0 ∧ (p.drop (z - 8)).take 7 = List.replicate 7 0 ∧ (p.getD (z - 1) 0).toNat < V
theorem num8_small {v : Nat} (h : v < 256) : num8 v = List.replicate 7 0 ++ [UInt8.ofNat v] := by
 unfold num8
 rw [Nat.div_eq_of_lt (by omega), Nat.div_eq_of_lt (by omega), Nat.div_eq_of_lt (by omega), Nat.div_eq_of_lt (by omega), Nat.div_eq_of_lt (by omega), Nat.div_eq_of_lt (by omega), Nat.div_eq_of_lt h]
 rfl
theorem getD_drop {p : List UInt8} {a j : Nat} : (p.drop a).getD j 0 = p.getD (a + j) 0 := by simp [List.getD]
theorem hdrP_old {z V k v n : Nat} {a : Int} {p : List UInt8} (hz : 24 ≤ z) (h : OldH z V p) (hp : hdrP p k a = some (v, n)) : v < V := by
 obtain ⟨h1, h2, h3, h4⟩ := h
 obtain ⟨q1, q2, q3, q4, q5, q6, q7, q8⟩ := hdrP_some hp
 have e8 : p.take 8 = num8 v := by rw [q8, hdrL_v]
 have e7 : (num8 v).take 7 = List.replicate 7 0 := by rw [← e8, List.take_take]; exact h2
 have hv : v < 256 := by
  have hb : be (num8 v) = v := be_num8 q4
  have hs : num8 v = (num8 v).take 7 ++ [UInt8.ofNat v] := rfl
  rw [hs, e7] at hb
  have hc : be (List.replicate 7 0 ++ [UInt8.ofNat v]) = (UInt8.ofNat v).toNat := by simp [be, List.replicate]
  rw [hc, UInt8.toNat_ofNat'] at hb
  omega
 have et : p.drop (z - 8) = num8 v := by rw [q8, h1, hdrL_tail hz]
 have : p.getD (z - 1) 0 = UInt8.ofNat v := by
  have := getD_drop (p := p) (a := z - 8) (j := 7)
  rw [et, show z - 8 + 7 = z - 1 by omega] at this
  rw [← this]
  rfl
 rw [this, UInt8.toNat_ofNat'] at h4
 omega
theorem hdr_old {z V n : Nat} (hz : 24 ≤ z) (hV : V < 256) : OldH z (V + 1) (hdrL z V n) := by
 refine ⟨hdrL_len hz, ?_, ?_, ?_⟩
 ·
  have : (hdrL z V n).take 7 = ((hdrL z V n).take 8).take 7 := by rw [List.take_take, Nat.min_eq_left (by omega)]
  rw [this, hdrL_v, num8_small hV]; rfl
 ·
  rw [hdrL_tail hz, num8_small hV]; rfl
 ·
  have := getD_drop (p := hdrL z V n) (a := z - 8) (j := 7)
  rw [hdrL_tail hz, show z - 8 + 7 = z - 1 by omega, num8_small hV] at this
  rw [← this]
  simp [List.replicate]
  omega
theorem zero_old {z V : Nat} (hz : 24 ≤ z) (hV : 1 ≤ V) : OldH z V (List.replicate z 0) := by
 refine ⟨by simp, ?_, ?_, ?_⟩
 ·
  rw [List.take_replicate, Nat.min_eq_left (by omega)]
 ·
  rw [List.drop_replicate, List.take_replicate, Nat.min_eq_left (by omega)]
 ·
  have : (List.replicate z (0 : UInt8)).getD (z - 1) 0 = 0 := by rw [List.getD, List.getElem?_replicate, if_pos (by omega)]; rfl
  rw [this]
  exact hV
/-- a header torn over an old page: the old page in good order, or the whole header -/
theorem torn_old {z V n t : Nat} {p : List UInt8} (hz : 24 ≤ z) (hV : V < 255) (hp : OldH z V p) : OldH z V ((hdrL z (V + 1) n).take t ++ p.drop t) ∨ z ≤ t := by
 rcases Nat.lt_or_ge t z with h | h
 ·
  left
  obtain ⟨h1, h2, h3, h4⟩ := hp
  have hl := hdrL_len (v := V + 1) (n := n) hz
  have hq : ∀ j, ((hdrL z (V + 1) n).take t ++ p.drop t)[j]? = if j < t then (hdrL z (V + 1) n)[j]? else p[j]? := by
   intro j
   have e1 : ((hdrL z (V + 1) n).take t).length = t := by rw [List.length_take]; omega
   by_cases hj : j < t
   ·
    rw [if_pos hj, List.getElem?_append_left (by omega), List.getElem?_take, if_pos hj]
   ·
    rw [if_neg hj, List.getElem?_append_right (by omega), List.getElem?_drop]
    congr 1
    omega
  obtain ⟨g1, g2, g3, g4⟩ := hdr_old (n := n) hz (V := V + 1) (by omega)
  refine ⟨by simp; omega, ?_, ?_, ?_⟩
  ·
   apply List.ext_getElem?
   intro j
   rw [List.getElem?_take]
   by_cases hj : j < 7
   ·
    rw [if_pos hj, hq]
    have a1 := congrArg (fun l : List UInt8 => l[j]?) h2
    have a2 := congrArg (fun l : List UInt8 => l[j]?) g2
    simp only [List.getElem?_take, if_pos hj] at a1 a2
    split
    ·
     exact a2
    ·
     exact a1
   ·
    rw [if_neg hj, List.getElem?_eq_none (by simp; omega)]
  ·
   apply List.ext_getElem?
   intro j
   rw [List.getElem?_take]
   by_cases hj : j < 7
   ·
    rw [if_pos hj, List.getElem?_drop, hq]
    have a1 := congrArg (fun l : List UInt8 => l[j]?) h3
    have a2 := congrArg (fun l : List UInt8 => l[j]?) g3
    simp only [List.getElem?_take, if_pos hj, List.getElem?_drop] at a1 a2
    split
    ·
     exact a2
    ·
     exact a1
   ·
    rw [if_neg hj, List.getElem?_eq_none (by simp; omega)]
  ·
   have e : ((hdrL z (V + 1) n).take t ++ p.drop t).getD (z - 1) 0 = p.getD (z - 1) 0 := by
    unfold List.getD
    rw [hq, if_neg (by omega)]
   rw [e]
   exact h4
 ·
  exact .inr h
/-- a log in good order, all of it durable -/
structure LogS (d : Dsk) (frm til : Int) (V : Nat) (recs : List ByteArray) : Prop where
 fit : fitE d frm til = 0
 empty : d.cache = []
 ver : 1 ≤ V
 small : V ≤ 200
 cur : pageL d (frm + ((V % 2 : Nat) : Int)) = hdrL d.size.toNat V (sizeL recs)
 old : OldH d.size.toNat V (pageL d (frm + (((V + 1) % 2 : Nat) : Int)))
 each : ∀ s ∈ recs, s.size ≤ 65536
 room : (sizeL recs : Int) ≤ areaN d frm til
 area : (areaL d frm til).take (sizeL recs) = streamL recs
theorem pickH_eq {x y : Option (Nat × Nat)} {V n : Nat} (h : (x = some (V, n) ∧ ∀ p, y = some p → p.1 < V) ∨ (y = some (V, n) ∧ ∀ p, x = some p → p.1 < V)) : pickH x y = (V, n) := by
 rcases h with ⟨rfl, h⟩ | ⟨rfl, h⟩
 ·
  cases y with
  | none => rfl
  | some p => have := h p rfl; simp [pickH]; omega
 ·
  cases x with
  | none => rfl
  | some p => have := h p rfl; simp [pickH]; omega
theorem LogS.head {d : Dsk} {frm til : Int} {V : Nat} {recs : List ByteArray} (h : LogS d frm til V recs) : headL d frm til = (V, sizeL recs) := by
 have hab := area_bd h.fit
 have hz : 24 ≤ d.size.toNat := by omega
 have hr := h.room
 have hs := h.small
 have h5 : sizeL recs ≤ 1099511627776 := by omega
 unfold headL
 rcases Nat.mod_two_eq_zero_or_one V with h0 | h0
 ·
  have hc := h.cur
  have ho := h.old
  rw [h0, show (frm + ((0 : Nat) : Int)) = frm by simp] at hc
  rw [show (V + 1) % 2 = 1 by omega, show (frm + ((1 : Nat) : Int)) = frm + 1 by simp] at ho
  refine pickH_eq (.inl ⟨by rw [hc]; exact hdrP_mk hz h.ver (by omega) h0 hr h5, fun p hp => hdrP_old (v := p.1) (n := p.2) hz ho hp⟩)
 ·
  have hc := h.cur
  have ho := h.old
  rw [h0, show (frm + ((1 : Nat) : Int)) = frm + 1 by simp] at hc
  rw [show (V + 1) % 2 = 0 by omega, show (frm + ((0 : Nat) : Int)) = frm by simp] at ho
  refine pickH_eq (.inr ⟨by rw [hc]; exact hdrP_mk hz h.ver (by omega) h0 hr h5, fun p hp => hdrP_old (v := p.1) (n := p.2) hz ho hp⟩)
theorem LogS.opens {d : Dsk} {frm til : Int} {V : Nat} {recs : List ByteArray} (h : LogS d frm til V recs) : openL d frm til = (⟨d, frm, til, V, recs⟩, 0) := by
 have hh := h.head
 have := openL_ok h.fit (by rw [hh]; have := h.ver; simp; omega) (l := recs) (by rw [hh]; simp only; rw [h.area]; exact stream_recsOf h.each)
 rw [this, hh]
theorem LogS.valid {l : Lg} {V : Nat} (h : LogS l.disk l.frm l.til V l.recs) (hv : l.ver = V) : validL l = true := by
 unfold validL
 rw [h.opens]
 simp [hv]
/-- a disk whose pages read the same -/
theorem LogS.same {d e : Dsk} {frm til : Int} {V : Nat} {recs : List ByteArray} (h : LogS d frm til V recs) (hs : Shape d e) (he : e.cache = []) (hp : ∀ k : Nat, k < d.pages.length → pageL e k = pageL d k) : LogS e frm til V recs := by
 have hfz := fitE_zero h.fit
 have hfe : fitE e frm til = 0 := fitE_0 (by simp [hs.1]) (by rw [hs.2.1]; omega) (by omega) (by omega) (by rw [hs.2.2]; omega) (by omega)
 have hpi : ∀ i : Int, 0 ≤ i → i < d.pages.length → pageL e i = pageL d i := by
  intro i h0 h1
  obtain ⟨k, rfl⟩ : ∃ k : Nat, i = k := ⟨i.toNat, by omega⟩
  exact hp k (by omega)
 have hA : areaL e frm til = areaL d frm til := by
  refine area_of h.fit hs rfl fun i hi => ?_
  rw [hpi _ (by omega) (by omega), ← area_page h.fit hi]
 exact ⟨hfe, he, h.ver, h.small, by rw [hpi _ (by omega) (by omega), hs.2.1]; exact h.cur, by rw [hpi _ (by omega) (by omega), hs.2.1]; exact h.old, h.each, by unfold areaN at *; rw [hs.2.1]; exact h.room, by rw [hA]; exact h.area⟩
end Go.Proofs.YtghikgjknhjjgaaGreatDoor
