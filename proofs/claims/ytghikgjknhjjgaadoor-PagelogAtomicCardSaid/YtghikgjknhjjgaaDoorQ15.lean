/- law 41's 'awake': it returns true. Acts and runs as plain data; law41.Fine. -/
import Derived.Test.YtghikgjknhjjgaaDoorQ14
import Derived.Test.YtghikgjknhjjgaaDoorQ03
namespace Go.Proofs.YtghikgjknhjjgaaDoor
set_option maxRecDepth 100000
open Go.RowKit Go.Shelf
theorem perf_power : ∀ (ops : List DOp) {d : Dsk}, chk d = 0 → (∀ o ∈ ops, GoodOp d o) → d.left = -1 → (perfP d ops).2 = 0 ∧ (perfP d ops).1.left = -1
 | [], _, _, _, hl => ⟨rfl, hl⟩
 | o :: r, d, h, g, hl => by
  have hs := opP_shape h (g o (by simp))
  have h1 : (opP d o).2 = 0 ∧ (opP d o).1.left = -1 := by
   have h2 : (opD d).left = -1 := by unfold opD; simp only; rw [if_neg (by omega)]; exact hl
   cases o with
   | wr i data => rw [opP_wr h (g _ (by simp)) (by omega)]; exact ⟨rfl, h2⟩
   | fl => rw [opP_fl h (by omega)]; exact ⟨rfl, h2⟩
  rw [perf_on h1.1]
  exact perf_power r hs.1 (fun o' ho' => (g o' (by simp [ho'])).of hs.2.2 hs.2.1) h1.2
theorem fmt_power {d : Dsk} {frm til : Int} (hf : fitE d frm til = 0) (hl : d.left = -1) : (fmtL d frm til).2 = 0 := by
 have hfz := fitE_zero hf
 unfold fmtL
 rw [if_neg (by simp [hf])]
 refine (perf_power _ hfz.1 (fun o ho => ?_) hl).1
 rcases List.mem_cons.1 ho with rfl | ho
 ·
  exact ⟨by omega, by omega, by rw [bs_size]; simp; omega⟩
 ·
  rcases List.mem_cons.1 ho with rfl | ho
  ·
   exact ⟨by omega, by omega, by rw [bs_size, hdrL_len (by omega)]; omega⟩
  ·
   rw [List.mem_singleton.1 ho]; trivial
theorem new_ok {p s : Int} (h : rangedB p s = true) : (newD p s).2 = 0 ∧ (newD p s).1.left = -1 ∧ (newD p s).1.cache = [] ∧ chk (newD p s).1 = 0 ∧ (newD p s).1.size = s ∧ ((newD p s).1.pages.length : Int) = p := by
 have hr := rangedB_true h
 unfold newD
 rw [if_pos h]
 refine ⟨rfl, rfl, rfl, ?_, rfl, by simp; omega⟩
 have hp : ((p.toNat : Nat) : Int) = p := by omega
 refine chk_mk (by simp only [List.length_replicate, hp]; exact h) ?_ (by simp) (by simp)
 intro x hx
 simp only [List.mem_replicate] at hx
 rw [hx.2]
 simp [ByteArray.size]
 omega
abbrev awRs : List ByteArray := [⟨#[97, 98]⟩, ⟨#[]⟩]
theorem awRs_stream : streamL awRs = [50, 58, 97, 98, 48, 58] := by
 simp only [streamL, recL, awRs, List.map_cons, List.map_nil, List.flatten_cons, List.flatten_nil]
 rw [show (⟨#[97, 98]⟩ : ByteArray).size = 2 from rfl, show (⟨#[]⟩ : ByteArray).size = 0 from rfl, Lib.decDigits_one (by omega), Lib.decDigits_one (by omega)]
 rfl
theorem awRs_size : sizeL awRs = 6 := by rw [← streamL_len, awRs_stream]; rfl
theorem aw_key : ∃ (d0 d1 : Dsk) (l1 l2 : Lg) (s : ByteArray), newD 4 24 = (d0, 0) ∧ fmtL d0 0 4 = (d1, 0) ∧ openL d1 0 4 = (l1, 0) ∧ apL l1 awRs = (l2, 0) ∧ readD l2.disk 2 = (s, 0) ∧ s.data.toList.take 6 = [50, 58, 97, 98, 48, 58] ∧ l2.ver = 2 ∧ roomL l2 = 42 ∧ l2.recs = awRs ∧ d0.cache = [] ∧ l1.disk.cache = [] := by
 obtain ⟨n1, n2, n3, n4, n5, n6⟩ := new_ok (p := 4) (s := 24) (by decide)
 obtain ⟨d0, hd0⟩ : ∃ d0, (newD 4 24).1 = d0 := ⟨_, rfl⟩
 rw [hd0] at n2 n3 n4 n5 n6
 have hf : fitE d0 0 4 = 0 := fitE_0 (by simp [n4]) (by omega) (by omega) (by omega) (by omega) (by omega)
 have hfm := fmt_power hf n2
 obtain ⟨f1, f2, _, f3, _⟩ := fmt_S hfm
 obtain ⟨d1, hd1⟩ : ∃ d1, (fmtL d0 0 4).1 = d1 := ⟨_, rfl⟩
 rw [hd1] at f1 f2 f3
 have ho := f1.opens
 have harea : areaN d1 0 4 = 48 := by unfold areaN; rw [f2.2.1, n5]; decide
 have hap := ap_step (l := ⟨d1, 0, 4, (1 : Nat), []⟩) (V := 1) f1 rfl (by omega) (rs := awRs) (by
  intro s hs
  rcases List.mem_cons.1 hs with rfl | hs
  ·
   decide
  ·
   rw [List.mem_singleton.1 hs]; decide)
 rcases hap with ⟨h, _⟩ | ⟨h, _⟩ | ⟨_, _, hS⟩
 ·
  cases h
 ·
  exfalso
  rw [awRs_size] at h
  have h2 : areaN d1 0 4 - ((sizeL [] : Nat) : Int) < (6 : Nat) := h
  rw [harea] at h2
  simp [sizeL] at h2
 ·
  obtain ⟨e1, e2⟩ := hS.full (f3 n2)
  rcases hS.res with ⟨_, r1, r2, r3⟩ | ⟨r1, _⟩
  ·
   obtain ⟨l2, hl2⟩ : ∃ l2, (apL ⟨d1, 0, 4, (1 : Nat), []⟩ awRs).1 = l2 := ⟨_, rfl⟩
   rw [hl2] at r1 r2 r3 e2
   have hsh := hS.shape
   rw [hl2] at hsh
   have hfr := hS.frm
   have hti := hS.til
   rw [hl2] at hfr hti
   have r1 : LogS l2.disk 0 4 2 awRs := r1
   have r2 : l2.recs = awRs := r2
   have hfr : l2.frm = 0 := hfr
   have hti : l2.til = 4 := hti
   have hp : 2 < l2.disk.pages.length := by have := fitE_zero r1.fit; omega
   have hrd := readD_ok (fitE_zero r1.fit).1 hp
   refine ⟨d0, d1, ⟨d1, 0, 4, (1 : Nat), []⟩, l2, contentD l2.disk 2 hp, Prod.ext hd0 n1, Prod.ext hd1 hfm, ho, Prod.ext hl2 e1, hrd, ?_, by rw [r3]; rfl, ?_, r2, n3, f1.empty⟩
   ·
    have h1 := area_page r1.fit (i := 0) (by decide)
    have h2 : pageL l2.disk (0 + 2 + ((0 : Nat) : Int)) = (contentD l2.disk 2 hp).data.toList := pageL_nat (fitE_zero r1.fit).1 hp
    rw [h2] at h1
    have hz : l2.disk.size.toNat = 24 := by
     have := hsh.2.1
     have h3 : l2.disk.size = d1.size := this
     rw [h3, f2.2.1, n5]
     rfl
    rw [← h1, hz, Nat.zero_mul, List.drop_zero, List.take_take, Nat.min_eq_left (by omega)]
    have h4 := r1.area
    rw [awRs_size] at h4
    rw [h4]
    exact awRs_stream
   ·
    have hval : validL l2 = true := by
     refine LogS.valid (V := 2) ?_ r3
     rw [hfr, hti, r2]
     exact r1
    unfold roomL
    rw [if_neg (by simp [hval]), hfr, hti, r2, awRs_size]
    unfold areaN
    rw [hsh.2.1]
    show (4 - 0 - 2) * d1.size - ((6 : Nat) : Int) = 42
    rw [f2.2.1, n5]
    decide
  ·
   rw [r1] at e1; cases e1
theorem LgV.parts {w : World} {l : Lg} {po co ro : Option Addr} {pc cc rc : Nat} (h : LgV w (.agg (lgC l.disk po co pc cc l.frm l.til l.ver ro l.recs.length rc)) l) : DskV w (.agg (dC l.disk po co pc cc)) l.disk ∧ SlW ro l.recs.length rc ∧ StrsAt (· < w.heap.size) w ro l.recs := by
 obtain ⟨a1, a2, a3, a4, a5, a6, e, h1, h2, h3⟩ := h
 have e' : (lgC l.disk po co pc cc l.frm l.til l.ver ro l.recs.length rc) = (lgC l.disk a1 a3 a2 a4 l.frm l.til l.ver a5 l.recs.length a6) := by injection e
 simp at e'
 obtain ⟨⟨rfl, rfl⟩, ⟨rfl, rfl⟩, rfl, rfl⟩ := e'
 exact ⟨h1, h2, h3⟩
theorem rv_new (p s : Int) (w : World) {d : Dsk} {er : Int} (h : newD p s = (d, er)) : Calls Tryd.prog 25 #[.int .i64 p, .int .i64 s] w (RetVE w d er) := by
 refine (disk_new (S := (· < w.heap.size)) p s w).mono ?_
 rintro e w' ⟨v', rfl, h1, hb⟩
 rw [h] at h1 ⊢
 exact ⟨v', rfl, .of h1 (gr_all hb), hb⟩
theorem prefix_of {s : ByteArray} {q : List UInt8} (n : Nat) (h : s.data.toList.take n = q) : Lib.hasPrefix s.data.toList q = true := by
 unfold Lib.hasPrefix
 rw [List.isPrefixOf_iff_prefix, ← h]
 exact List.take_prefix _ _
set_option maxRecDepth 100000 in
set_option maxHeartbeats 4000000 in
theorem law41_awake (w : World) (hT : TabW w) : Calls Tryd.prog 9 #[] w fun e w' => e = .returned (.bool true) ∧ Below w.heap.size w w' := by
 obtain ⟨d0, d1, l1, l2, s, k1, k2, k3, k4, k5, k6, k7, k8, k9, k10, k11⟩ := aw_key
 have hnew := rv_new 4 24 w k1
 have Hk2 := Lib.hid k2
 have Hk3 := Lib.hid k3
 have Hk4 := Lib.hid k4
 have Hk5 := Lib.hid k5
 have Hk6 := Lib.hid (prefix_of 6 k6)
 have Hk7 := Lib.hid k7
 have Hk8 := Lib.hid k8
 have Hk9 := Lib.hid k9
 have Hk10 := Lib.hid k10
 have Hk11 := Lib.hid k11
 clear k1 k2 k3 k4 k5 k6 k7 k8 k9 k10 k11
 go_enter Tryd.func9, Tryd.ntmps9
 go_wp2_with fail
 refine hnew.mono ?_
 rintro e w1 ⟨v1, rfl, hM1, hb1⟩
 have hM := hM1
 obtain ⟨po1, pc1, co1, cc1, rfl⟩ := hM1.agg
 have x1 := Bx.new w1 (dC d0 po1 co1 pc1 cc1) 30
 have hBo := Below.one w1 (.cells (dC d0 po1 co1 pc1 cc1) 30)
 have hV1 := hM.below hBo
 have hB1 := btr hb1 hBo
 obtain ⟨b1, hb1e⟩ : ∃ b1, w1.heap.size = b1 := ⟨_, rfl⟩
 have hwb : w.heap.size ≤ b1 := by have := hb1.size; omega
 obtain ⟨W1, hW1⟩ : ∃ W1, w1.alloc (.cells (dC d0 po1 co1 pc1 cc1) 30) = W1 := ⟨_, rfl⟩
 rw [hW1, hb1e] at x1
 rw [hW1] at hV1 hB1
 have hfm := pl_Format d0 _ 0 4 W1 hV1 (by rw [Hk10.out]; simp)
 rw [Hk2.out] at hfm
 clear hnew hBo hM hM1 hb1 hV1
 have cA := x1.cell
 have lA := x1.lt
 go_wp2_with fail
 refine hfm.mono ?_
 rintro e w2 ⟨v2, rfl, hM2, hb2⟩
 have hM := hM2
 obtain ⟨po2, pc2, co2, cc2, rfl⟩ := hM2.agg
 have x2 := x1.belowAll hb2
 have hB2 := btr hB1 hb2
 clear cA lA x1 hB1 hW1 hfm hM2 hb2
 have cA := x2.cell
 have lA := x2.lt
 have fA := x2.free
 obtain ⟨w3, hw3⟩ : ∃ w3, st4 w2 b1 (.int .i64 d1.size) (.slice po2 d1.pages.length pc2) (.slice co2 d1.cache.length cc2) (.int .i64 d1.left) = w3 := ⟨_, rfl⟩
 have x3 : Bx w3 b1 (dC d1 po2 co2 pc2 cc2) 30 := by subst hw3; exact x2.st4
 have hB3 : Below w.heap.size w w3 := by subst hw3; exact below_st4 hB2 hwb
 have hV3 : DskV w3 (.agg (dC d1 po2 co2 pc2 cc2)) d1 := by subst hw3; exact hM.only x2 (noS_dC _ _ _ _ _) only_st4
 have hop := pl_Open d1 _ 0 4 w3 hV3
 rw [Hk3.out] at hop
 have Hw3 := Lib.hid hw3
 have Hop := Lib.hid hop
 clear hw3 hM hV3 hB2 hop x3
 go_wp2_with fail
 have HW := Hw3.out
 unfold st4 at HW
 rw [HW]
 refine Hop.out.mono ?_
 rintro e w4 ⟨v4, rfl, hL4, hb4⟩
 have hL := hL4
 obtain ⟨po4, pc4, co4, cc4, ro4, rc4, rfl, _, _, _⟩ := hL4
 have hB4 := btr hB3 hb4
 clear HW Hw3 cA lA fA x2 hB3 hb4
 have x4 := Bx.new w4 (lgC l1.disk po4 co4 pc4 cc4 l1.frm l1.til l1.ver ro4 l1.recs.length rc4) 32
 have hBo := Below.one w4 (.cells (lgC l1.disk po4 co4 pc4 cc4 l1.frm l1.til l1.ver ro4 l1.recs.length rc4) 32)
 obtain ⟨b4, hb4e⟩ : ∃ b4, w4.heap.size = b4 := ⟨_, rfl⟩
 have hwb4 : w.heap.size ≤ b4 := by have := hB4.size; omega
 obtain ⟨W4, hW4⟩ : ∃ W4, w4.alloc (.cells (lgC l1.disk po4 co4 pc4 cc4 l1.frm l1.til l1.ver ro4 l1.recs.length rc4) 32) = W4 := ⟨_, rfl⟩
 rw [hW4, hb4e] at x4
 rw [hW4] at hBo
 have hB5 := btr hB4 hBo
 have hL5 := hL.below hBo
 have hBr := Below.one W4 (.cells #[.string ⟨#[97, 98]⟩, .string ⟨#[]⟩] 9)
 have xr := Bx.new W4 #[.string ⟨#[97, 98]⟩, .string ⟨#[]⟩] 9
 have x5 := x4.alloc (.cells #[.string ⟨#[97, 98]⟩, .string ⟨#[]⟩] 9)
 have hap := pl_Append l1 _ awRs (some ⟨W4.heap.size, 0, none⟩) 2 _ (hL5.below hBr) (.inr ⟨_, rfl, by decide, by unfold maxLen; decide⟩) ((StrsAt.of_row (RowAt.bx xr)).mono fun b hb => by subst hb; exact xr.lt) (by decide) (by rw [awRs_size]; decide) (hT.below (btr hB5 hBr)) (by rw [Hk11.out]; decide)
 rw [Hk4.out] at hap
 have Hap := Lib.hid hap
 have hB6 := btr hB5 hBr
 have cA := x4.cell
 have lA := x4.lt
 clear hap hL hBo hL5 hBr xr hB4 hB5
 go_wp2_with fail
 refine Hap.out.mono ?_
 rintro e w6 ⟨v6, rfl, hL6, hb6⟩
 have hL := hL6
 obtain ⟨po6, pc6, co6, cc6, ro6, rc6, rfl, _, _, _⟩ := hL6
 have x6 := x5.belowAll hb6
 have hB7 := btr hB6 hb6
 clear cA lA x4 x5 hW4 Hap hb6 hB6
 have cA := x6.cell
 have lA := x6.lt
 have fA := x6.free
 obtain ⟨w7, hw7⟩ : ∃ w7, st8 w6 b4 (.int .i64 l2.disk.size) (.slice po6 l2.disk.pages.length pc6) (.slice co6 l2.disk.cache.length cc6) (.int .i64 l2.disk.left) (.int .i64 l2.frm) (.int .i64 l2.til) (.int .i64 l2.ver) (.slice ro6 l2.recs.length rc6) = w7 := ⟨_, rfl⟩
 have x7 : Bx w7 b4 (lgC l2.disk po6 co6 pc6 cc6 l2.frm l2.til l2.ver ro6 l2.recs.length rc6) 32 := by subst hw7; exact x6.set8
 have hB8 : Below w.heap.size w w7 := by subst hw7; exact below_set8 hB7 hwb4
 have hL7 : LgV w7 (.agg (lgC l2.disk po6 co6 pc6 cc6 l2.frm l2.til l2.ver ro6 l2.recs.length rc6)) l2 := by subst hw7; exact hL.only x6 (noS_lg _ _ _ _ _ _ _ _ _ _ _ _ _ _) Only.eight
 obtain ⟨hD7, hs7, ht7⟩ := hL7.parts
 have hrd := v_read l2.disk _ 2 w7 hD7 Hk5.out
 have Hrd := Lib.hid hrd
 have Hw7 := Lib.hid hw7
 have HL7 := Lib.hid hL7
 have Ht7 := Lib.hid ht7
 clear hw7 hL hB7 hrd hD7 hL7 hs7 ht7
 go_wp2_with fail
 have HW := Hw7.out
 unfold st8 at HW
 rw [HW]
 refine Hrd.out.mono ?_
 rintro e w8 ⟨rfl, hb8⟩
 have x8 := x7.belowAll hb8
 have hB9 := btr hB8 hb8
 have hL8 := HL7.out.below hb8
 clear HW Hw7 cA lA fA x6 Hrd x7
 have cA := x8.cell
 have lA := x8.lt
 have hpx := Tryd.strings_HasPrefix s ⟨#[50, 58, 97, 98, 48, 58]⟩ w8
 have hpl : Lib.hasPrefix s.data.toList (⟨#[50, 58, 97, 98, 48, 58]⟩ : ByteArray).data.toList = true := Hk6.out
 rw [hpl] at hpx
 have hrm := pl_Room l2 _ w8 hL8 (hT.below hB9)
 rw [Hk8.out] at hrm
 have Hrm := Lib.hid hrm
 have hver : (l2.ver == 2) = true := by rw [Hk7.out]; rfl
 clear hrm hpl
 go_wp2_with fail
 refine hpx.mono ?_
 rintro e w9 ⟨rfl, rfl⟩
 go_wp2_with fail
 refine Hrm.out.mono ?_
 rintro e w10 ⟨rfl, hb10⟩
 have x10 := x8.belowAll hb10
 have hB11 := btr hB9 hb10
 clear cA lA x8
 have cA := x10.cell
 have lA := x10.lt
 have hsz := pl_Size w10 ro6 rc6 l2.recs (Ht7.out.below (btr hb8 hb10)) (by rw [Hk9.out, awRs_size]; decide) (hT.below hB11) (by rw [Hk9.out]; decide)
 rw [show sizeL l2.recs = 6 by rw [Hk9.out, awRs_size]] at hsz
 have Hsz := Lib.hid hsz
 clear hsz
 go_wp2_with fail
 refine Hsz.out.mono ?_
 rintro e w11 ⟨rfl, hb11⟩
 go_wp2
 go_ret
 exact ⟨rfl, btr hB11 hb11⟩
end Go.Proofs.YtghikgjknhjjgaaDoor
namespace Go.Proofs.YtghikgjknhjjgaaDoor
set_option maxRecDepth 100000
open Go.RowKit
structure ActA where
 kind : Int
 recs : List ByteArray
 n : Nat
 picks : List Int
structure ActOk (w : World) (a : ActA) (ro po : Option Addr) (rc pc : Nat) : Prop where
 slr : SlW ro a.recs.length rc
 slp : SlW po a.picks.length pc
 recs : StrsAt (· < w.heap.size) w ro a.recs
 picks : IntsAt (· < w.heap.size) w po a.picks
 kind : -9223372036854775808 ≤ a.kind ∧ a.kind ≤ 9223372036854775807
 n : a.n < 256
 ints : ∀ x ∈ a.picks, -9223372036854775808 ≤ x ∧ x ≤ 9223372036854775807
abbrev actC (a : ActA) (ro po : Option Addr) (rc pc : Nat) : Array Value := #[.int .i64 a.kind, .slice ro a.recs.length rc, .int .u8 a.n, .slice po a.picks.length pc]
def ActsAt (w : World) (o : Option Addr) (l : List ActA) : Prop :=
 ∀ i (h : i < l.length), ∃ b off ro rc po pc, o = some ⟨b, off, none⟩ ∧ w.cell? ⟨b, off + i * 4, none⟩ = some (.int .i64 l[i].kind) ∧ w.cell? ⟨b, off + i * 4 + 1, none⟩ = some (.slice ro l[i].recs.length rc) ∧
  w.cell? ⟨b, off + i * 4 + 2, none⟩ = some (.int .u8 l[i].n) ∧ w.cell? ⟨b, off + i * 4 + 3, none⟩ = some (.slice po l[i].picks.length pc) ∧ ActOk w l[i] ro po rc pc
theorem IntsAt.lift {w w' : World} {o : Option Addr} {l : List Int} (h : IntsAt (· < w.heap.size) w o l) (hb : Below w.heap.size w w') : IntsAt (· < w'.heap.size) w' o l :=
 .of_row ((h.row.below hb).mono fun _ hs => Nat.lt_of_lt_of_le hs hb.size)
theorem ActOk.below {w w' : World} {a : ActA} {ro po : Option Addr} {rc pc : Nat} (h : ActOk w a ro po rc pc) (hb : Below w.heap.size w w') : ActOk w' a ro po rc pc :=
 ⟨h.slr, h.slp, (h.recs.below hb).mono fun _ hs => Nat.lt_of_lt_of_le hs hb.size, IntsAt.lift h.picks hb, h.kind, h.n, h.ints⟩
theorem ActsAt.below {w w' : World} {o : Option Addr} {l : List ActA} (h : ActsAt w o l) (hb : Below w.heap.size w w') : ActsAt w' o l := by
 intro i hi
 obtain ⟨b, off, ro, rc, po, pc, e, c0, c1, c2, c3, ok⟩ := h i hi
 have hlt : b < w.heap.size := World.block_lt_of_cell? w _ c0
 exact ⟨b, off, ro, rc, po, pc, e, (hb.cell hlt).trans c0, (hb.cell hlt).trans c1, (hb.cell hlt).trans c2, (hb.cell hlt).trans c3, ok.below hb⟩
def shortB (l : List ByteArray) : Bool := l.all fun s => !decide ((100 : Int) < (s.size : Int))
def actFine (a : ActA) : Bool := !(decide ((8 : Int) < (a.recs.length : Int))) && (!(decide ((20 : Int) < (a.picks.length : Int))) && shortB a.recs)
def fineB (pages size : Int) (acts : List ActA) : Bool := !(decide (12 < pages)) && (!(decide (40 < size)) && (!(decide ((10 : Int) < (acts.length : Int))) && acts.all actFine))
theorem all_step {α : Type} {p : α → Bool} {l : List α} {k : Nat} (h : k < l.length) (hp : p l[k] = true) : (l.drop k).all p = (l.drop (k + 1)).all p := by
 rw [List.drop_eq_getElem_cons h, List.all_cons, hp, Bool.true_and]
theorem all_bad {α : Type} {p : α → Bool} {l : List α} {k : Nat} (h : k < l.length) (hp : p l[k] = false) : (l.drop k).all p = false := by
 rw [List.drop_eq_getElem_cons h, List.all_cons, hp, Bool.false_and]
theorem all_end {α : Type} {p : α → Bool} {l : List α} {k : Nat} (h : l.length ≤ k) : (l.drop k).all p = true := by
 rw [List.drop_of_length_le h]; rfl
set_option maxHeartbeats 800000 in
theorem rn_Fine (pages size frm til : Int) (acts : List ActA) (o : Option Addr) (c : Nat) (w : World) (hA : ActsAt w o acts) (hsl : SlW o acts.length c) :
  Calls Tryd.prog 8 #[.agg #[.int .i64 pages, .int .i64 size, .int .i64 frm, .int .i64 til, .slice o acts.length c]] w fun e w' => e = .returned (.bool (fineB pages size acts)) ∧ Below w.heap.size w w' := by
 have hlen := slw_len hsl
 clear hsl
 obtain ⟨N, hN⟩ : ∃ N, w.heap.size = N := ⟨_, rfl⟩
 obtain ⟨R, hR⟩ : ∃ R, fineB pages size acts = R := ⟨_, rfl⟩
 rw [hR]
 unfold fineB at hR
 have HR := Lib.hid hR
 clear hR
 go_enter Tryd.func8, Tryd.ntmps8
 cases g1 : decide (12 < pages)
 ·
  cases g2 : decide (40 < size)
  ·
   cases g3 : decide ((10 : Int) < (acts.length : Int))
   ·
    have HA : Hid (acts.all actFine = R) := Lib.hid (by rw [← HR.out, g1, g2, g3]; simp)
    clear HR
    have x0 : Bx (w.alloc (.cells #[.int .i64 pages, .int .i64 size, .int .i64 frm, .int .i64 til, .slice o acts.length c] 24)) N #[.int .i64 pages, .int .i64 size, .int .i64 frm, .int .i64 til, .slice o acts.length c] 24 := by subst hN; exact Bx.new w _ _
    have hB0 : Below w.heap.size w (w.alloc (.cells #[.int .i64 pages, .int .i64 size, .int .i64 frm, .int .i64 til, .slice o acts.length c] 24)) := Below.one w _
    go_wp2
    generalize (w.alloc (.cells #[.int .i64 pages, .int .i64 size, .int .i64 frm, .int .i64 til, .slice o acts.length c] 24)) = W0 at *
    clear x0
    go_loopw [24] (fun i wr => ∃ (k : Nat), k ≤ acts.length ∧ i = .int .i64 k ∧ Hid ((acts.drop k).all actFine = R) ∧ Below w.heap.size w wr) (fun i _ => acts.length - (intOf i).toNat)
    case atStart => exact ⟨0, Nat.zero_le _, rfl, HA, hB0⟩
    case round =>
     clear hB0 HA
     obtain ⟨k, hk, rfl, hq, hB⟩ := hrel
     by_cases hlt : k < acts.length
     ·
      obtain ⟨b, off, ro, rc, po, pc, rfl, k0, k1, k2, k3, ok⟩ := hA k hlt
      have hb : b < w.heap.size := World.block_lt_of_cell? w _ k0
      have c0 := (hB.cell hb).trans k0
      have c1 := (hB.cell hb).trans k1
      have c2 := (hB.cell hb).trans k2
      have c3 := (hB.cell hb).trans k3
      have hrl := slw_len ok.slr
      have hpl := slw_len ok.slp
      have hrs := ok.recs
      clear k0 k1 k2 k3 ok
      obtain ⟨x, hx⟩ : ∃ x, acts[k] = x := ⟨_, rfl⟩
      have hq1 : actFine x = false → Hid (R = false) := fun h => Lib.hid (by rw [← hq.out]; exact all_bad hlt (by rw [hx]; exact h))
      have hq2 : actFine x = true → Hid ((acts.drop (k + 1)).all actFine = R) := fun h => Lib.hid (by rw [← all_step hlt (by rw [hx]; exact h)]; exact hq.out)
      clear hq
      have Q1 := Lib.hid hq1
      have Q2 := Lib.hid hq2
      clear hq1 hq2
      rw [hx] at c0 c1 c2 c3 hrl hpl hrs
      unfold actFine at Q1 Q2
      have lB : b < wr.heap.size := Nat.lt_of_lt_of_le hb hB.size
      have hBB := btr hB (Below.one wr (.cells (actC x ro po rc pc) 38))
      cases g4 : decide ((8 : Int) < (x.recs.length : Int))
      ·
       cases g5 : decide ((20 : Int) < (x.picks.length : Int))
       ·
        have Q1' : shortB x.recs = false → Hid (R = false) := fun h => Q1.out (by rw [g4, g5, h]; rfl)
        have Q2' : shortB x.recs = true → Hid ((acts.drop (k + 1)).all actFine = R) := fun h => Q2.out (by rw [g4, g5, h]; rfl)
        clear Q1 Q2
        have H1 := Lib.hid Q1'
        have H2 := Lib.hid Q2'
        clear Q1' Q2'
        go_wp2
        generalize (wr.alloc (.cells (actC x ro po rc pc) 38)) = W1 at *
        clear c0 c1 c2 c3
        go_loopw [41] (fun i wr => ∃ (j : Nat), j ≤ x.recs.length ∧ i = .int .i64 j ∧ Hid (shortB (x.recs.drop j) = shortB x.recs) ∧ Below w.heap.size w wr) (fun i _ => x.recs.length - (intOf i).toNat)
        case atStart => exact ⟨0, Nat.zero_le _, rfl, Lib.hid rfl, hBB⟩
        case round =>
         obtain ⟨j, hj, rfl, hs, hBi⟩ := hrel
         by_cases hjt : j < x.recs.length
         ·
          obtain ⟨b2, off2, rfl, d0, _⟩ := hrs j hjt
          have hb2 : b2 < w.heap.size := World.block_lt_of_cell? w _ d0
          have e0 := (hBi.cell hb2).trans d0
          clear d0
          cases g6 : decide ((100 : Int) < (x.recs[j].size : Int))
          ·
           go_wp2
           go_roundw
           case rel => exact ⟨j + 1, by omega, by go_num, Lib.hid (by rw [← hs.out]; exact (all_step hjt (by rw [g6]; rfl)).symm), hBi⟩
           case measure => simp [intOf]; omega
          ·
           have hR := (H1.out (by rw [← hs.out]; exact all_bad hjt (by rw [g6]; rfl))).out
           clear H1 H2 hs
           go_wp2
           go_ret
           exact ⟨by rw [hR]; rfl, hBi⟩
         ·
          have hR := H2.out (by rw [← hs.out]; exact all_end (by omega))
          clear H1 H2 hs
          go_wp2
          go_roundw
          case rel => exact ⟨k + 1, by omega, by go_num, hR, hBi⟩
          case measure => simp [intOf]; omega
       ·
        have hR := (Q1.out (by rw [g4, g5]; rfl)).out
        clear Q1 Q2
        go_wp2
        go_ret
        exact ⟨by rw [hR]; rfl, hBB⟩
      ·
       have hR := (Q1.out (by rw [g4]; rfl)).out
       clear Q1 Q2
       go_wp2
       go_ret
       exact ⟨by rw [hR]; rfl, hBB⟩
     ·
      have hP : R = true := by rw [← hq.out]; exact all_end (by omega)
      clear hq
      go_wp2
      go_ret
      exact ⟨by rw [hP]; rfl, hB⟩
   ·
    go_wp2
    go_ret
    exact ⟨by rw [← HR.out, g1, g2, g3]; rfl, Below.one w _⟩
  ·
   go_wp2
   go_ret
   exact ⟨by rw [← HR.out, g1, g2]; rfl, Below.one w _⟩
 ·
  go_wp2
  go_ret
  exact ⟨by rw [← HR.out, g1]; rfl, Below.one w _⟩
end Go.Proofs.YtghikgjknhjjgaaDoor
