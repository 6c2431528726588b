/- The page of a node: quiltref42.Bytes. Plain laws of loading: what a loaded node is. Strings behind their lengths: btree.readText, quiltref42.text. The pairs of a leaf: (*loader).leaf. Nodes of the reference in chosen blocks; quiltref42.has, leaf. -/
import Derived.Test.YtlefmmhlpgmbjaaGreatS06
import Derived.Test.YtlefmmhlpgmbjaaGreatS01
namespace Go.Proofs.YtlefmmhlpgmbjaaGreat
set_option maxRecDepth 100000
open Go.RowKit
set_option maxHeartbeats 4000000 in
theorem zfP (n : Nd) (po ko : Option Addr) (pc kc : Nat) (w : World) (h : NdC w (ndC po pc ko kc n) n) (hk0 : n.kids = []) (h3 : n.ps.length <= 3) (hok : ∀ p ∈ n.ps, KvOk p) :
  Calls Tryz.prog 96 #[.agg (ndC po pc ko kc n).toArray] w fun e w' => e = .returned (.string (bs (padZ (encLf n.ps)))) /\ Below w.heap.size w w' := by
 obtain ⟨ps, kids, page⟩ := n;simp only [Nd.kids, Nd.ps] at hk0 h3 hok;subst hk0;simp only [ndC, Nd.ps, Nd.kids, Nd.page];simp only [ndC, Nd.ps, Nd.kids, Nd.page] at h;obtain ⟨m, hm⟩ : ∃ m, ps.length = m := ⟨_, rfl⟩;obtain ⟨nb, hnb⟩ : ∃ c : UInt8, UInt8.ofNat m = c := ⟨_, rfl⟩;have hu : m % 256 = nb.toNat := by rw [<- hnb, u8_of]
 have hl0 : lfE ps 0 = [76, nb] := by unfold lfE; rw [hm, hnb]; rfl
 have x0 : Bx (w.alloc (.cells #[.slice po m pc, .slice ko 0 kc, .int .i64 page] 95)) w.heap.size #[.slice po m pc, .slice ko 0 kc, .int .i64 page] 95 := Bx.new w _ _;rw [hm] at h3 |-;have Hm := zhI hm;have Hl0 := zhI hl0;have Hu : Hid ((nb.toNat : Int) = (m : Int)) := zhI (by omega);have Hh := zhI h;clear hm hnb hu hl0 h;have cX := x0.cell;have lX := x0.lt;simp only [List.length_nil];go_enter Tryz.func96, Tryz.ntmps96;go_wp2_with (refine zbx rfl _ 139 9 5 rfl Tryz.underlying139 Tryz.underlying5 Tryz.underlying9 (some ⟨w.heap.size + 1, 0, none⟩) 2 2 [76, nb] rfl rfl (S := (· = w.heap.size + 1)) (by rw [show zam [76, nb] = [.int .u8 76, .int .u8 (m : Int)] by simp [zam, Hu.out]]; exact RowAt.bx (Bx.newAt _ _ _ _ (by simp))) ?_);clear cX lX
 go_loopw [3, 4] (fun v i wr => ∃ k : Nat, k <= m /\ i = .int .i64 k /\ v = .string (bs (lfE ps k)) /\ Bx wr w.heap.size #[.slice po m pc, .slice ko 0 kc, .int .i64 page] 95 /\ Below w.heap.size w wr) (fun _ i _ => m - (intOf i).toNat)
 case atStart => refine ⟨0, by omega, rfl, by rw [Hl0.out], x0.alloc _, ?_⟩;exact (Below.one w _).alloc (by simp) _
 case round =>
  clear x0;obtain ⟨k, hk, rfl, rfl, x, hB⟩ := hrel;have hz := hB.size;have cX := x.cell;have lX := x.lt
  by_cases hlt : k < m
  .
   have hlk : k < ps.length := by rw [Hm.out]; exact hlt
   obtain ⟨g, off, rfl, hg, hle, c0, c1⟩ := Hh.out.pair (n := Nd.mk ps [] page) (i := k) hlk;simp only [Nd.ps] at hle c0 c1;have d0 : wr.cell? ⟨g, off + k * 2, none⟩ = some (.string ps[k].1) := by rw [hB.cell hg]; exact c0
   have d1 : wr.cell? ⟨g, off + k * 2 + 1, none⟩ = some (.string ps[k].2) := by rw [hB.cell hg]; exact c1
   have hl1 := zf9 hok (by rw [Hm.out]; exact h3) k;have hko := hok _ (List.getElem_mem hlk);have Hs := zhI (zga hlk);obtain ⟨⟨ky, vy⟩, hkv⟩ : ∃ p : Kv, ps[k] = p := ⟨_, rfl⟩;rw [hkv] at d0 d1 hko Hs;simp only at d0 d1 Hs;have hk1 := hko.1;have hk2 := hko.2;simp only at hk1 hk2;obtain ⟨S, hS⟩ : ∃ S, bs (lfE ps k) = S := ⟨_, rfl⟩;obtain ⟨T1, hT1⟩ : ∃ S, bs (textL ky) = S := ⟨_, rfl⟩;obtain ⟨T2, hT2⟩ : ∃ S, bs (textL vy) = S := ⟨_, rfl⟩;have z1 : S.size <= 392 := by rw [<- hS, zaj]; exact hl1
   have z2 : T1.size <= 49 := by rw [<- hT1, zaj, zby]; omega
   have z3 : T2.size <= 81 := by rw [<- hT2, zaj, zby]; omega
   have q1 : ¬ 9223372036854775807 < S.size + T1.size := by omega
   have q2 : ¬ 9223372036854775807 < S.size + T1.size + T2.size := by omega
   have S1 : Hid (∀ W, Calls Tryz.prog 134 #[.string ky] W fun e w' => e = .returned (.string T1) /\ Below W.heap.size W w') := zhI fun W => hT1 ▸ zgn ky W (by omega);have S2 : Hid (∀ W, Calls Tryz.prog 134 #[.string vy] W fun e w' => e = .returned (.string T2) /\ Below W.heap.size W w') := zhI fun W => hT2 ▸ zgn vy W (by omega);have HS : Hid (S ++ T1 ++ T2 = bs (lfE ps (k + 1))) := zhI (by rw [Hs.out, <- hS, <- hT1, <- hT2, zbr, zbr]);rw [hS];have HB := zhI hB;have hgr : g < wr.heap.size := by omega
   have hmp : m <= pc := by rw [Hm.out] at hle; exact hle
   clear hkv hS hT1 hT2 hko hl1 Hs c0 c1 hB hle;go_upto_region 6 with fail
   have cQ := Lat.cells wr;refine zay (by kernel_rfl) (by kernel_rfl) ?_
   repeat (any_goals (first | go_big_quiet_skip | (go_big_quiet_want; go_big_quiet_op; first | go_big_quiet_on | go_big_quiet_call (((go_at_call 134; first | (with_reducible exact Calls.lat (S1.out _)) | (with_reducible exact Calls.lat (S2.out _)))))) | quiet_step (((go_at_call 134; first | (with_reducible exact Calls.lat (S1.out _)) | (with_reducible exact Calls.lat (S2.out _)))))))
   refine wpQuiet_nil ?_;rintro W2 ⟨⟨_, hb2⟩, rfl⟩;have HR := zhI (zaI (x.belowAll hb2) (Below.then HB.out hb2 hz));clear cX lX cQ HB x hb2 d0 d1;go_wp2;go_roundw
   case rel => exact ⟨k + 1, by omega, by go_num, by rw [HS.out], HR.out.1, HR.out.2⟩
   case measure => simp [intOf]; omega
  .
   obtain rfl : k = m := by omega
   have hl1 := zf9 hok (by rw [Hm.out]; exact h3) k;rw [show lfE ps k = encLf ps by rw [<- zhJ, Hm.out]] at hl1 |-;have hf := zeN (bs (encLf ps)) wr (by rw [zaj]; omega);rw [za3] at hf;go_wp2_with fail;refine hf.mono ?_;rintro e w2 ⟨rfl, hb2⟩;go_wp2;go_ret;exact ⟨rfl, Below.then hB hb2 hz⟩
set_option maxHeartbeats 8000000 in
theorem ze5 (n : Nd) (po ko : Option Addr) (pc kc : Nat) (w : World) (h : NdC w (ndC po pc ko kc n) n) (h2 : 2 <= n.kids.length) (h8 : n.kids.length <= 8) (hok : ∀ c ∈ n.kids, KidOk c) :
  Calls Tryz.prog 96 #[.agg (ndC po pc ko kc n).toArray] w fun e w' => e = .returned (.string (bs (padZ (encIn n.kids)))) /\ Below w.heap.size w w' := by
 obtain ⟨m, hm⟩ : ∃ m, n.kids.length = m := ⟨_, rfl⟩;obtain ⟨nb, hnb⟩ : ∃ c : UInt8, UInt8.ofNat m = c := ⟨_, rfl⟩;have hu : m % 256 = nb.toNat := by rw [<- hnb, u8_of]
 have hl0 : inE n.kids 0 = [78, nb] := by unfold inE; rw [hm, hnb]; rfl
 have hE : ndC po pc ko kc n = [.slice po n.ps.length pc, .slice ko m kc, .int .i64 n.page] := by unfold ndC; rw [hm]
 obtain ⟨q, hq⟩ : ∃ q, n.ps.length = q := ⟨_, rfl⟩;obtain ⟨pg, hpg⟩ : ∃ q, n.page = q := ⟨_, rfl⟩;rw [hq, hpg] at hE;have Hm := zhI hm;have Hl0 := zhI hl0;rw [hm] at h2 h8;have Hu : Hid ((nb.toNat : Int) = (m : Int)) := zhI (by omega);have Hh := zhI h;have x0 : Bx (w.alloc (.cells #[.slice po q pc, .slice ko m kc, .int .i64 pg] 95)) w.heap.size #[.slice po q pc, .slice ko m kc, .int .i64 pg] 95 := Bx.new w _ _;have hm0 : ((m : Int) == 0) = false := by simp; omega
 rw [hE];clear hm hnb hu hl0 h hE hq hpg;have cX := x0.cell;have lX := x0.lt;go_enter Tryz.func96, Tryz.ntmps96;go_wp2_with (refine zbx rfl _ 139 9 5 rfl Tryz.underlying139 Tryz.underlying5 Tryz.underlying9 (some ⟨w.heap.size + 1, 0, none⟩) 2 2 [78, nb] rfl rfl (S := (· = w.heap.size + 1)) (by rw [show zam [78, nb] = [.int .u8 78, .int .u8 (m : Int)] by simp [zam, Hu.out]]; exact RowAt.bx (Bx.newAt _ _ _ _ (by simp))) ?_);clear cX lX
 go_loopw [5, 6] (fun v i wr => ∃ k : Nat, k <= m /\ i = .int .i64 k /\ v = .string (bs (inE n.kids k)) /\ Bx wr w.heap.size #[.slice po q pc, .slice ko m kc, .int .i64 pg] 95 /\ Below w.heap.size w wr) (fun _ i _ => m - (intOf i).toNat)
 case atStart => refine ⟨0, by omega, rfl, by rw [Hl0.out], x0.alloc _, ?_⟩;exact (Below.one w _).alloc (by simp) _
 case round =>
  clear x0;obtain ⟨k, hk, rfl, rfl, x, hB⟩ := hrel;have hz := hB.size;have cX := x.cell;have lX := x.lt;have hlen := zhE (kids := n.kids) (by rw [Hm.out]; exact h8)
  by_cases hlt : k < m
  .
   have hlk : k < n.kids.length := by rw [Hm.out]; exact hlt
   obtain ⟨g, off, p1, c1, k1, d1, rfl, hg, hle, -, -, e2, -⟩ := Hh.out.kid (i := k) hlk;have f2 : wr.cell? ⟨g, off + k * 3 + 2, none⟩ = some (.int .i64 n.kids[k].page) := by rw [hB.cell hg]; exact e2
   have hp0 := (hok _ (List.getElem_mem hlk)).2.2.1;have hp1 := (hok _ (List.getElem_mem hlk)).2.2.2;have hl1 := hlen k;have Hs := zhI (zin hlk);obtain ⟨pk, hpk⟩ : ∃ q, n.kids[k].page = q := ⟨_, rfl⟩;rw [hpk] at f2 hp0 hp1 Hs;have e5 : wrap64 (pk / 256) = pk / 256 := IntWalk.wrap64_in _ (by omega);obtain ⟨S, hS⟩ : ∃ S, bs (inE n.kids k) = S := ⟨_, rfl⟩;have z1 : S.size <= 18 := by rw [<- hS, zaj]; exact hl1
   obtain ⟨b1, hb1⟩ : ∃ c : UInt8, UInt8.ofNat (pk / 256).toNat = c := ⟨_, rfl⟩;obtain ⟨b2, hb2⟩ : ∃ c : UInt8, UInt8.ofNat pk.toNat = c := ⟨_, rfl⟩;have e1 : pk / 256 % 256 = (b1.toNat : Int) := by rw [<- hb1, u8_of]; omega
   have e2' : pk % 256 = (b2.toNat : Int) := by rw [<- hb2, u8_of]; omega
   have e3 : pk.tdiv 256 = pk / 256 := Int.tdiv_eq_ediv_of_nonneg hp0;have e4 : pk.tmod 256 = pk % 256 := Int.tmod_eq_emod_of_nonneg hp0;have hpb : pageB pk = [b1, b2] := by unfold pageB; rw [hb1, hb2]
   rw [hpb] at Hs;have hTz : ByteArray.size { data := #[b1, b2] } = 2 := rfl;have q1 : ¬ 9223372036854775807 < S.size + 2 := by omega
   have HS : Hid (S ++ ⟨#[b1, b2]⟩ = bs (inE n.kids (k + 1))) := zhI (by rw [Hs.out, <- hS, <- zbr]);rw [hS];have HB := zhI hB;have hgr : g < wr.heap.size := by omega
   have hmp : m <= kc := by rw [Hm.out] at hle; exact hle
   clear hpk hS hb1 hb2 hpb hl1 Hs e2 hB hle hlen;go_upto_region 12 with fail
   have cQ := Lat.cells wr;refine zal 21 0 #[true, true, true, true, true, true, true, true, true, true, true, true, true, true, true, true, true, true, true, true, true] (fun i => if i = 17 then some (zkn (.int .u8 (b1.toNat : Int)) (.int .u8 (b2.toNat : Int)) 5) else if i = 18 then some (annK (.string (bs [b1, b2]))) else none) (by kernel_rfl) (by rfl) (by rfl) (by kernel_rfl) ?_;simp only [List.take_succ_cons, List.take_zero];refine LW.block 17 17 (by rfl) (by kernel_rfl) (by kernel_rfl) ?_;simp only [ztP]
   repeat (first | go_big_quiet_skip | (go_big_quiet_want; go_big_quiet_op; go_big_quiet_on))
   refine wpQuiet_nil ?_;refine LW.lzy _ (by rfl) (by rfl) ?_ ?_
   . intro yL _;unfold lzAt;go_simp;exact ⟨Below.one _ _, fun _ => undef, rfl, fun w'' hb => (Bx.new yL.w _ _).belowAll hb⟩
   intro r17;simp only [Act.put, zsP];refine LW.lzy _ (by rfl) (by rfl) ?_ ?_
   . intro yL hf;have hx := (hf 17 (by decide +kernel)).get (by rfl) (by rfl);exact zkK (.tmp 74) 139 9 5 rfl Tryz.underlying139 Tryz.underlying5 Tryz.underlying9 _ 2 2 [b1, b2] rfl rfl (S := (· = r17.lo)) (RowAt.bx hx)
   intro r18;simp only [Act.put, zsP]
   (try simp only [annK])
   refine LW.block 2 21 (by rfl) (by kernel_rfl) (by kernel_rfl) ?_;simp only [ztP]
   repeat (first | go_big_quiet_skip | (go_big_quiet_want; go_big_quiet_op; go_big_quiet_on))
   refine wpQuiet_nil ?_;refine LW.done ?_;intro W2 hG;have hb2 := hG.below;have HR := zhI (zaI (x.belowAll hb2) (Below.then HB.out hb2 hz));refine wpAny_done (by kernel_rfl) ?_ _;clear cX lX cQ HB x hb2 f2 hG;go_wp2;go_roundw
   case rel => exact ⟨k + 1, by omega, by go_num, by rw [<- HS.out], HR.out.1, HR.out.2⟩
   case measure => simp [intOf]; omega
  .
   obtain ⟨wo, rfl⟩ : ∃ wo, wo = wr := ⟨_, rfl⟩;obtain rfl : k = m := by omega
   have hl1 := zh4 hok (by rw [Hm.out]; exact h8);have hs0 : bs (inE n.kids k) = bs (inF n.kids 0) := by rw [zit, Hm.out]
   rw [hs0];have HB := zhI hB;have Hx := zhI x;clear hs0 hlen;go_upto_region 14 with fail
   clear cX lX x hB
   go_loopw [5, 7] (fun v i wq => ∃ j : Nat, 1 <= j /\ j <= k /\ i = .int .i64 j /\ v = .string (bs (inF n.kids (j - 1))) /\ Bx wq w.heap.size #[.slice po q pc, .slice ko k kc, .int .i64 pg] 95 /\ Below w.heap.size w wq) (fun _ i _ => k - (intOf i).toNat)
   case atStart => exact ⟨1, by omega, by omega, rfl, rfl, Hx.out, HB.out⟩
   case round =>
    clear Hx HB hz;obtain ⟨j, hj1, hj, rfl, rfl, x, hB⟩ := hrel;have hz := hB.size;have cX := x.cell;have lX := x.lt
    by_cases hlt : j < k
    .
     have hlk : j < n.kids.length := by rw [Hm.out]; exact hlt
     have hlt3 : j - 1 < n.kids.tail.length := by rw [List.length_tail, Hm.out]; omega
     obtain ⟨g, off, p1, c1, k1, d1, rfl, hg, hle, e0, e1, e2, hN⟩ := Hh.out.kid (i := j) hlk;have f0 : wr.cell? ⟨g, off + j * 3, none⟩ = some (.slice p1 n.kids[j].ps.length c1) := by rw [hB.cell hg]; exact e0
     have f1 : wr.cell? ⟨g, off + j * 3 + 1, none⟩ = some (.slice k1 n.kids[j].kids.length d1) := by rw [hB.cell hg]; exact e1
     have f2 : wr.cell? ⟨g, off + j * 3 + 2, none⟩ = some (.int .i64 n.kids[j].page) := by rw [hB.cell hg]; exact e2
     have hko := hok _ (List.getElem_mem hlk);have hN2 : n.kids.tail[j - 1] = n.kids[j] := by rw [List.getElem_tail];congr 1;omega
     have Hs := zhI (ziy hlt3);rw [hN2] at Hs;obtain ⟨kd, hkd⟩ : ∃ x, n.kids[j] = x := ⟨_, rfl⟩;rw [hkd] at f0 f1 f2 hko Hs hN;have hlst := zl8 kd p1 k1 c1 d1 wr (hN.stays hB) hko.1;obtain ⟨sk, hsk⟩ : ∃ s, kd.least = s := ⟨_, rfl⟩;have hks := hko.2.1;rw [hsk] at hks hlst Hs;have hl2 := hl1 (j - 1);obtain ⟨S, hS⟩ : ∃ S, bs (inF n.kids (j - 1)) = S := ⟨_, rfl⟩;obtain ⟨T, hT⟩ : ∃ S, bs (textL sk) = S := ⟨_, rfl⟩;have z1 : S.size <= 361 := by rw [<- hS, zaj]; exact hl2
     have z2 : T.size <= 49 := by rw [<- hT, zaj, zby]; omega
     have q1 : ¬ 9223372036854775807 < S.size + T.size := by omega
     have HS : Hid (S ++ T = bs (inF n.kids (j - 1 + 1))) := zhI (by rw [Hs.out, <- hS, <- hT, zbr]);have hsh : ∀ W, Calls Tryz.prog 134 #[.string sk] W fun e w' => e = .returned (.string T) /\ Below W.heap.size W w' := fun W => hT ▸ zgn sk W (by omega);rw [hS];have HB := zhI hB;have Hle := zhI hlst;have hgr : g < wr.heap.size := by omega
     have hmp : k <= kc := by rw [Hm.out] at hle; exact hle
     unfold ndC at Hle;clear hlst hsk hS hT hkd hN hN2 Hs hle hB e0 e1 e2 hko hl2;go_wp2_with fail;refine Hle.out.mono ?_;rintro e w2 ⟨rfl, hb2⟩;go_wp2_with fail;refine (hsh _).mono ?_;rintro e w3 ⟨rfl, hb3⟩;have HR := zhI (zaI ((x.belowAll hb2).belowAll hb3) (Below.then HB.out (btr hb2 hb3) hz));clear HB Hle x f0 f1 f2 cX lX hb2 hb3;go_wp2;go_roundw
     case rel => exact ⟨j + 1, by omega, by omega, by go_num, by rw [HS.out, show j - 1 + 1 = j + 1 - 1 by omega], HR.out.1, HR.out.2⟩
     case measure => simp [intOf]; omega
    .
     obtain rfl : j = k := by omega
     have hl2 := hl1 (j - 1);have hjt : n.kids.tail.length = j - 1 := by rw [List.length_tail, Hm.out]
     rw [show inF n.kids (j - 1) = encIn n.kids by rw [<- zhV, hjt]] at hl2 |-;have hf := zeN (bs (encIn n.kids)) wr (by rw [zaj]; omega);rw [za3] at hf;clear hl1 hl2 hjt;go_wp2_with fail;refine hf.mono ?_;rintro e w2 ⟨rfl, hb2⟩;go_wp2;go_ret;exact ⟨rfl, Below.then hB hb2 hz⟩
theorem zid (n : Nd) (po ko : Option Addr) (pc kc : Nat) (w : World) (h : NdC w (ndC po pc ko kc n) n) (hok : EncOk n) :
  Calls Tryz.prog 96 #[.agg (ndC po pc ko kc n).toArray] w fun e w' => e = .returned (.string (bs (encD n))) /\ Below w.heap.size w w' := by
 unfold encD encL;rcases hok with ⟨h1, h2, h3⟩ | ⟨h1, h2, h3⟩
 . rw [if_pos h1];exact zfP n po ko pc kc w h h1 h2 h3
 . rw [if_neg (by intro e; rw [e] at h1; simp at h1)];exact ze5 n po ko pc kc w h h1 h2 h3
theorem zl7 {L r : List UInt8} {x : Kv} (h : pairP L = some (x, r)) : KvOk x := by
 unfold pairP at h;split at h
 . cases h
 .
  split at h
  . cases h
  .
   split at h
   . cases h
   .
    rename_i hn
    simp only [Option.some.injEq, Prod.mk.injEq] at h;obtain ⟨rfl, rfl⟩ := h;unfold KvOk;simp only [zaj];omega
theorem zbn : ∀ {n : Nat} {L : List UInt8} {ps : List Kv}, leafP n L = some ps -> ps.length = n /\ ∀ p ∈ ps, KvOk p
 | 0, _, _, h => by simp only [leafP, Option.some.injEq] at h;subst h;exact ⟨rfl, fun _ h => by cases h⟩
 | n + 1, L, ps, h => by
  rw [leafP] at h;split at h
  . cases h
  .
   rename_i x r hx
   obtain ⟨q, hq, rfl⟩ := Option.map_eq_some_iff.1 h;obtain ⟨h1, h2⟩ := zbn hq;refine ⟨by rw [zlC, h1], fun p hp => ?_⟩;rcases zmC.1 hp with rfl | hp
   . exact zl7 hx
   . exact h2 p hp
theorem zcb {g : Int -> List Int -> Option (Nd × Nat × List Int)} : ∀ {l : List Int} {o : Option Nat} {u u' : List Int} {ns : List Nd} {k : Nat}, kidsV g l o u = some (ns, k, u') ->
  ns.length = l.length /\ ∀ x ∈ ns, ∃ p u1 k1 u2, g p u1 = some (x, k1, u2)
 | [], _, _, _, _, _, h => by simp only [kidsV, Option.some.injEq, Prod.mk.injEq] at h;obtain ⟨rfl, -, -⟩ := h;exact ⟨rfl, fun _ h => by cases h⟩
 | p :: r, o, u, u', ns, k, h => by
  rw [kidsV] at h;split at h
  . cases h
  .
   rename_i n k1 u1 hg
   split at h
   . cases h
   .
    obtain ⟨⟨m, k2, u2⟩, hm, e⟩ := Option.map_eq_some_iff.1 h;simp only [Prod.mk.injEq] at e;obtain ⟨rfl, rfl, rfl⟩ := e;obtain ⟨h1, h2⟩ := zcb hm;refine ⟨by rw [zlC, zlC, h1], fun x hx => ?_⟩;rcases zmC.1 hx with rfl | hx
    . exact ⟨p, u, k1, u1, hg⟩
    . exact h2 x hx
def GoodN (frm til : Int) (n : Nd) : Prop := n.first = true /\ n.least.size <= 48 /\ frm + 2 <= n.page /\ n.page < til /\ EncOk n
theorem zft {ps : List Kv} {pg : Int} (h : 0 < ps.length) : (Nd.mk ps [] pg).first = true := by
 rw [Nd.first];cases ps with
 | nil => simp at h
 | cons => rfl
theorem zfg {ps : List Kv} {pg : Int} (h : ∀ p ∈ ps, KvOk p) : (Nd.mk ps [] pg).least.size <= 48 := by
 rw [Nd.least];cases ps with
 | nil => exact Nat.zero_le _
 | cons x l => exact (h x (by simp)).1
theorem zf8 {d : Dsk} {frm til : Int} (h0 : 0 <= frm) (h1 : til <= 1000000) : ∀ (f : Nat) {root : Bool} {page : Int} {used u : List Int} {n : Nd} {k : Nat}, loadP d frm til f root page used = some (n, k, u) -> GoodN frm til n /\ n.page = page
 | 0, _, _, _, _, _, _, h => by cases h
 | f + 1, root, page, used, u, n, k, h => by
  rw [loadP] at h;split at h
  . cases h
  .
   rename_i hp
   split at h
   .
    split at h
    . cases h
    .
     rename_i hc
     split at h
     . cases h
     .
      rename_i ps hps
      split at h
      . simp only [Option.some.injEq, Prod.mk.injEq] at h;obtain ⟨rfl, -, -⟩ := h;obtain ⟨e1, e2⟩ := zbn hps;refine ⟨⟨zft (by omega), zfg e2, by show frm + 2 <= page; omega, by show page < til; omega, .inl ⟨rfl, by show ps.length <= 3; omega, e2⟩⟩, rfl⟩
      . cases h
   .
    split at h
    . cases h
    .
     rename_i hc
     split at h
     . cases h
     .
      rename_i kids k1 u1 hk
      split at h
      .
       simp only [Option.some.injEq, Prod.mk.injEq] at h;obtain ⟨rfl, -, -⟩ := h;obtain ⟨e1, e2⟩ := zcb hk;have hlen : kids.length = ((pageL d page).getD 1 0).toNat := by rw [e1]; simp [zar]
       have hgood : ∀ x ∈ kids, GoodN frm til x := fun x hx => by obtain ⟨p, u2, k2, u3, hg⟩ := e2 x hx;exact (zf8 h0 h1 f hg).1
       have henc : EncOk (Nd.mk [] kids page) := .inr ⟨by show 2 <= kids.length; omega, by show kids.length <= 8; omega, fun x hx => by obtain ⟨g1, g2, g3, g4, _⟩ := hgood x hx;exact ⟨g1, g2, by omega, by omega⟩⟩
       refine ⟨⟨?_, ?_, by show frm + 2 <= page; omega, by show page < til; omega, henc⟩, rfl⟩
       .
        cases kids with
        | nil => rw [List.length_nil] at hlen; omega
        | cons c r => rw [Nd.first]; exact (hgood c (by simp)).1
       .
        cases kids with
        | nil => rw [List.length_nil] at hlen; omega
        | cons c r => rw [Nd.least]; exact (hgood c (by simp)).2.1
      . cases h
theorem zda : ∀ (n : Nat) (l : List Int) (a : Int), l.Nodup -> (∀ x ∈ l, a <= x /\ x < a + n) -> l.length <= n
 | 0, [], _, _, _ => Nat.le_refl _
 | 0, x :: l, a, _, h => by have := h x (by simp); omega
 | n + 1, l, a, hn, h => by
  have h1 := zda n (l.erase (a + n)) a (hn.erase _) fun x hx => by
   have h2 := h x (List.mem_of_mem_erase hx);have h3 : x ≠ a + n := fun e => by subst e; exact (List.Nodup.not_mem_erase hn) hx
   omega
  have h4 := List.length_erase (l := l) (a := a + (n : Int));split at h4 <;> omega
def zaV (frm til : Int) (u : List Int) : Prop := u.Nodup /\ ∀ p ∈ u, frm + 2 <= p /\ p < til
theorem zaV.len {frm til : Int} {u : List Int} (h : zaV frm til u) (hf : frm + 2 <= til) : u.length <= (til - frm - 2).toNat :=
 zda _ u (frm + 2) h.1 fun x hx => by have := h.2 x hx; omega
theorem zaV.snoc {frm til page : Int} {u : List Int} (h : zaV frm til u) (h1 : frm + 2 <= page) (h2 : page < til) (h3 : page ∉ u) : zaV frm til (u ++ [page]) := by
 refine ⟨?_, fun p hp => ?_⟩
 . rw [List.nodup_append];exact ⟨h.1, by simp, fun x hx y hy e => by simp at hy; subst hy; subst e; exact h3 hx⟩
 .
  rcases zmA.1 hp with hp | hp
  . exact h.2 p hp
  . simp at hp; subst hp; exact ⟨h1, h2⟩
theorem zfc {frm til : Int} {g : Int -> List Int -> Option (Nd × Nat × List Int)} (hg : ∀ p u n k u', g p u = some (n, k, u') -> zaV frm til u -> zaV frm til u' /\ u.length <= u'.length) :
  ∀ {l : List Int} {o : Option Nat} {u u' : List Int} {ns : List Nd} {k : Nat}, kidsV g l o u = some (ns, k, u') -> zaV frm til u -> zaV frm til u' /\ u.length <= u'.length
 | [], _, _, _, _, _, h, hu => by simp only [kidsV, Option.some.injEq, Prod.mk.injEq] at h;obtain ⟨-, -, rfl⟩ := h;exact ⟨hu, Nat.le_refl _⟩
 | p :: r, o, u, u', ns, k, h, hu => by
  rw [kidsV] at h;split at h
  . cases h
  .
   rename_i n k1 u1 hx
   split at h
   . cases h
   . obtain ⟨⟨m, k2, u2⟩, hm, e⟩ := Option.map_eq_some_iff.1 h;simp only [Prod.mk.injEq] at e;obtain ⟨rfl, rfl, rfl⟩ := e;obtain ⟨a1, a2⟩ := hg _ _ _ _ _ hx hu;obtain ⟨b1, b2⟩ := zfc hg hm a1;exact ⟨b1, by omega⟩
theorem zcH {d : Dsk} {frm til : Int} : ∀ (f : Nat) {root : Bool} {page : Int} {used u : List Int} {n : Nd} {k : Nat}, loadP d frm til f root page used = some (n, k, u) -> zaV frm til used -> zaV frm til u /\ used.length < u.length
 | 0, _, _, _, _, _, _, h, _ => by cases h
 | f + 1, root, page, used, u, n, k, h, hu => by
  rw [loadP] at h;split at h
  . cases h
  .
   rename_i hp
   have hu2 := hu.snoc (page := page) (by omega) (by omega) fun hm => hp (.inr (.inr hm));split at h
   .
    split at h
    . cases h
    .
     split at h
     . cases h
     .
      split at h
      . simp only [Option.some.injEq, Prod.mk.injEq] at h;obtain ⟨-, -, rfl⟩ := h;exact ⟨hu2, by simp⟩
      . cases h
   .
    split at h
    . cases h
    .
     split at h
     . cases h
     .
      rename_i kids k1 u1 hk
      split at h
      .
       simp only [Option.some.injEq, Prod.mk.injEq] at h;obtain ⟨-, -, rfl⟩ := h;obtain ⟨a1, a2⟩ := zfc (fun p u n k u' hg hu' => by have := zcH f hg hu';exact ⟨this.1, by omega⟩) hk hu2
       refine ⟨a1, ?_⟩;rw [zlA] at a2;simp at a2;omega
      . cases h
theorem zhi {m : Nat} {g : Int -> List Int -> Option (Nd × Nat × List Int)} (hg : ∀ p u n k u', g p u = some (n, k, u') -> k <= m) :
  ∀ {l : List Int} {o : Option Nat} {u u' : List Int} {ns : List Nd} {k : Nat}, kidsV g l o u = some (ns, k, u') -> o.getD 0 <= m -> k <= m
 | [], _, _, _, _, _, h, ho => by simp only [kidsV, Option.some.injEq, Prod.mk.injEq] at h;obtain ⟨-, rfl, -⟩ := h;exact ho
 | p :: r, o, u, u', ns, k, h, ho => by
  rw [kidsV] at h;split at h
  . cases h
  .
   rename_i n k1 u1 hx
   split at h
   . cases h
   . obtain ⟨⟨m', k2, u2⟩, hm, e⟩ := Option.map_eq_some_iff.1 h;simp only [Prod.mk.injEq] at e;obtain ⟨rfl, rfl, rfl⟩ := e;exact zhi hg hm (by simpa using hg _ _ _ _ _ hx)
theorem zhf {d : Dsk} {frm til : Int} : ∀ (f : Nat) {root : Bool} {page : Int} {used u : List Int} {n : Nd} {k : Nat}, loadP d frm til f root page used = some (n, k, u) -> k <= f
 | 0, _, _, _, _, _, _, h => by cases h
 | f + 1, root, page, used, u, n, k, h => by
  rw [loadP] at h;split at h
  . cases h
  .
   split at h
   .
    split at h
    . cases h
    .
     split at h
     . cases h
     .
      split at h
      . simp only [Option.some.injEq, Prod.mk.injEq] at h;omega
      . cases h
   .
    split at h
    . cases h
    .
     split at h
     . cases h
     .
      rename_i kids k1 u1 hk
      split at h
      . simp only [Option.some.injEq, Prod.mk.injEq] at h;have := zhi (fun p u n k u' hg => zhf f hg) hk (Nat.zero_le _);omega
      . cases h
def zen : Option (List UInt8 × List UInt8) -> Value
 | none => .tuple #[.string (bs []), .string (bs []), .bool false]
 | some (k, r) => .tuple #[.string (bs k), .string (bs r), .bool true]
theorem zep (L : List UInt8) (i : Nat) (_h : i < L.length) (h' : i < (bs L).size) : (bs L)[i] = L[i] := by
 show (bs L).data[i] = L[i];simp
set_option maxHeartbeats 2000000 in
theorem zcT (L : List UInt8) (w : World) (hl : L.length <= 1000000) :
  Calls Tryz.prog 177 #[.string (bs L)] w fun e w' => e = .returned (zen (textP L)) /\ Below w.heap.size w w' := by
 cases L with
 | nil => go_enter Tryz.func177, Tryz.ntmps177;go_wp2;refine bodyPost_ret (v := .tuple #[.string (bs []), .string (bs []), .bool false]) (by simp [results, Tryz.results177, go_sem]) rfl ?_;exact ⟨rfl, Below.refl _ _⟩
 | cons c r =>
  obtain ⟨s, hs⟩ : ∃ s, bs (c :: r) = s := ⟨_, rfl⟩;have hz : s.size = r.length + 1 := by rw [<- hs, zaj]; rfl
  have h0 : (h : 0 < s.size) -> s[0] = c := by subst hs; intro h; rw [zep _ _ (by simp)]; rfl
  have h0' := h0 (by omega);have hne : (s.toList == []) = false := by rw [beq_eq_false_iff_ne, ByteArray.toList_eq, <- hs, za3]; simp
  have hc := c.toNat_lt;have Hs := zhI hs;rw [hs];simp only [zlC] at hl;cases g : decide (r.length < c.toNat)
  .
   have g' := of_decide_eq_false g;have e1 : s.extract 1 (1 + c.toNat) = bs (r.take c.toNat) := by rw [<- hs, zeT]; simp
   have e2 : s.extract (1 + c.toNat) (r.length + 1) = bs (r.drop c.toNat) := by rw [<- hs, zeT];congr 1;rw [List.take_of_length_le (by simp)];rw [Nat.add_comm, List.drop_succ_cons]
   have hres : zen (textP (c :: r)) = .tuple #[.string (bs (r.take c.toNat)), .string (bs (r.drop c.toNat)), .bool true] := by simp only [textP]; rw [if_neg (by omega)]; rfl
   rw [hres];have E1 := zhI e1;have E2 := zhI e2;clear hs h0 g e1 e2 hres;obtain ⟨n, hn⟩ : ∃ n, c.toNat = n := ⟨_, rfl⟩;have hc0 : (s[0]'(by omega)).toNat = n := by rw [h0']; exact hn
   rw [hn] at g' hc E1 E2 |-;have q1 : ¬ (s.size : Int) < 1 + (n : Int) := by omega
   clear h0' hn;go_enter Tryz.func177, Tryz.ntmps177;go_wp2_with fail;have cQ := Lat.cells w;refine zay (by kernel_rfl) (by kernel_rfl) ?_
   repeat (any_goals (first | go_big_quiet_skip | (go_big_quiet_want; go_big_quiet_op; first | go_big_quiet_on | go_big_quiet_call ((fail))) | quiet_step ((fail))))
   refine wpQuiet_nil ?_;rintro W2 ⟨⟨_, hb2⟩, rfl⟩;go_wp2;refine bodyPost_ret (v := .tuple #[.string (s.extract 1 (1 + n)), .string (s.extract (1 + n) (r.length + 1)), .bool true]) (by simp [results, Tryz.results177, go_sem]) rfl ?_;exact ⟨by rw [E1.out, E2.out], hb2⟩
  .
   have g' := of_decide_eq_true g;have hres : zen (textP (c :: r)) = .tuple #[.string (bs []), .string (bs []), .bool false] := by simp only [textP]; rw [if_pos g']; rfl
   rw [hres];obtain ⟨n, hn⟩ : ∃ n, c.toNat = n := ⟨_, rfl⟩;have hc0 : (s[0]'(by omega)).toNat = n := by rw [h0']; exact hn
   rw [hn] at g' hc;clear hs h0 g hres h0' hn;go_enter Tryz.func177, Tryz.ntmps177;go_wp2;refine bodyPost_ret (v := .tuple #[.string (bs []), .string (bs []), .bool false]) (by simp [results, Tryz.results177, go_sem]) rfl ?_;exact ⟨rfl, Below.refl _ _⟩
def txtAt (L : List UInt8) (i : Nat) : Value :=
 match textP (L.drop i) with
 | none => .tuple #[.string (bs []), .int .i64 (-1)]
 | some (k, _) => .tuple #[.string (bs k), .int .i64 ((i + 1 + k.length : Nat) : Int)]
set_option maxHeartbeats 1000000 in
theorem zhR (s : ByteArray) (w : World) (x : Int) (hx : x < 0) :
  Calls Tryz.prog 133 #[.string s, .int .i64 x] w fun e w' => e = .returned (.tuple #[.string (bs []), .int .i64 (-1)]) /\ w' = w := by
 go_enter Tryz.func133, Tryz.ntmps133;go_wp2;go_ret2;exact ⟨rfl, rfl⟩
set_option maxHeartbeats 2000000 in
theorem znf (L : List UInt8) (i : Nat) (w : World) (hl : L.length <= 1000000) (hi : i <= 1000000) :
  Calls Tryz.prog 133 #[.string (bs L), .int .i64 i] w fun e w' => e = .returned (txtAt L i) /\ w' = w := by
 obtain ⟨s, hs⟩ : ∃ s, bs L = s := ⟨_, rfl⟩;have hz : s.size = L.length := by rw [<- hs, zaj]
 rw [hs]
 by_cases hlt : i < L.length
 .
  obtain ⟨c, hc⟩ : ∃ c, L[i] = c := ⟨_, rfl⟩;have hd : L.drop i = c :: L.drop (i + 1) := by rw [List.drop_eq_getElem_cons hlt, hc]
  have h0 : (h : i < s.size) -> s[i] = c := by subst hs; intro h; rw [zep _ _ hlt]; exact hc
  obtain ⟨n, hn⟩ : ∃ n, c.toNat = n := ⟨_, rfl⟩;have hc0 : (s[i]'(by omega)).toNat = n := by rw [h0 (by omega)]; exact hn
  have hb := c.toNat_lt;rw [hn] at hb;cases g : decide (L.length < i + 1 + n)
  .
   have g' := of_decide_eq_false g;have g2 : ¬ (L.length : Int) < (i : Int) + 1 + (n : Int) := by omega
   have e1 : s.extract (i + 1) (i + 1 + n) = bs ((L.drop (i + 1)).take n) := by rw [<- hs, zeT]; congr 2; omega
   have hres : txtAt L i = .tuple #[.string (bs ((L.drop (i + 1)).take n)), .int .i64 ((i + 1 + n : Nat) : Int)] := by unfold txtAt;rw [hd];simp only [textP, hn];rw [if_neg (by rw [List.length_drop]; omega)];show Value.tuple #[.string (bs ((L.drop (i + 1)).take n)), .int .i64 ((i + 1 + ((L.drop (i + 1)).take n).length : Nat) : Int)] = _;rw [List.length_take, List.length_drop, show min n (L.length - (i + 1)) = n by omega]
   rw [hres];have E1 := zhI e1;have hi0 : ¬ (i : Int) < 0 := by omega
   clear hs h0 g e1 hres hd hc hn;go_enter Tryz.func133, Tryz.ntmps133;go_wp2;go_ret2;refine ⟨?_, rfl⟩;rw [<- E1.out];simp
  .
   have g' := of_decide_eq_true g;have g2 : (L.length : Int) < (i : Int) + 1 + (n : Int) := by omega
   have hres : txtAt L i = .tuple #[.string (bs []), .int .i64 (-1)] := by unfold txtAt;rw [hd];simp only [textP, hn];rw [if_pos (by rw [List.length_drop]; omega)]
   rw [hres];clear hs h0 g hres hd hc hn;go_enter Tryz.func133, Tryz.ntmps133;go_wp2;go_ret2;exact ⟨rfl, rfl⟩
 .
  have hres : txtAt L i = .tuple #[.string (bs []), .int .i64 (-1)] := by unfold txtAt;rw [List.drop_of_length_le (by omega)];rfl
  rw [hres];have g2 : (L.length : Int) <= (i : Int) := by omega
  clear hs hres;go_enter Tryz.func133, Tryz.ntmps133;go_wp2;go_ret2;exact ⟨rfl, rfl⟩
theorem zaR {w : World} {base k n : Nat} {e : TypeId} {v : Value} {xs : List Value} (h : w.ownsRow base e k v n xs) : ∃ o c, v = .slice o n c := by
 obtain ⟨o, c, e, _⟩ := zai h;exact ⟨o, c, e⟩
theorem zbo : (Tryz.prog.info? 77).map (fun i => (i.zero, i.size, i.bytes)) = some (some (.agg #[.string .empty, .string .empty]), 2, 32) := by kernel_rfl
theorem zgV {L k r : List UInt8} (h : textP L = some (k, r)) : k.length <= 255 /\ r.length < L.length := by
 cases L with
 | nil => cases h
 | cons c l =>
  simp only [textP] at h;have hc := c.toNat_lt;split at h
  . cases h
  . simp only [Option.some.injEq, Prod.mk.injEq] at h;obtain ⟨rfl, rfl⟩ := h;simp only [List.length_take, List.length_drop, zlC];omega
theorem za8 {n : Nat} {L : List UInt8} (hn : 0 < n) (h : pairP L = none) : leafP n L = none := by
 cases n with
 | zero => omega
 | succ n => rw [leafP, h]
theorem zfB {n : Nat} {L r : List UInt8} {x : Kv} (hn : 0 < n) (h : pairP L = some (x, r)) : leafP n L = (leafP (n - 1) r).map (x :: ·) := by
 cases n with
 | zero => omega
 | succ n => rw [leafP, h]; rfl
def zcZ (o : Option (List Kv)) (w : World) (e : Ending) (w' : World) : Prop :=
 (match o with
 | none => e = .returned (.tuple #[.pointer none, .bool false])
 | some ps => ∃ pv, e = .returned (.tuple #[.pointer (some ⟨w.heap.size, 0, none⟩), .bool true]) /\ Lies w.heap.size w' (.mk w.heap.size pv (.slice none 0 0) ps [] 0)) /\ Below w.heap.size w w'
set_option maxHeartbeats 8000000 in
theorem zm6 (lp : Value) (L : List UInt8) (cnt : Nat) (w : World) (hl : L.length <= 1000000) (hc : cnt <= 1000) :
  Calls Tryz.prog 131 #[lp, .string (bs L), .int .i64 cnt] w (zcZ (leafP cnt L) w) := by
 obtain ⟨ip, hip, hz0, hz1, hz2⟩ := info_parts zbo;have Hi := zhI (zaI hip (zaI hz0 (zaI hz1 hz2)));clear hip hz0 hz1 hz2;obtain ⟨R, hR⟩ : ∃ R, zcZ (leafP cnt L) w = R := ⟨_, rfl⟩;rw [hR];have HR := zhI hR;clear hR;go_enter Tryz.func131, Tryz.ntmps131;go_wp2
 go_loopw [1, 18] (fun s i wr => ∃ (k : Nat) (M : List UInt8) (ps : List Kv) (o : Option Addr) (c : Nat), k <= cnt /\ i = .int .i64 k /\ s = .string (bs M) /\ M.length <= 1000000 /\ Hid (leafP cnt L = (leafP (cnt - k) M).map (ps ++ ·) /\ ps.length = k) /\
  Bx wr w.heap.size (nodeC true (.slice o k c) (.slice none 0 0) 0) 129 /\ wr.ownsRow w.heap.size 77 2 (.slice o k c) k (kvsC ps) /\ Below w.heap.size w wr) (fun _ i _ => cnt - (intOf i).toNat)
 case atStart => refine ⟨0, L, [], none, 0, by omega, rfl, rfl, hl, zhI ⟨?_, rfl⟩, Bx.new w _ _, World.ownsRow_nil _ _ _ _, Below.one _ _⟩;simp
 case round =>
  obtain ⟨k, M, ps, o, c, hk, rfl, rfl, hM, H, x, hown, hB⟩ := hrel;have hz := hB.size
  by_cases hlt : k < cnt
  .
   have hr1 := zcT M wr hM;cases h1 : textP M with
   | none => have HP : Hid (leafP cnt L = none) := zhI (by rw [H.out.1, za8 (by omega) (by unfold pairP; rw [h1])]; rfl);rw [h1] at hr1;have hr2 := fun W => zcT [] W (by simp);simp only [zen, textP] at hr1 hr2;clear h1 x hown H;go_wp2_with fail;refine hr1.mono ?_;rintro e w1 ⟨rfl, hb1⟩;go_wp2_with fail;refine (hr2 _).mono ?_;rintro e w2 ⟨rfl, hb2⟩;have hB2 := Below.then hB (btr hb1 hb2) hz;go_wp2;rw [<- HR.out];unfold zcZ;rw [HP.out];exact ⟨rfl, hB2⟩
   | some p =>
    obtain ⟨ky, r⟩ := p;obtain ⟨q1, q2⟩ := zgV h1;rw [h1] at hr1;simp only [zen] at hr1;have hr2 := fun W => zcT r W (by omega);obtain ⟨K, hK⟩ : ∃ K, bs ky = K := ⟨_, rfl⟩;have hKz : K.size = ky.length := by rw [<- hK, zaj]
    rw [hK] at hr1;cases h2 : textP r with
    | none => have HP : Hid (leafP cnt L = none) := zhI (by rw [H.out.1, za8 (by omega) (by unfold pairP; rw [h1]; simp only; rw [h2])]; rfl);rw [h2] at hr2;simp only [zen] at hr2;clear h1 h2 x hown H hK;go_wp2_with fail;refine hr1.mono ?_;rintro e w1 ⟨rfl, hb1⟩;go_wp2_with fail;refine (hr2 _).mono ?_;rintro e w2 ⟨rfl, hb2⟩;have hB2 := Below.then hB (btr hb1 hb2) hz;go_wp2;rw [<- HR.out];unfold zcZ;rw [HP.out];exact ⟨rfl, hB2⟩
    | some p =>
     obtain ⟨vl, r2⟩ := p;obtain ⟨q3, q4⟩ := zgV h2;rw [h2] at hr2;simp only [zen] at hr2;obtain ⟨V, hV⟩ : ∃ K, bs vl = K := ⟨_, rfl⟩;have hVz : V.size = vl.length := by rw [<- hV, zaj]
     rw [hV] at hr2;cases g1 : decide (48 < ky.length);rotate_left
     . have g1' := of_decide_eq_true g1;have HP : Hid (leafP cnt L = none) := zhI (by rw [H.out.1, za8 (by omega) (by unfold pairP; rw [h1]; simp only; rw [h2]; simp only; rw [if_pos (.inl g1')])]; rfl);clear h1 h2 x hown H hK hV;go_wp2_with fail;refine hr1.mono ?_;rintro e w1 ⟨rfl, hb1⟩;go_wp2_with fail;refine (hr2 _).mono ?_;rintro e w2 ⟨rfl, hb2⟩;have hB2 := Below.then hB (btr hb1 hb2) hz;go_wp2;rw [<- HR.out];unfold zcZ;rw [HP.out];exact ⟨rfl, hB2⟩
     have g1' := of_decide_eq_false g1;cases g2 : decide (80 < vl.length);rotate_left
     . have g2' := of_decide_eq_true g2;have HP : Hid (leafP cnt L = none) := zhI (by rw [H.out.1, za8 (by omega) (by unfold pairP; rw [h1]; simp only; rw [h2]; simp only; rw [if_pos (.inr g2')])]; rfl);clear h1 h2 x hown H hK hV;go_wp2_with fail;refine hr1.mono ?_;rintro e w1 ⟨rfl, hb1⟩;go_wp2_with fail;refine (hr2 _).mono ?_;rintro e w2 ⟨rfl, hb2⟩;have hB2 := Below.then hB (btr hb1 hb2) hz;go_wp2;rw [<- HR.out];unfold zcZ;rw [HP.out];exact ⟨rfl, hB2⟩
     have g2' := of_decide_eq_false g2;have hpp : pairP M = some ((K, V), r2) := by unfold pairP; rw [h1]; simp only; rw [h2]; simp only; rw [if_neg (by omega), hK, hV]
     have HP : Hid (leafP cnt L = (leafP (cnt - (k + 1)) r2).map ((ps ++ [(K, V)]) ++ ·) /\ (ps ++ [(K, V)]).length = k + 1) := zhI ⟨by
      rw [H.out.1, zfB (by omega) hpp, show cnt - k - 1 = cnt - (k + 1) by omega, Option.map_map];congr 1;funext y
      simp, by rw [zlA, H.out.2]; rfl⟩
     clear h1 h2 H hK hV hpp;go_wp2_with fail;refine hr1.mono ?_;rintro e w1 ⟨rfl, hb1⟩;go_wp2_with fail;refine (hr2 _).mono ?_;rintro e w2 ⟨rfl, hb2⟩;have hb12 := btr hb1 hb2;have hB2 := Below.then hB hb12 hz;have x2 := x.belowAll hb12;have hown2 := zae hown hb12;have hz2 := hB2.size;have cX := x2.cell;have lX := x2.lt;have fX := x2.free;unfold nodeC at cX;clear x hown hB hb1 hb2 hb12 hr1 hr2;have H1c : Hid (∀ u ∈ [Value.string K, Value.string V], u.oneCell' = true) := zhI (by intro u hu; simp at hu; rcases hu with rfl | rfl <;> rfl)
     have HRW : Hid (RowAt (· = w2.heap.size) (w2.alloc (.cells #[.string K, .string V] 77)) (some ⟨w2.heap.size, 0, none⟩) [.string K, .string V]) := zhI (RowAt.bx (Bx.new w2 #[.string K, .string V] 77));have hown2a := hown2.alloc (.cells #[.string K, .string V] 77);have x2a := x2.alloc (.cells #[.string K, .string V] 77);go_wp2_with (at_builtin; refine zau rfl _ _ 41 rfl w.heap.size 77 ip _ 2 32 Tryz.underlying41 Hi.out.1 Hi.out.2.1 Hi.out.2.2.1 Hi.out.2.2.2 rfl (by decide) (.slice o k c) k (kvsC ps) rfl hown2a (some ⟨w2.heap.size, 0, none⟩) 1 1 [.string K, .string V] rfl (by intro e; cases e) rfl HRW.out H1c.out (by unfold maxLen; omega) (by omega) (by simp; omega) ?_; intro v3 w3 hown3 hg3; obtain ⟨o3, c3, rfl⟩ := zaR hown3; have x3 := x2a.grown hg3 (fun e => zab hown2a x2a (by decide) e.symm); have cX3 := x3.cell; have fX3 := x3.free; have lX3 := x3.lt; unfold nodeC at cX3);go_roundw
     case rel =>
      refine ⟨k + 1, r2, ps ++ [(K, V)], o3, c3, by omega, by go_num, rfl, by omega, HP, ?_, ?_, ?_⟩
      . have := x3.set 1 (.slice o3 (k + 1) c3);unfold nodeC at this |-;simpa using this
      .
       have e : kvsC (ps ++ [(K, V)]) = kvsC ps ++ [.string K, .string V] := by rw [zbP]; rfl
       rw [e];exact zac hown3 (a := ⟨w.heap.size, 1, none⟩) (zab hown3 x3 (by decide)) _
      . exact zaa (Below.grownOwn (hB2.alloc hz2 _) hown2a hg3 (by simp; omega)) (Nat.le_refl _)
     case measure => simp [intOf]; omega
  .
   obtain rfl : k = cnt := by omega
   have hP : leafP k L = some ps := by rw [H.out.1, Nat.sub_self, leafP];simp
   have hlies : Lies w.heap.size wr (.mk w.heap.size (.slice o k c) (.slice none 0 0) ps [] 0) := by
    refine .mk _ _ _ _ _ _ (Nat.le_refl _) x ?_ ?_ (fun _ h => by cases h)
    . rw [H.out.2]; exact RowO.own hown
    . exact RowO.own (World.ownsRow_nil _ _ _ _)
   have HP := zhI hP;have HL := zhI hlies;clear hP hlies x hown;go_wp2;rw [<- HR.out];unfold zcZ;rw [HP.out];exact ⟨⟨_, rfl, HL.out⟩, hB⟩
inductive NdS (S : Nat -> Prop) (w : World) : List Value -> Nd -> Prop
 | mk (ps : List Kv) (kids : List Nd) (page : Int) (po : Option Addr) (pc : Nat) (ko : Option Addr) (kc : Nat) (KC : List (List Value))
  (h1 : SlW po ps.length pc) (h2 : RowAt S w po (kvsC ps)) (h3 : SlW ko kids.length kc) (h4 : KC.length = kids.length) (h5 : RowAt S w ko KC.flatten)
  (h6 : ∀ (i : Nat) (h : i < kids.length) (h' : i < KC.length), NdS S w KC[i] kids[i]) : NdS S w [.slice po ps.length pc, .slice ko kids.length kc, .int .i64 page] (.mk ps kids page)
theorem NdS.cells {S : Nat -> Prop} {w : World} {cs : List Value} {n : Nd} (h : NdS S w cs n) : ∃ po pc ko kc, cs = ndC po pc ko kc n := by
 cases h with | mk ps kids page po pc ko kc KC h1 h2 h3 h4 h5 h6 => exact ⟨po, pc, ko, kc, rfl⟩
theorem RowAt.same' {S : Nat -> Prop} {w w' : World} {o : Option Addr} {xs : List Value} (h : RowAt S w o xs) (hs : ∀ b, S b -> w'.heap[b]? = w.heap[b]?) : RowAt S w' o xs := by
 intro j hj;obtain ⟨g, off, e, hc, hg⟩ := h j hj;exact ⟨g, off, e, by rw [<- hc]; simp [World.cell?, hs g hg], hg⟩
theorem NdS.same {S T : Nat -> Prop} {w w' : World} (hs : ∀ b, S b -> w'.heap[b]? = w.heap[b]?) (hT : ∀ b, S b -> T b) : ∀ {n : Nd} {cs : List Value}, NdS S w cs n -> NdS T w' cs n := by
 intro n
 induction n using Nd.ind with
 | h ps kids page ih =>
  intro cs h;cases h with | mk ps kids page po pc ko kc KC h1 h2 h3 h4 h5 h6 =>
   exact .mk _ _ _ _ _ _ _ KC h1 ((h2.same' hs).mono hT) h3 h4 ((h5.same' hs).mono hT) fun i hi hi' => ih _ (List.getElem_mem hi) (h6 i hi hi')
theorem NdS.c {S : Nat -> Prop} {w : World} (hT : ∀ b, S b -> b < w.heap.size) : ∀ {n : Nd} {cs : List Value}, NdS S w cs n -> NdC w cs n := by
 intro n
 induction n using Nd.ind with
 | h ps kids page ih =>
  intro cs h;cases h with | mk ps kids page po pc ko kc KC h1 h2 h3 h4 h5 h6 =>
   exact .mk _ _ _ _ _ _ _ KC h1 (h2.mono hT) h3 h4 (h5.mono hT) fun i hi hi' => ih _ (List.getElem_mem hi) (h6 i hi hi')
theorem NdS.leaf {S : Nat -> Prop} {w : World} {po : Option Addr} {pc : Nat} {ps : List Kv} {page : Int} (h1 : SlW po ps.length pc) (h2 : RowAt S w po (kvsC ps)) : NdS S w [.slice po ps.length pc, .slice none 0 0, .int .i64 page] (.mk ps [] page) :=
 .mk ps [] page po pc none 0 [] h1 h2 (.inl ⟨rfl, rfl, rfl⟩) rfl (RowAt.nil _ _ _) (fun i hi => by simp at hi)
theorem NdS.page {S : Nat -> Prop} {w : World} {po ko : Option Addr} {pc kc : Nat} {ps : List Kv} {kids : List Nd} {page : Int} (h : NdS S w (ndC po pc ko kc (.mk ps kids page)) (.mk ps kids page)) (p : Int) : NdS S w (ndC po pc ko kc (.mk ps kids p)) (.mk ps kids p) := by
 generalize hcs : ndC po pc ko kc (.mk ps kids page) = cs at h;cases h with | mk _ _ _ po' pc' ko' kc' KC h1 h2 h3 h4 h5 h6 =>
  obtain ⟨rfl, rfl, rfl, rfl⟩ : po = po' /\ pc = pc' /\ ko = ko' /\ kc = kc' := by simp only [ndC, Nd.ps, Nd.kids, Nd.page, List.cons.injEq, Value.slice.injEq, and_true, true_and] at hcs;exact ⟨hcs.1.1, hcs.1.2, hcs.2.1, hcs.2.2⟩
  exact .mk _ _ _ _ _ _ _ KC h1 h2 h3 h4 h5 h6
theorem zmp (o : Option Addr) (c : Nat) (l : List Int) (x : Int) (w : World) {S : Nat -> Prop} (hs : SlW o l.length c) (hl : l.length <= 1000000) (hr : zas S w o l) :
  Calls Tryz.prog 94 #[.slice o l.length c, .int .i64 x] w fun e w' => e = .returned (.bool (decide (x ∈ l))) /\ w' = w := by
 obtain ⟨n, hn⟩ : ∃ n, l.length = n := ⟨_, rfl⟩;have hcap : n <= c := by rcases hs with ⟨_, h, _⟩ | ⟨_, _, h, _⟩ <;> omega
 rw [hn] at hl |-;have Hn := zhI hn;clear hn hs;go_enter Tryz.func94, Tryz.ntmps94;go_wp2
 go_loopw [5] (fun t wr => ∃ k : Nat, k <= n /\ t = .int .i64 k /\ Hid (x ∉ l.take k) /\ wr = w) (fun t _ => n - (intOf t).toNat)
 case atStart => exact ⟨0, by omega, rfl, zhI (by simp), rfl⟩
 case round =>
  obtain ⟨k, hk, rfl, H, rfl⟩ := hrel
  by_cases hlt : k < n
  .
   have hlk : k < l.length := by rw [Hn.out]; exact hlt
   obtain ⟨g, off, rfl, hc, -⟩ := hr k hlk;obtain ⟨y, hy⟩ : ∃ y, l[k] = y := ⟨_, rfl⟩;have hym : y ∈ l := by rw [<- hy]; exact List.getElem_mem hlk
   have htk : l.take (k + 1) = l.take k ++ [y] := by rw [List.take_succ_eq_append_getElem hlk, hy]
   rw [hy] at hc;have Hm := zhI (zaI hym htk);clear hym htk hy
   by_cases hxy : y = x
   . subst hxy;go_wp2;go_ret;exact ⟨by rw [decide_eq_true Hm.out.1]; rfl, rfl⟩
   .
    have H2 : Hid (x ∉ l.take (k + 1)) := zhI (by rw [Hm.out.2, zmA]; rintro (h | h); exact H.out h; exact hxy (zmS.1 h).symm);go_wp2;go_roundw
    case rel => exact ⟨k + 1, by omega, by go_num, H2, trivial⟩
    case measure => simp [intOf]; omega
  .
   obtain rfl : k = n := by omega
   have hx : x ∉ l := by have := H.out; rw [List.take_of_length_le (by rw [Hn.out]; exact Nat.le_refl _)] at this; exact this
   go_wp2;go_ret;exact ⟨by rw [decide_eq_false hx]; rfl, rfl⟩
def leafX (L : List UInt8) : Option (List Kv) :=
 if (L.getD 1 0).toNat < 1 \/ 3 < (L.getD 1 0).toNat then none
 else match leafP (L.getD 1 0).toNat (L.drop 2) with
  | none => none
  | some ps => if padZ (encLf ps) = L then some ps else none
def zjs (o : Option (List Kv)) (w : World) (e : Ending) (w' : World) : Prop :=
 Below w.heap.size w w' /\ ∃ po pn pc, e = .returned (.tuple #[.agg #[.slice po pn pc, .slice none 0 0, .int .i64 0], .bool o.isSome]) /\ ∀ ps, o = some ps -> NdS (fun b => w.heap.size <= b /\ b < w'.heap.size) w' [.slice po pn pc, .slice none 0 0, .int .i64 0] (.mk ps [] 0)
end Go.Proofs.YtlefmmhlpgmbjaaGreat
