/- The reference's Append = apL. -/
import Derived.Test.YtghikgjknhjjgaaGreatDoorQ17
import Derived.Test.YtghikgjknhjjgaaGreatDoorQ18
namespace Go.Proofs.YtghikgjknhjjgaaGreatDoor
set_option maxRecDepth 100000
open Go.RowKit Go.Shelf
theorem perf_cache : ∀ (ops : List DOp) (d : Dsk), (perfP d ops).1.cache.length ≤ d.cache.length + ops.length
 | [], d => by simp [perfP]
 | o :: r, d => by
  rw [perfP]
  have h1 := opP_cache (d := d) (o := o)
  split
  ·
   simp; omega
  ·
   have := perf_cache r (opP d o).1
   simp; omega
theorem pats_good {d : Dsk} {frm til : Int} (hf : fitE d frm til = 0) {T : List UInt8} (hT : T.length = (areaL d frm til).length) {z a n : Nat} (hz : d.size = z) (hn : n = 0 ∨ (a + n) * z ≤ T.length) : ∀ o ∈ (pats T frm z a n).map wrO, GoodOp d o := by
 obtain ⟨h0, h1, h2, h3, h4, h5⟩ := fitE_zero hf
 have hA := area_len hf
 have hz' : d.size.toNat = z := by omega
 have hz1 : 0 < z := by omega
 intro o ho
 obtain ⟨x, hx, rfl⟩ := List.mem_map.1 ho
 obtain ⟨i, hi, rfl⟩ := List.mem_map.1 hx
 have hi := List.mem_range.1 hi
 rw [hz'] at hA
 have hle : (a + i + 1) * z ≤ T.length := by
  rcases hn with h | h
  ·
   omega
  ·
   exact Nat.le_trans (Nat.mul_le_mul_right _ (by omega)) h
 have him : a + i + 1 ≤ (til - frm - 2).toNat := by
  rw [hT, hA] at hle
  exact Nat.le_of_mul_le_mul_right hle hz1
 refine ⟨?_, ?_, ?_⟩
 ·
  show (0 : Int) ≤ frm + 2 + ((a + i : Nat) : Int)
  omega
 ·
  show frm + 2 + ((a + i : Nat) : Int) < d.pages.length
  omega
 ·
  show ((bs ((T.drop ((a + i) * z)).take z)).size : Int) = d.size
  rw [bs_size, List.length_take, List.length_drop, hz]
  have : (a + i + 1) * z = (a + i) * z + z := Nat.succ_mul _ _
  omega
theorem putA_bytes {A s : List UInt8} {Ar ST : ByteArray} {sz en : Nat} (hA : bs A = Ar) (hS : bs s = ST) (he : sz + s.length = en) : (Ar.extract 0 sz ++ ST ++ Ar.extract en Ar.size).data.toList = putA A sz s := by
 subst hA hS he
 rw [bs_cut, bs_cut, bs_app, bs_app, bs_list]
 unfold putA
 rw [List.drop_zero, Nat.sub_zero, bs_size, List.take_of_length_le (l := A.drop (sz + s.length)) (by simp)]
/-- the writes of Append, page by page, as the reference cuts them -/
theorem ref_ops {l : Lg} (hf : fitE l.disk l.frm l.til = 0) {z sz en a cnt : Nat} {s : List UInt8} {T : ByteArray} {ops1 : List DOp} (hz : l.disk.size = z) (hT : T.data.toList = putA (areaL l.disk l.frm l.til) sz s) (ha : sz / z = a) (hc : cntP z sz en = cnt)
  (ho : (pats T.data.toList l.frm z a cnt).map wrO = ops1) (he : sz + s.length = en) (heT : en ≤ T.size) (hTA : (areaL l.disk l.frm l.til).length = T.size) (hs : s ≠ []) :
  wrsL l sz s = ops1 ∧ ops1.length = cnt ∧ (∀ o ∈ ops1, GoodOp l.disk o) ∧ (∀ j, cnt ≤ j ↔ en ≤ (a + j) * z) ∧
  ∀ j (h : j < ops1.length), (a + j) * z + z ≤ T.size ∧ ops1[j] = .wr (l.frm + 2 + ((a + j : Nat) : Int)) (T.extract ((a + j) * z) ((a + j) * z + z)) := by
 have hz' : l.disk.size.toNat = z := by omega
 have hz24 := (area_bd hf).2.2.1
 have hz1 : 0 < z := by omega
 have hA := area_len hf
 rw [hz'] at hA
 have hw := wrsL_eq l hf sz s hs (by rw [hTA, he]; exact heT)
 rw [hz', ha, he, hc, ← hT, ho] at hw
 have hlen : ops1.length = cnt := by rw [← ho]; simp [pats]
 have hiff : ∀ j, cnt ≤ j ↔ en ≤ (a + j) * z := by
  intro j
  subst hc ha
  constructor
  ·
   exact cntP_ge hz1
  ·
   intro h
   rcases Nat.lt_or_ge j (cntP z sz en) with h' | h'
   ·
    have := cntP_lt (a := sz) (b := en) hz1 h'; omega
   ·
    exact h'
 have hpg : ∀ j, j < cnt → (a + j) * z + z ≤ T.size := by
  intro j hj
  have h1 : (a + j) * z < en := by
   rcases Nat.lt_or_ge ((a + j) * z) en with h | h
   ·
    exact h
   ·
    have := (hiff j).2 h; omega
  have h2 : (a + j) * z < (l.til - l.frm - 2).toNat * z := by rw [← hA, hTA]; omega
  have h3 : a + j < (l.til - l.frm - 2).toNat := Nat.lt_of_mul_lt_mul_right h2
  rw [← hTA, hA, ← Nat.succ_mul]
  exact Nat.mul_le_mul_right _ h3
 refine ⟨hw, hlen, ?_, hiff, ?_⟩
 ·
  rw [← ho]
  refine pats_good hf (by rw [hTA]; exact len_size T) hz ?_
  rcases Nat.eq_zero_or_pos cnt with h | h
  ·
   exact .inl h
  ·
   right
   have := hpg (cnt - 1) (by omega)
   rw [← Nat.succ_mul] at this
   rw [len_size, show a + cnt = (a + (cnt - 1)).succ by omega]
   exact this
 ·
  intro j hj
  have hj' : j < cnt := by omega
  refine ⟨hpg j hj', ?_⟩
  subst ho
  simp only [pats, List.getElem_map, List.getElem_range, patW, wrO]
  rw [show T.extract ((a + j) * z) ((a + j) * z + z) = bs ((T.data.toList.drop ((a + j) * z)).take z) by
   apply ByteArray.ext
   apply Array.ext'
   simp]
theorem LgS.only {w : World} {N r : Nat} {l : Lg} {po co ro : Option Addr} {pc cc rc : Nat} {W W' : World} (h : LgS w N l po co ro pc cc rc W) (ho : Only r W W') (hr : N + 2 ≤ r) (hb : Below w.heap.size w W') (hl : LgV w (.agg (lgC l.disk po co pc cc l.frm l.til l.ver ro l.recs.length rc)) l) : LgS w N l po co ro pc cc rc W' :=
 ⟨h.box.only ho (by omega), h.res.only ho (by omega), hb, hl.below hb⟩
theorem Bx.st4of8 {w : World} {b : Nat} {u0 u1 u2 u3 u4 u5 u6 u7 v0 v1 v2 v3 : Value} {t : TypeId} (h : Bx w b #[u0, u1, u2, u3, u4, u5, u6, u7] t) : Bx (Go.Proofs.YtghikgjknhjjgaaGreatDoor.st4 w b v0 v1 v2 v3) b #[v0, v1, v2, v3, u4, u5, u6, u7] t := by
 simpa [Go.Proofs.YtghikgjknhjjgaaGreatDoor.st4] using (((h.set 0 v0).set 1 v1).set 2 v2).set 3 v3
theorem LgS.stDisk {w : World} {N : Nat} {l : Lg} {po co ro : Option Addr} {pc cc rc : Nat} {W Wf : World} {A : Dsk} {po' co' : Option Addr} {pc' cc' : Nat} (h : LgS w N l po co ro pc cc rc W) (hN : w.heap.size = N)
  (hV : DskV W (.agg (dC A po' co' pc' cc')) A) (hsl : SlW ro l.recs.length rc) (hst : StrsAt (· < w.heap.size) w ro l.recs)
  (hWf : st8 (st4 W N (.int .i64 A.size) (.slice po' A.pages.length pc') (.slice co' A.cache.length cc') (.int .i64 A.left)) (N + 1) (.int .i64 A.size) (.slice po' A.pages.length pc') (.slice co' A.cache.length cc') (.int .i64 A.left) (.int .i64 l.frm) (.int .i64 l.til) (.int .i64 l.ver) (.slice ro l.recs.length rc) = Wf) :
  Bx Wf (N + 1) (lgC A po' co' pc' cc' l.frm l.til l.ver ro l.recs.length rc) 27 ∧ Below w.heap.size w Wf ∧ LgV Wf (.agg (lgC A po' co' pc' cc' l.frm l.til l.ver ro l.recs.length rc)) { l with disk := A } := by
 have hLg : LgV W (.agg (lgC A po' co' pc' cc' l.frm l.til l.ver ro l.recs.length rc)) { l with disk := A } := ⟨po', pc', co', cc', ro, rc, rfl, hV, hsl, (hst.below h.below).mono fun b hb => Nat.lt_of_lt_of_le hb h.below.size⟩
 have ya := h.res.only (r := N) (only_st4 (v0 := .int .i64 A.size) (v1 := .slice po' A.pages.length pc') (v2 := .slice co' A.cache.length cc') (v3 := .int .i64 A.left)) (by omega)
 subst hWf
 exact ⟨ya.set8, below_set8 (below_st4 h.below (by omega)) (by omega), (hLg.only h.box (noS_lg _ _ _ _ _ _ _ _ _ _ _ _ _ _) only_st4).only ya (noS_lg _ _ _ _ _ _ _ _ _ _ _ _ _ _) Only.eight⟩
/-- Append, as the reference does it -/
theorem apL_ref (l : Lg) (rs : List ByteArray) (ops1 : List DOp) (n : Nat) (h0 : chk l.disk = 0) (hg : ∀ o ∈ ops1, GoodOp l.disk o) (A : Dsk) (e : Int) (hp : perfP l.disk (ops1 ++ [.fl]) = (A, e)) :
  finL l rs (ops1 ++ .fl :: nextL l n) = if e ≠ 0 then ({ l with disk := A }, e) else finL { l with disk := A } rs (nextL { l with disk := A } n) := by
 have hsh := (perf_shape (ops := ops1 ++ [.fl]) h0 (fun o ho => by
  rcases List.mem_append.1 ho with h | h
  ·
   exact hg o h
  ·
   rw [List.mem_singleton.1 h]; trivial)).1
 rw [hp] at hsh
 have hnx : nextL { l with disk := A } n = nextL l n := by unfold nextL; rw [show A.size = l.disk.size from hsh.2.1]
 have happ : perfP l.disk (ops1 ++ .fl :: nextL l n) = if e ≠ 0 then (A, e) else perfP A (nextL l n) := by
  rw [show ops1 ++ DOp.fl :: nextL l n = (ops1 ++ [.fl]) ++ nextL l n by simp, perf_app, hp]
 rw [hnx]
 unfold finL
 rw [happ]
 by_cases h : e = 0
 ·
  simp only [h, ne_eq, not_true_eq_false, if_false]
 ·
  simp only [ne_eq, h, not_false_eq_true, if_true]
set_option maxRecDepth 100000 in
set_option maxHeartbeats 8000000 in
theorem rf_Append (l : Lg) (v : Value) (rs : List ByteArray) (qo : Option Addr) (qc : Nat) (w : World) (hL : LgV w v l) (hqs : SlW qo rs.length qc) (hqt : StrsAt (· < w.heap.size) w qo rs) (hrl : rs.length ≤ 1000) (hrz : sizeL rs ≤ 50000) (hc : l.disk.cache.length ≤ 900000) :
  Calls Tryz.prog 9 #[v, .slice qo rs.length qc] w (RetLE w (apL l rs).1 (apL l rs).2) := by
 obtain ⟨R, hR⟩ : ∃ R, apL l rs = R := ⟨_, rfl⟩
 rw [hR]
 have hL0 := hL
 obtain ⟨po, pc, co, cc, ro, rc, rfl, hD, hsl, hst⟩ := hL
 obtain ⟨N, hN⟩ : ∃ N, w.heap.size = N := ⟨_, rfl⟩
 obtain ⟨W0, hW0⟩ : ∃ W0, (w.alloc (.cells (lgC l.disk po co pc cc l.frm l.til l.ver ro l.recs.length rc) 27)).alloc (.cells lgZ 27) = W0 := ⟨_, rfl⟩
 have s0 : LgS w N l po co ro pc cc rc W0 := by subst hW0; exact LgS.start hN hL0
 have hv := rf_Valid l _ W0 s0.val
 have c0 := s0.box.cell
 have l0 := s0.box.lt
 have Hqt := Lib.hid hqt
 have Hqs := Lib.hid hqs
 have Hst := Lib.hid hst
 have Hsl := Lib.hid hsl
 have Hl0 := Lib.hid hL0
 have Hrz := Lib.hid hrz
 have HD := Lib.hid hD
 clear hqt hqs hst hsl hL0 hD hrz
 cases g : validL l
 ·
  rw [g] at hv
  have Hv := Lib.hid hv
  obtain ⟨er0, her⟩ : ∃ er : Int, er = 1 := ⟨1, rfl⟩
  have Her := Lib.hid her
  have HRR : Hid (R = (zeroL, er0)) := Lib.hid (by rw [← hR, her]; unfold apL; rw [if_pos g])
  clear hv hR her g
  go_enter Tryz.func9, Tryz.ntmps9
  go_wp2_with fail
  refine Hv.out.mono ?_
  rintro e w1 ⟨rfl, hb1⟩
  have s1 := s0.next hb1
  clear c0 l0 hW0 hb1
  have c0 := s1.box.cell
  have l0 := s1.box.lt
  obtain ⟨Wf, hWf⟩ : ∃ Wf, st8 w1 (N + 1) (.int .i64 0) (.slice none 0 0) (.slice none 0 0) (.int .i64 0) (.int .i64 0) (.int .i64 0) (.int .i64 0) (.slice none 0 0) = Wf := ⟨_, rfl⟩
  obtain ⟨zR, zB⟩ := s1.outZ hN hWf
  have cX := s1.res.cell
  have lX := s1.res.lt
  have fX := s1.res.free
  have ZB := Lib.hid zB
  have HWf := Lib.hid hWf
  clear zB hWf
  go_wp2
  have HW := HWf.out
  unfold st8 at HW
  rw [HW]
  have cZ := zR.cell
  refine bodyPost_ret (v := .tuple #[.agg lgZ, .int .i64 er0]) (by simp [results, Tryz.results9, go_sem, cZ, Her.out]) rfl ?_
  rw [HRR.out]
  exact ⟨_, rfl, LgV.zero _, ZB.out⟩
 ·
  rw [g] at hv
  have Hv := Lib.hid hv
  obtain ⟨bg, hbg⟩ : ∃ bg, bigR rs = bg := ⟨_, rfl⟩
  obtain ⟨V, hver, hV1, hV2⟩ := valid_ver g
  have hbd := valid_bd g
  have hvs := valid_size g
  have hfit := (validL_parts g).1
  obtain ⟨sz, hsz⟩ : ∃ sz, sizeL l.recs = sz := ⟨_, rfl⟩
  obtain ⟨mo, hmo⟩ : ∃ mo, sizeL rs = mo := ⟨_, rfl⟩
  obtain ⟨ar, har⟩ : ∃ ar, areaN l.disk l.frm l.til = ar := ⟨_, rfl⟩
  have hroom : roomL l = ar - sz := by unfold roomL; rw [if_neg (by simp [g]), har, hsz]
  have Hver : Hid (l.ver = V ∧ 1 ≤ V ∧ V ≤ 1099511627776) := Lib.hid ⟨hver, hV1, hV2⟩
  have Hbd := Lib.hid hbd
  have Hfit := Lib.hid hfit
  have Hsz := Lib.hid hsz
  have Hmo := Lib.hid hmo
  have Har := Lib.hid har
  have hab := area_bd hfit
  rw [har] at hab
  have hsza : (sz : Int) ≤ ar := by have := hvs.2.1; rw [hsz, har] at this; exact this
  have hszb : sz ≤ 1024000 := by rw [← hsz]; exact hbd.1
  have hmob : mo ≤ 50000 := by rw [← hmo]; exact Hrz.out
  have har0 := hab.1
  have har1 := hab.2.1
  have HsA := fun W (hb : Below w.heap.size w W) => rf_Size W ro rc l.recs (Hst.out.below hb) (by omega) (by omega)
  have HsB := fun W (hb : Below w.heap.size w W) => rf_Size W qo qc rs (Hqt.out.below hb) (by omega) (by omega)
  have HrA := fun W (hb : Below w.heap.size w W) => rf_Room l _ W (Hl0.out.below hb)
  have HaA := fun W (hb : Below w.heap.size w W) => rf_area l.disk _ l.frm l.til W hfit (HD.out.below hb)
  have HtA := fun W (hb : Below w.heap.size w W) => rf_stream W qo qc rs (Hqt.out.below hb) (by omega) (by omega)
  simp only [hsz] at HsA
  simp only [hmo] at HsB
  simp only [hroom] at HrA
  have HSA := Lib.hid HsA
  have HSB := Lib.hid HsB
  have HRA := Lib.hid HrA
  have HAA := Lib.hid HaA
  have HTA := Lib.hid HtA
  have HR := Lib.hid hR
  have HG := Lib.hid g
  have HBG := Lib.hid hbg
  clear HsA HsB HrA HaA HtA hv hR g hver hV1 hV2 hbd hvs hfit hsz hmo har hab hroom hbg
  go_enter Tryz.func9, Tryz.ntmps9
  go_wp2_with fail
  refine Hv.out.mono ?_
  rintro e w1 ⟨rfl, hb1⟩
  have s1 := s0.next hb1
  clear c0 l0 hW0 hb1
  have c0 := s1.box.cell
  have l0 := s1.box.lt
  go_wp2
  go_loopw [6] (fun i wr => ∃ k : Nat, k ≤ rs.length ∧ i = .int .i64 k ∧ bigR (rs.drop k) = bg ∧ LgS w N l po co ro pc cc rc wr) (fun i _ => rs.length - (intOf i).toNat)
  case atStart => exact ⟨0, Nat.zero_le _, rfl, by simpa using HBG.out, s1⟩
  case round =>
   clear s1 c0 l0
   obtain ⟨k, hk, rfl, hq0, s1⟩ := hrel
   have hq := Lib.hid hq0
   clear hq0
   have c0 := s1.box.cell
   have l0 := s1.box.lt
   by_cases hlt : k < rs.length
   ·
    obtain ⟨b, off, rfl, hc0, _⟩ := Hqt.out k hlt
    have hcell : wr.cell? ⟨b, off + k, none⟩ = some (.string rs[k]) := by rw [s1.below.cell (World.block_lt_of_cell? w _ hc0)]; exact hc0
    clear hc0
    cases g1 : decide (65536 < (rs[k].size : Int))
    ·
     have hst := Lib.hid (bigR_step hlt g1)
     go_wp2
     go_roundw
     case rel => exact ⟨k + 1, by omega, by go_num, by rw [← hst.out]; exact hq.out, s1⟩
     case measure => simp [intOf]; omega
    ·
     have hbt : bg = true := by rw [← hq.out]; exact bigR_hit hlt g1
     obtain ⟨er0, her⟩ : ∃ er : Int, er = 4 := ⟨4, rfl⟩
     have Her := Lib.hid her
     have HRR : Hid (R = (zeroL, er0)) := Lib.hid (by rw [← HR.out, her]; unfold apL; rw [if_neg (by simp [HG.out]), if_pos (by rw [HBG.out, hbt])])
     clear her hbt c0 l0
     obtain ⟨Wf, hWf⟩ : ∃ Wf, st8 wr (N + 1) (.int .i64 0) (.slice none 0 0) (.slice none 0 0) (.int .i64 0) (.int .i64 0) (.int .i64 0) (.int .i64 0) (.slice none 0 0) = Wf := ⟨_, rfl⟩
     obtain ⟨zR, zB⟩ := s1.outZ hN hWf
     have cX := s1.res.cell
     have lX := s1.res.lt
     have fX := s1.res.free
     have ZB := Lib.hid zB
     have HWf := Lib.hid hWf
     clear zB hWf
     go_wp2
     have HW := HWf.out
     unfold st8 at HW
     rw [HW]
     have cZ := zR.cell
     refine bodyPost_ret (v := .tuple #[.agg lgZ, .int .i64 er0]) (by simp [results, Tryz.results9, go_sem, cZ, Her.out]) rfl ?_
     rw [HRR.out]
     exact ⟨_, rfl, LgV.zero _, ZB.out⟩
   ·
    have hbf : bg = false := by rw [← hq.out, List.drop_of_length_le (by omega)]; rfl
    subst hbf
    have HF0 : Hid (∀ h : rs.length ≠ 0, R = if ar - sz < mo ∨ 1099511627776 ≤ l.ver then (zeroL, 17) else finL l (l.recs ++ rs) (wrsL l sz (streamL rs) ++ .fl :: nextL l (sz + mo))) := Lib.hid (fun h => by
     have := apL_full HG.out HBG.out h
     rw [HR.out, Hsz.out, Hmo.out, Har.out] at this
     exact this)
    have HF1 : Hid (rs.length = 0 → R = (l, 0)) := Lib.hid (fun h => by rw [← HR.out]; unfold apL; rw [if_neg (by simp [HG.out]), if_neg (by simp [HBG.out]), if_pos h])
    have hmz : rs.length = 0 → mo = 0 := fun h => by rw [← Hmo.out, List.eq_nil_of_length_eq_zero h]; rfl
    have Hmz := Lib.hid hmz
    have cQ := Lat.cells wr
    have HBw : Hid (∀ x : Lat wr, Below w.heap.size w x.w) := Lib.hid (fun x => btr s1.below x.h)
    have Hk := Lib.hid hlt
    have hlt2 : ¬ (k : Int) < rs.length := by omega
    clear hmz hq hlt hk
    cases g5 : decide (ar - (sz : Int) < (mo : Int))
    ·
     cases g0 : decide (0 < rs.length)
     ·
      have hn0 : rs.length = 0 := by have := of_decide_eq_false g0; omega
      have HRR : Hid (R = (l, 0)) := Lib.hid (HF1.out hn0)
      have hn1 : ((rs.length : Int) == 0) = true := by simp [hn0]
      clear hn0
      go_wp2
      refine wp_region_lat (by kernel_rfl) (by kernel_rfl) ?_
      repeat (any_goals (first | go_big_quiet_skip | (go_big_quiet_want; go_big_quiet_op; first | go_big_quiet_on | go_big_quiet_call ((first | (go_at_call 16; exact Calls.lat (HSB.out _ (HBw.out _))) | (go_at_call 14; exact Calls.lat (HRA.out _ (HBw.out _)))))) | quiet_step ((first | (go_at_call 16; exact Calls.lat (HSB.out _ (HBw.out _))) | (go_at_call 14; exact Calls.lat (HRA.out _ (HBw.out _)))))))
      refine wpQuiet_nil ?_
      rintro w2 ⟨⟨_, hb2⟩, rfl⟩
      have s2 := s1.next hb2
      clear c0 l0 cQ
      have c0 := s2.box.cell
      have l0 := s2.box.lt
      obtain ⟨Wf, hWf⟩ : ∃ Wf, st8 w2 (N + 1) (.int .i64 l.disk.size) (.slice po l.disk.pages.length pc) (.slice co l.disk.cache.length cc) (.int .i64 l.disk.left) (.int .i64 l.frm) (.int .i64 l.til) (.int .i64 l.ver) (.slice ro l.recs.length rc) = Wf := ⟨_, rfl⟩
      obtain ⟨zR, zB, zL⟩ := s2.out hN s2.val hWf
      have cX := s2.res.cell
      have lX := s2.res.lt
      have fX := s2.res.free
      have ZB := Lib.hid zB
      have ZL := Lib.hid zL
      have HWf := Lib.hid hWf
      clear zB zL hWf
      go_wp2
      have HW := HWf.out
      unfold st8 at HW
      rw [HW]
      have cZ := zR.cell
      refine bodyPost_ret (v := .tuple #[.agg (lgC l.disk po co pc cc l.frm l.til l.ver ro l.recs.length rc), .int .i64 0]) (by simp [results, Tryz.results9, go_sem, cZ]) rfl ?_
      rw [HRR.out]
      exact ⟨_, rfl, ZL.out, ZB.out⟩
     ·
      cases g6 : (l.ver == 1099511627776)
      ·
       have hn0 : rs.length ≠ 0 := by have := of_decide_eq_true g0; omega
       have h5 := of_decide_eq_false g5
       have HRR : Hid (R = finL l (l.recs ++ rs) (wrsL l sz (streamL rs) ++ .fl :: nextL l (sz + mo))) := Lib.hid (by
        rw [HF0.out hn0, if_neg]
        rintro (h | h)
        ·
         exact h5 h
        ·
         exact ver_lt Hver.out g6 h)
       have hn1 : ((rs.length : Int) == 0) = false := by rw [beq_eq_false_iff_ne]; omega
       clear hn0
       go_wp2
       refine wp_region_lat (by kernel_rfl) (by kernel_rfl) ?_
       repeat (any_goals (first | go_big_quiet_skip | (go_big_quiet_want; go_big_quiet_op; first | go_big_quiet_on | go_big_quiet_call ((first | (go_at_call 16; exact Calls.lat (HSB.out _ (HBw.out _))) | (go_at_call 14; exact Calls.lat (HRA.out _ (HBw.out _)))))) | quiet_step ((first | (go_at_call 16; exact Calls.lat (HSB.out _ (HBw.out _))) | (go_at_call 14; exact Calls.lat (HRA.out _ (HBw.out _)))))))
       refine wpQuiet_nil ?_
       rintro w2 ⟨⟨_, hb2⟩, rfl⟩
       have s2 := s1.next hb2
       clear c0 l0 cQ s1 HBw
       have c0 := s2.box.cell
       have l0 := s2.box.lt
       have cQ := Lat.cells w2
       have HBw : Hid (∀ x : Lat w2, Below w.heap.size w x.w) := Lib.hid (fun x => btr s2.below x.h)
       go_wp2
       refine wp_region_lat (by kernel_rfl) (by kernel_rfl) ?_
       repeat (any_goals (first | go_big_quiet_skip | (go_big_quiet_want; go_big_quiet_op; first | go_big_quiet_on | go_big_quiet_call (((go_at_call 16; exact Calls.lat (HSA.out _ (HBw.out _)))))) | quiet_step (((go_at_call 16; exact Calls.lat (HSA.out _ (HBw.out _)))))))
       refine wpQuiet_nil ?_
       rintro w3 ⟨⟨_, hb3⟩, rfl⟩
       have s3 := s2.next hb3
       clear c0 l0 cQ s2 HBw
       have c0 := s3.box.cell
       have l0 := s3.box.lt
       go_wp2_with fail
       refine (HAA.out _ s3.below).mono ?_
       rintro e w4 ⟨rfl, hb4⟩
       have s4 := s3.next hb4
       clear c0 l0 s3
       have c0 := s4.box.cell
       have l0 := s4.box.lt
       obtain ⟨Ar, hAr⟩ : ∃ Ar, bs (areaL l.disk l.frm l.til) = Ar := ⟨_, rfl⟩
       have hArs : (Ar.size : Int) = ar := by rw [← hAr, bs_size, areaL_len Hfit.out, Har.out]
       rw [hAr]
       go_wp2_with fail
       refine (HSB.out _ s4.below).mono ?_
       rintro e w5 ⟨rfl, hb5⟩
       have s5 := s4.next hb5
       clear c0 l0 s4
       have c0 := s5.box.cell
       have l0 := s5.box.lt
       obtain ⟨en, hen⟩ : ∃ en, sz + mo = en := ⟨_, rfl⟩
       have hsm : (sz : Int) + (mo : Int) = (en : Int) := by omega
       have henb : en ≤ 1024000 := by omega
       have hs1 : sz ≤ Ar.size := by omega
       have hs2 : en ≤ Ar.size := by omega
       have cQ := Lat.cells w5
       have HBw : Hid (∀ x : Lat w5, Below w.heap.size w x.w) := Lib.hid (fun x => btr s5.below x.h)
       go_wp2
       obtain ⟨ST, hST⟩ : ∃ ST, bs (streamL rs) = ST := ⟨_, rfl⟩
       have hSTs : ST.size = mo := by rw [← hST, bs_size, streamL_len, Hmo.out]
       have hArb : Ar.size ≤ 1024000 := by omega
       have htA := HTA.out
       rw [hST] at htA
       have HTA2 := Lib.hid htA
       have HAr := Lib.hid hAr
       have HST := Lib.hid hST
       have HArs := Lib.hid hArs
       clear htA hAr hST hArs
       refine wp_region_lat (by kernel_rfl) (by kernel_rfl) ?_
       repeat (any_goals (first | go_big_quiet_skip | (go_big_quiet_want; go_big_quiet_op; first | go_big_quiet_on | go_big_quiet_call (((go_at_call 38; exact Calls.lat (HTA2.out _ (HBw.out _)))))) | quiet_step (((go_at_call 38; exact Calls.lat (HTA2.out _ (HBw.out _)))))))
       refine wpQuiet_nil ?_
       rintro w6 ⟨⟨_, hb6⟩, rfl⟩
       have s6 := s5.next hb6
       clear c0 l0 cQ s5 HBw
       have c0 := s6.box.cell
       have l0 := s6.box.lt
       obtain ⟨T, hT⟩ : ∃ T, Ar.extract 0 sz ++ ST ++ Ar.extract en Ar.size = T := ⟨_, rfl⟩
       have hTl : T.data.toList = putA (areaL l.disk l.frm l.til) sz (streamL rs) := by
        rw [← hT]
        exact putA_bytes HAr.out HST.out (by rw [streamL_len, Hmo.out]; exact hen)
       have hTz : T.size = Ar.size := by
        have h1 := len_size T
        rw [hTl, putA_len (by rw [streamL_len, Hmo.out, ← bs_size (areaL l.disk l.frm l.til), HAr.out]; omega), ← bs_size (areaL l.disk l.frm l.til), HAr.out] at h1
        exact h1.symm
       rw [hT]
       have HTl := Lib.hid hTl
       have HTz := Lib.hid hTz
       clear hT hTl hTz
       have hfz := fitE_zero Hfit.out
       have hrg := rangedB_true (chk_zero hfz.1).1
       obtain ⟨z, hz⟩ : ∃ z : Nat, l.disk.size = z := ⟨l.disk.size.toNat, by omega⟩
       obtain ⟨a, ha⟩ : ∃ a, sz / z = a := ⟨_, rfl⟩
       obtain ⟨cnt, hcnt⟩ : ∃ cnt, cntP z sz en = cnt := ⟨_, rfl⟩
       obtain ⟨ops1, hops1⟩ : ∃ ops1, (pats T.data.toList l.frm z a cnt).map wrO = ops1 := ⟨_, rfl⟩
       have hops := ref_ops Hfit.out hz HTl.out ha hcnt hops1 (by rw [streamL_len, Hmo.out]; exact hen) (by rw [HTz.out]; exact hs2) (by rw [← bs_size (areaL l.disk l.frm l.til), HAr.out, HTz.out]) (by intro e; have h2 := congrArg List.length e; rw [streamL_len, Hmo.out] at h2; have h3 : mo = 0 := h2; have h1 := recs_len_size rs; rw [Hmo.out] at h1; have := of_decide_eq_true g0; omega)
       obtain ⟨pr, hpr⟩ : ∃ pr, perfP l.disk ops1 = pr := ⟨_, rfl⟩
       have Hops := Lib.hid hops
       have Hpr := Lib.hid hpr
       have Hen := Lib.hid hen
       have hz24 : 24 ≤ z := by omega
       have hz512 : z ≤ 512 := by omega
       have hai : (sz : Int) / (z : Int) = (a : Int) := by rw [← ha]; simp
       have hfr0 : 0 ≤ l.frm := hfz.2.2.1
       have hfr1 : l.frm ≤ 2000 := by omega
       have hcl : cnt ≤ 50000 := by
        have h1 : cnt ≤ (en + z - 1) / z := by rw [← hcnt]; exact Nat.sub_le _ _
        have h2 : (en + z - 1) / z ≤ (en + z - 1) / 24 := Nat.div_le_div_left hz24 (by decide)
        omega
       have hal : a ≤ 1024000 := by rw [← ha]; exact Nat.le_trans (Nat.div_le_self _ _) hszb
       have hz0' : ¬ ((z : Int) = 0) := by omega
       clear hops hpr hops1 hfz hrg ha hcnt hen h5 hs1
       obtain ⟨b11, hb11⟩ : ∃ b11, w6.heap.size = b11 := ⟨_, rfl⟩
       have hN2 : N + 2 ≤ b11 := by have := s6.res.lt; omega
       have e7 : (#[.int .i64 z, .slice po l.disk.pages.length pc, .slice co l.disk.cache.length cc, .int .i64 l.disk.left] : Array Value) = dC l.disk po co pc cc := by rw [← hz]
       obtain ⟨w7, hw7⟩ : ∃ w7, w6.alloc (.cells #[.int .i64 z, .slice po l.disk.pages.length pc, .slice co l.disk.cache.length cc, .int .i64 l.disk.left] 25) = w7 := ⟨_, rfl⟩
       have xd : Bx w7 b11 (dC l.disk po co pc cc) 25 := by subst hw7 hb11; rw [← e7]; exact Bx.new _ _ _
       have s7 : LgS w N l po co ro pc cc rc w7 := by subst hw7; exact s6.next (Below.one _ _)
       have hV7 := HD.out.below s7.below
       have Hw7 := Lib.hid hw7
       clear hw7 e7
       go_wp2
       rw [Hw7.out]
       clear Hw7 s6 c0 l0 hb11
       simp only [hz]
       go_loopw [12, 13] (fun te ti wr => ∃ (I j : Nat) (ek : Int) (dk : Dsk) (po' : Option Addr) (pc' : Nat) (co' : Option Addr) (cc' : Nat), te = .int .i64 ek ∧ ti = .int .i64 I ∧ I = a + j ∧ j ≤ cnt ∧ dk.cache.length ≤ l.disk.cache.length + j ∧
        ((ek = 0 ∧ perfP dk (ops1.drop j) = pr) ∨ (ek ≠ 0 ∧ (dk, ek) = pr)) ∧ LgS w N l po co ro pc cc rc wr ∧ Bx wr b11 (dC dk po' co' pc' cc') 25 ∧ DskV wr (.agg (dC dk po' co' pc' cc')) dk) (fun _ ti _ => a + cnt + 1 - (intOf ti).toNat)
       case atStart => exact ⟨a, 0, 0, l.disk, po, pc, co, cc, rfl, rfl, rfl, Nat.zero_le _, by omega, .inl ⟨rfl, by simpa using Hpr.out⟩, s7, xd, hV7⟩
       case round =>
        clear xd s7 hV7
        obtain ⟨I, j, ek, dk, po', pc', co', cc', rfl, rfl, hI, hj, hdc, hst, s8, xd, hVd⟩ := hrel
        obtain ⟨p, hp⟩ : ∃ p, I * z = p := ⟨_, rfl⟩
        have hIp : (I : Int) * (z : Int) = (p : Int) := by rw [← hp]; simp
        have hpT : p ≤ 2000000 * 512 + 1024000 * 512 := by
         rw [← hp]
         have : I * z ≤ (2000000 + 1024000) * 512 := Nat.mul_le_mul (by omega) hz512
         omega
        have hiff := Hops.out.2.2.2.1 j
        rw [← hI, hp] at hiff
        have HI := Lib.hid hI
        have hIb : I ≤ 3024000 := by omega
        clear hI
        have c0 := s8.box.cell
        have l0 := s8.box.lt
        have cd := xd.cell
        have ld := xd.lt
        have fd := xd.free
        cases g8 : decide (p < en)
        ·
         have hjc : cnt ≤ j := hiff.2 (by have := of_decide_eq_false g8; omega)
         have hprk : (dk, ek) = pr := by
          rcases hst with ⟨h1, h2⟩ | ⟨h1, h2⟩
          ·
           rw [← h2, h1, List.drop_of_length_le (by rw [Hops.out.2.1]; exact hjc), perfP]
          ·
           exact h2
         have Hprk := Lib.hid hprk
         clear hprk hst hiff hjc hp
         cases g9 : (ek == 0)
         ·
          have he9 : ek ≠ 0 := by simpa using g9
          have g9' : (ek != 0) = true := by simpa using he9
          have HRE : Hid (R = ({ l with disk := dk }, ek)) := Lib.hid (by
           rw [HRR.out, Hops.out.1, Hen.out, apL_ref l (l.recs ++ rs) ops1 en (fitE_zero Hfit.out).1 Hops.out.2.2.1 dk ek (by rw [perf_app, Hpr.out, ← Hprk.out, if_pos he9]), if_pos he9])
          obtain ⟨Wf, hWf⟩ : ∃ Wf, st8 (st4 wr N (.int .i64 dk.size) (.slice po' dk.pages.length pc') (.slice co' dk.cache.length cc') (.int .i64 dk.left)) (N + 1) (.int .i64 dk.size) (.slice po' dk.pages.length pc') (.slice co' dk.cache.length cc') (.int .i64 dk.left) (.int .i64 l.frm) (.int .i64 l.til) (.int .i64 l.ver) (.slice ro l.recs.length rc) = Wf := ⟨_, rfl⟩
          obtain ⟨zR, zB, zL⟩ := s8.stDisk hN hVd Hsl.out Hst.out hWf
          have HWf := Lib.hid hWf
          have ZB := Lib.hid zB
          have ZL := Lib.hid zL
          have f0 := s8.box.free
          have c1 := s8.res.cell
          have l1 := s8.res.lt
          have f1 := s8.res.free
          clear hWf zB zL
          go_wp2
          all_goals
           have HW := HWf.out
           unfold st4 st8 at HW
           rw [HW]
           have cZ := zR.cell
           refine bodyPost_ret (v := .tuple #[.agg (lgC dk po' co' pc' cc' l.frm l.til l.ver ro l.recs.length rc), .int .i64 ek]) (by simp [results, Tryz.results9, go_sem, cZ]) rfl ?_
           rw [HRE.out]
           exact ⟨_, rfl, ZL.out, ZB.out⟩
         ·
          have he9 : ek = 0 := by simpa using g9
          subst he9
          obtain ⟨A, er, hA⟩ : ∃ A er, flushD dk = (A, er) := ⟨_, _, rfl⟩
          have hAc := opP_cache (d := dk) (o := .fl)
          have hAop : opP dk .fl = (A, er) := hA
          rw [hAop] at hAc
          have happ : perfP l.disk (ops1 ++ [.fl]) = (A, er) := by
           rw [perf_app, Hpr.out, ← Hprk.out, if_neg (by simp), perfP]
           simp only [hAop]
           by_cases h : er = 0
           ·
            rw [if_neg (by simp [h]), perfP, h]
           ·
            rw [if_pos h]
          have hsh : Shape l.disk A := by
           have := (perf_shape (ops := ops1 ++ [.fl]) (fitE_zero Hfit.out).1 (fun o ho => by
            rcases List.mem_append.1 ho with h | h
            ·
             exact Hops.out.2.2.1 o h
            ·
             rw [List.mem_singleton.1 h]; trivial)).1
           rw [happ] at this
           exact this
          have HRA : Hid (R = if er ≠ 0 then ({ l with disk := A }, er) else finL { l with disk := A } (l.recs ++ rs) (nextL { l with disk := A } en)) := Lib.hid (by
           rw [HRR.out, Hops.out.1, Hen.out, apL_ref l (l.recs ++ rs) ops1 en (fitE_zero Hfit.out).1 Hops.out.2.2.1 A er happ])
          have hfl := rv_flush dk _ wr hVd hA
          have Hsh := Lib.hid hsh
          have HAc : Hid (A.cache.length ≤ 950001) := Lib.hid (by simp only at hAc; omega)
          clear hA hAc hAop happ hsh
          go_wp2_with fail
          refine hfl.mono ?_
          rintro e w9 ⟨v9, rfl, hM9, hb9⟩
          have hMa := hM9
          obtain ⟨po2, pc2, co2, cc2, rfl⟩ := hM9.agg
          have y1 := xd.belowAll hb9
          have s9 := s8.next hb9
          clear c0 l0 cd ld fd s8 xd hVd hb9 hfl
          obtain ⟨w10, hw10⟩ : ∃ w10, st4 w9 b11 (.int .i64 A.size) (.slice po2 A.pages.length pc2) (.slice co2 A.cache.length cc2) (.int .i64 A.left) = w10 := ⟨_, rfl⟩
          have ho10 : Only b11 w9 w10 := by subst hw10; exact only_st4
          have s10 : LgS w N l po co ro pc cc rc w10 := s9.only ho10 hN2 (by subst hw10; exact below_st4 s9.below (by omega)) Hl0.out
          have hV10 := hMa.only y1 (noS_dC _ _ _ _ _) ho10
          have Hw10 := Lib.hid hw10
          have cd := y1.cell
          have ld := y1.lt
          have fd := y1.free
          have c0 := s9.box.cell
          have l0 := s9.box.lt
          have f0 := s9.box.free
          have c1 := s9.res.cell
          have l1 := s9.res.lt
          have f1 := s9.res.free
          clear hw10 ho10
          cases g10 : (er != 0)
          ·
           have ge : er = 0 := by simpa using g10
           subst ge
           obtain ⟨w11, hw11⟩ : ∃ w11, st4 w10 N (.int .i64 A.size) (.slice po2 A.pages.length pc2) (.slice co2 A.cache.length cc2) (.int .i64 A.left) = w11 := ⟨_, rfl⟩
           have xb : Bx w11 N (lgC A po2 co2 pc2 cc2 l.frm l.til l.ver ro l.recs.length rc) 27 := by subst hw11; exact s10.box.st4of8
           have ho11 : Only N w10 w11 := by subst hw11; exact only_st4
           have xr : Bx w11 (N + 1) lgZ 27 := s10.res.only ho11 (by omega)
           have hB : Below w.heap.size w w11 := by subst hw11; exact below_st4 s10.below (by omega)
           have hV11 := hV10.only s10.box (noS_lg _ _ _ _ _ _ _ _ _ _ _ _ _ _) ho11
           have HB11 : Hid (w.heap.size ≤ w11.heap.size) := Lib.hid hB.size
           have HL11 : Hid (LgV w11 (.agg (lgC A po2 co2 pc2 cc2 l.frm l.til l.ver ro l.recs.length rc)) { l with disk := A }) := Lib.hid ⟨po2, pc2, co2, cc2, ro, rc, rfl, hV11, Hsl.out, (Hst.out.below hB).mono fun b hb => Nat.lt_of_lt_of_le hb hB.size⟩
           have Hw11 := Lib.hid hw11
           clear hw11 ho11 hV11 s10 hV10 hMa
           go_wp2
           have HW := Hw11.out
           rw [← Hw10.out] at HW
           unfold st4 at HW
           rw [HW]
           clear HW Hw11 Hw10 cd ld fd c0 l0 f0 c1 l1 f1 s9 y1
           obtain ⟨L, hL⟩ : ∃ L, l.recs ++ rs = L := ⟨_, rfl⟩
           have hLl : L.length = l.recs.length + rs.length := by rw [← hL]; simp
           have hLm : L.map Value.string = l.recs.map Value.string ++ rs.map Value.string := by rw [← hL]; simp
           have hLs : sizeL L = en := by
            rw [← hL, ← Hen.out, ← Hsz.out, ← Hmo.out]
            simp [sizeL]
           have Hbd2 := Hbd.out.2
           have hszA : A.size = l.disk.size := Hsh.out.2.1
           have hfin := fun W (hb : Below w11.heap.size w11 W) o c (h1 : SlW o L.length c) (h2 : StrsAt (· < W.heap.size) W o L) => rf_finish { l with disk := A } (.agg (lgC A po2 co2 pc2 cc2 l.frm l.til l.ver ro l.recs.length rc)) L o c V W (HL11.out.below hb) h1 h2 Hver.out.1 Hver.out.2.2 (by show 24 ≤ A.size; omega) (by show A.size ≤ 512; omega) hfr0 (by show l.frm ≤ 1000000; omega) (by show A.cache.length ≤ 999990; have := HAc.out; omega) (by omega) (by omega)
           obtain ⟨F, er2, hF⟩ : ∃ F er2, finL { l with disk := A } L (nextL { l with disk := A } en) = (F, er2) := ⟨_, _, rfl⟩
           simp only [hLs, hF] at hfin
           have HRF : Hid (R = (F, er2)) := Lib.hid (by rw [HRA.out, if_neg (by simp), hL, hF])
           have Hfin := Lib.hid hfin
           have HLl := Lib.hid hLl
           have HLm := Lib.hid hLm
           obtain ⟨io, hio, hzo, hso, hbyo⟩ := info_parts infoStrg
           have Hio : Hid (Tryz.prog.info? 9 = some io ∧ io.zero = some (.string .empty) ∧ io.size = 1 ∧ io.bytes = 16) := Lib.hid ⟨hio, hzo, hso, hbyo⟩
           have HszA := Lib.hid hszA
           have hrl' : rs.length ≤ 1000 := hrl
           clear hfin hL hLl hLm hLs hF hio hzo hso hbyo hszA
           refine wp_region_startP #[false, false, false, false, false, false, false, false, false, false, false, false] 12 (by kernel_rfl) (by rfl) rfl ?_
           have hBS : Below w11.heap.size w11 w11.drew := (Below.refl _ _).drew
           have hbb := (Below.refl w11.heap.size w11).drew
           have xb := xb.belowAll hbb
           have xr := xr.belowAll hbb
           have hB := btr hB hbb
           obtain ⟨wc, hwc⟩ : ∃ W', w11.drew = W' := ⟨_, rfl⟩
           rw [hwc] at hbb xb xr hB hBS ⊢
           clear hwc hbb
           have c0 := xb.cell
           have l0 := xb.lt
           refine wpAny_take (i := 2) (v := ?_) rfl (by kernel_rfl) (by kernel_rfl) (by kernel_rfl) (fun _ _ _ h => h) (Or.inl ⟨by rfl, ?_⟩) ?_
           rotate_left
           ·
            intro w; go_simp; try with_reducible rfl
           simp only [Act.put, List.setIfInBounds_toArray, List.set_cons_zero, List.set_cons_succ]
           refine wpAny_take (i := 5) (v := ?_) rfl (by kernel_rfl) (by kernel_rfl) (by kernel_rfl) (fun _ _ _ h => h) (Or.inl ⟨by rfl, ?_⟩) ?_
           rotate_left
           ·
            intro w; go_simp; try with_reducible rfl
           simp only [Act.put, List.setIfInBounds_toArray, List.set_cons_zero, List.set_cons_succ]
           refine wpAny_ready (rs := [0, 1, 3]) (by kernel_rfl) (by simp) ?_
           refine AllReady.cons rfl (fun K hK => ?_) (AllReady.cons rfl (fun K hK => ?_) (AllReady.cons rfl (fun K hK => ?_) AllReady.nil))
           ·
            go_simp
            refine hK _ _ ?_
            clear hK K
            simp only [List.setIfInBounds_toArray, List.set_cons_zero]
            refine wpAny_ready (rs := [1, 3]) (by kernel_rfl) (by simp) ?_
            refine AllReady.cons rfl (fun K hK => ?_) (AllReady.cons rfl (fun K hK => ?_) AllReady.nil)
            ·
             go_simp
             refine hK _ _ ?_
             clear hK K
             have ho1 := ownsRow_empty wc w11.heap.size wc.heap.size 9 1 rfl hBS.size
             have hbb := Below.one wc (.cells #[] 9)
             obtain ⟨g, hg⟩ : ∃ g, wc.heap.size = g := ⟨_, rfl⟩
             rw [hg] at ho1
             obtain ⟨wc, hwd⟩ : ∃ W', wc.alloc (.cells #[] 9) = W' := ⟨_, rfl⟩
             rw [hwd] at ho1 hbb
             rw [hwd, hg]
             clear hwd
             have hB := btr hB hbb
             have hBS := btr hBS hbb
             have xb := xb.belowAll hbb
             have xr := xr.belowAll hbb
             clear c0 l0 hbb hg
             have Hown := Lib.hid ho1
             clear ho1
             have c0 := xb.cell
             have l0 := xb.lt
             simp only [List.setIfInBounds_toArray, List.set_cons_zero, List.set_cons_succ]
             refine wpAny_ready (rs := [3]) (by kernel_rfl) (by simp) ?_
             refine AllReady.cons rfl (fun K hK => ?_) AllReady.nil
             go_simp
             refine hK _ _ ?_
             clear hK K
             simp only [List.setIfInBounds_toArray, List.set_cons_zero, List.set_cons_succ]
             refine wpAny_ready (rs := [4]) (by kernel_rfl) (by simp) ?_
             refine AllReady.cons rfl (fun K hK => ?_) AllReady.nil
             have hzc := hBS.size
             refine wp_app (.tmp 128) (.tmp 130) 22 rfl w11.heap.size 9 io _ 1 16 Tryz.underlying22 Hio.out.1 Hio.out.2.1 Hio.out.2.2.1 Hio.out.2.2.2 rfl (by decide) _ 0 [] rfl Hown.out ro l.recs.length rc (l.recs.map .string) rfl Hsl.out.nil (by simp) (Hst.out.below hB).row (strs_one _) (by unfold maxLen; omega) (by omega) hzc ?_
             intro v4 wd ho7 hg7
             refine hK _ _ ?_
             clear hK K
             rw [Nat.zero_add, List.nil_append] at ho7
             have xb := xb.grown hg7 (fun e => ownsRow_ne_bx Hown.out xb (by decide) e.symm)
             have xr := xr.grown hg7 (fun e => ownsRow_ne_bx Hown.out xr (by decide) e.symm)
             have hBS' := hBS.grown hg7 hzc (fun b e => (Hown.out.lt b e).1)
             have hB := hB.grown hg7 hB.size (fun b e => Nat.le_trans HB11.out (Hown.out.lt b e).1)
             obtain ⟨wc, hwd⟩ : ∃ W', wd = W' := ⟨_, rfl⟩
             rw [hwd] at ho7 xb xr hBS' hB ⊢
             have hBS := hBS'
             clear hwd hg7 c0 l0 Hown hBS'
             have Hown := Lib.hid ho7
             clear ho7
             have c0 := xb.cell
             have l0 := xb.lt
             simp only [Act.put, List.setIfInBounds_toArray, List.set_cons_zero, List.set_cons_succ]
             refine wpAny_ready (rs := [6]) (by kernel_rfl) (by simp) ?_
             refine AllReady.cons rfl (fun K hK => ?_) AllReady.nil
             have hzc := hBS.size
             refine wp_app (.tmp 131) (.tmp 132) 22 rfl w11.heap.size 9 io _ 1 16 Tryz.underlying22 Hio.out.1 Hio.out.2.1 Hio.out.2.2.1 Hio.out.2.2.2 rfl (by decide) v4 l.recs.length (l.recs.map .string) rfl Hown.out qo rs.length qc (rs.map .string) rfl Hqs.out.nil (by simp) (Hqt.out.below hB).row (strs_one _) (by unfold maxLen; omega) (by omega) hzc ?_
             intro v6 wd ho7 hg7
             refine hK _ _ ?_
             clear hK K
             rw [← HLm.out, ← HLl.out] at ho7
             have xb := xb.grown hg7 (fun e => ownsRow_ne_bx Hown.out xb (by decide) e.symm)
             have xr := xr.grown hg7 (fun e => ownsRow_ne_bx Hown.out xr (by decide) e.symm)
             have hBS' := hBS.grown hg7 hzc (fun b e => (Hown.out.lt b e).1)
             have hB := hB.grown hg7 hB.size (fun b e => Nat.le_trans HB11.out (Hown.out.lt b e).1)
             obtain ⟨o6, c6, rfl, hs6, ht6, _⟩ := ownsRow_at ho7
             have HS6 : Hid (SlW o6 L.length c6 ∧ StrsAt (· < wd.heap.size) wd o6 L) := Lib.hid ⟨hs6, (StrsAt.of_row ht6).mono fun b hb => hb.2⟩
             obtain ⟨wc, hwd⟩ : ∃ W', wd = W' := ⟨_, rfl⟩
             rw [hwd] at HS6 xb xr hBS' hB ⊢
             have hBS := hBS'
             clear hwd hg7 c0 l0 Hown hBS' hs6 ht6 ho7
             have c0 := xb.cell
             have l0 := xb.lt
             simp only [Act.put, List.setIfInBounds_toArray, List.set_cons_zero, List.set_cons_succ]
             refine wpAny_ready (rs := [7]) (by kernel_rfl) (by simp) ?_
             refine AllReady.cons rfl (fun K hK => ?_) AllReady.nil
             go_simp
             refine (Hfin.out wc hBS o6 c6 HS6.out.1 HS6.out.2).mono ?_
             rintro e wd ⟨vF, rfl, hLF, hbb⟩
             refine hK _ _ ?_
             clear hK K
             have hLF' := hLF
             obtain ⟨po3, pc3, co3, cc3, ro3, rc3, rfl, _, _, _⟩ := hLF
             have xr := xr.belowAll hbb
             have hB := btr hB hbb
             obtain ⟨Wf, hWf⟩ : ∃ Wf, st8 wd (N + 1) (.int .i64 F.disk.size) (.slice po3 F.disk.pages.length pc3) (.slice co3 F.disk.cache.length cc3) (.int .i64 F.disk.left) (.int .i64 F.frm) (.int .i64 F.til) (.int .i64 F.ver) (.slice ro3 F.recs.length rc3) = Wf := ⟨_, rfl⟩
             have zR : Bx Wf (N + 1) (lgC F.disk po3 co3 pc3 cc3 F.frm F.til F.ver ro3 F.recs.length rc3) 27 := by subst hWf; exact xr.set8
             have zB : Below w.heap.size w Wf := by subst hWf; exact below_set8 hB (by rw [hN]; exact Nat.le_succ N)
             have zL : LgV Wf (.agg (lgC F.disk po3 co3 pc3 cc3 F.frm F.til F.ver ro3 F.recs.length rc3)) F := by subst hWf; exact hLF'.only xr (noS_lg _ _ _ _ _ _ _ _ _ _ _ _ _ _) Only.eight
             clear c0 l0
             have cX := xr.cell
             have lX := xr.lt
             have fX := xr.free
             have ZB := Lib.hid zB
             have ZL := Lib.hid zL
             have HWf := Lib.hid hWf
             clear zB zL hWf hLF' hbb xb xr hB HS6 hBS
             simp only [List.setIfInBounds_toArray, List.set_cons_zero, List.set_cons_succ]
             refine wpAny_take (i := 8) (v := ?_) rfl (by kernel_rfl) (by kernel_rfl) (by kernel_rfl) (fun _ _ _ h => h) (Or.inl ⟨by rfl, ?_⟩) ?_
             rotate_left
             ·
              intro w; go_simp; try with_reducible rfl
             simp only [Act.put, List.setIfInBounds_toArray, List.set_cons_zero, List.set_cons_succ]
             refine wpAny_take (i := 9) (v := ?_) rfl (by kernel_rfl) (by kernel_rfl) (by kernel_rfl) (fun _ _ _ h => h) (Or.inl ⟨by rfl, ?_⟩) ?_
             rotate_left
             ·
              intro w; go_simp; try with_reducible rfl
             simp only [Act.put, List.setIfInBounds_toArray, List.set_cons_zero, List.set_cons_succ]
             refine wpAny_ready (rs := [10]) (by kernel_rfl) (by simp) ?_
             refine AllReady.cons rfl (fun K hK => ?_) AllReady.nil
             go_simp
             refine hK _ _ ?_
             clear hK K
             refine wpAny_ready (rs := [11]) (by kernel_rfl) (by simp) ?_
             refine AllReady.cons rfl (fun K hK => ?_) AllReady.nil
             go_simp
             refine hK _ _ ?_
             clear hK K
             refine wpAny_done (by kernel_rfl) ?_ _
             go_wp2
             have HW := HWf.out
             unfold st8 at HW
             rw [HW]
             have cZ := zR.cell
             refine bodyPost_ret (v := .tuple #[.agg (lgC F.disk po3 co3 pc3 cc3 F.frm F.til F.ver ro3 F.recs.length rc3), .int .i64 er2]) (by simp [results, Tryz.results9, go_sem, cZ]) rfl ?_
             rw [HRF.out]
             exact ⟨_, rfl, ZL.out, ZB.out⟩
            ·
             go_simp
             refine hK _ _ ?_
             clear hK K
             simp only [List.setIfInBounds_toArray, List.set_cons_zero, List.set_cons_succ]
             refine wpAny_ready (rs := [1]) (by kernel_rfl) (by simp) ?_
             refine AllReady.cons rfl (fun K hK => ?_) AllReady.nil
             go_simp
             refine hK _ _ ?_
             clear hK K
             have ho1 := ownsRow_empty wc w11.heap.size wc.heap.size 9 1 rfl hBS.size
             have hbb := Below.one wc (.cells #[] 9)
             obtain ⟨g, hg⟩ : ∃ g, wc.heap.size = g := ⟨_, rfl⟩
             rw [hg] at ho1
             obtain ⟨wc, hwd⟩ : ∃ W', wc.alloc (.cells #[] 9) = W' := ⟨_, rfl⟩
             rw [hwd] at ho1 hbb
             rw [hwd, hg]
             clear hwd
             have hB := btr hB hbb
             have hBS := btr hBS hbb
             have xb := xb.belowAll hbb
             have xr := xr.belowAll hbb
             clear c0 l0 hbb hg
             have Hown := Lib.hid ho1
             clear ho1
             have c0 := xb.cell
             have l0 := xb.lt
             simp only [List.setIfInBounds_toArray, List.set_cons_zero, List.set_cons_succ]
             refine wpAny_ready (rs := [4]) (by kernel_rfl) (by simp) ?_
             refine AllReady.cons rfl (fun K hK => ?_) AllReady.nil
             have hzc := hBS.size
             refine wp_app (.tmp 128) (.tmp 130) 22 rfl w11.heap.size 9 io _ 1 16 Tryz.underlying22 Hio.out.1 Hio.out.2.1 Hio.out.2.2.1 Hio.out.2.2.2 rfl (by decide) _ 0 [] rfl Hown.out ro l.recs.length rc (l.recs.map .string) rfl Hsl.out.nil (by simp) (Hst.out.below hB).row (strs_one _) (by unfold maxLen; omega) (by omega) hzc ?_
             intro v4 wd ho7 hg7
             refine hK _ _ ?_
             clear hK K
             rw [Nat.zero_add, List.nil_append] at ho7
             have xb := xb.grown hg7 (fun e => ownsRow_ne_bx Hown.out xb (by decide) e.symm)
             have xr := xr.grown hg7 (fun e => ownsRow_ne_bx Hown.out xr (by decide) e.symm)
             have hBS' := hBS.grown hg7 hzc (fun b e => (Hown.out.lt b e).1)
             have hB := hB.grown hg7 hB.size (fun b e => Nat.le_trans HB11.out (Hown.out.lt b e).1)
             obtain ⟨wc, hwd⟩ : ∃ W', wd = W' := ⟨_, rfl⟩
             rw [hwd] at ho7 xb xr hBS' hB ⊢
             have hBS := hBS'
             clear hwd hg7 c0 l0 Hown hBS'
             have Hown := Lib.hid ho7
             clear ho7
             have c0 := xb.cell
             have l0 := xb.lt
             simp only [Act.put, List.setIfInBounds_toArray, List.set_cons_zero, List.set_cons_succ]
             refine wpAny_ready (rs := [6]) (by kernel_rfl) (by simp) ?_
             refine AllReady.cons rfl (fun K hK => ?_) AllReady.nil
             have hzc := hBS.size
             refine wp_app (.tmp 131) (.tmp 132) 22 rfl w11.heap.size 9 io _ 1 16 Tryz.underlying22 Hio.out.1 Hio.out.2.1 Hio.out.2.2.1 Hio.out.2.2.2 rfl (by decide) v4 l.recs.length (l.recs.map .string) rfl Hown.out qo rs.length qc (rs.map .string) rfl Hqs.out.nil (by simp) (Hqt.out.below hB).row (strs_one _) (by unfold maxLen; omega) (by omega) hzc ?_
             intro v6 wd ho7 hg7
             refine hK _ _ ?_
             clear hK K
             rw [← HLm.out, ← HLl.out] at ho7
             have xb := xb.grown hg7 (fun e => ownsRow_ne_bx Hown.out xb (by decide) e.symm)
             have xr := xr.grown hg7 (fun e => ownsRow_ne_bx Hown.out xr (by decide) e.symm)
             have hBS' := hBS.grown hg7 hzc (fun b e => (Hown.out.lt b e).1)
             have hB := hB.grown hg7 hB.size (fun b e => Nat.le_trans HB11.out (Hown.out.lt b e).1)
             obtain ⟨o6, c6, rfl, hs6, ht6, _⟩ := ownsRow_at ho7
             have HS6 : Hid (SlW o6 L.length c6 ∧ StrsAt (· < wd.heap.size) wd o6 L) := Lib.hid ⟨hs6, (StrsAt.of_row ht6).mono fun b hb => hb.2⟩
             obtain ⟨wc, hwd⟩ : ∃ W', wd = W' := ⟨_, rfl⟩
             rw [hwd] at HS6 xb xr hBS' hB ⊢
             have hBS := hBS'
             clear hwd hg7 c0 l0 Hown hBS' hs6 ht6 ho7
             have c0 := xb.cell
             have l0 := xb.lt
             simp only [Act.put, List.setIfInBounds_toArray, List.set_cons_zero, List.set_cons_succ]
             refine wpAny_ready (rs := [7]) (by kernel_rfl) (by simp) ?_
             refine AllReady.cons rfl (fun K hK => ?_) AllReady.nil
             go_simp
             refine (Hfin.out wc hBS o6 c6 HS6.out.1 HS6.out.2).mono ?_
             rintro e wd ⟨vF, rfl, hLF, hbb⟩
             refine hK _ _ ?_
             clear hK K
             have hLF' := hLF
             obtain ⟨po3, pc3, co3, cc3, ro3, rc3, rfl, _, _, _⟩ := hLF
             have xr := xr.belowAll hbb
             have hB := btr hB hbb
             obtain ⟨Wf, hWf⟩ : ∃ Wf, st8 wd (N + 1) (.int .i64 F.disk.size) (.slice po3 F.disk.pages.length pc3) (.slice co3 F.disk.cache.length cc3) (.int .i64 F.disk.left) (.int .i64 F.frm) (.int .i64 F.til) (.int .i64 F.ver) (.slice ro3 F.recs.length rc3) = Wf := ⟨_, rfl⟩
             have zR : Bx Wf (N + 1) (lgC F.disk po3 co3 pc3 cc3 F.frm F.til F.ver ro3 F.recs.length rc3) 27 := by subst hWf; exact xr.set8
             have zB : Below w.heap.size w Wf := by subst hWf; exact below_set8 hB (by rw [hN]; exact Nat.le_succ N)
             have zL : LgV Wf (.agg (lgC F.disk po3 co3 pc3 cc3 F.frm F.til F.ver ro3 F.recs.length rc3)) F := by subst hWf; exact hLF'.only xr (noS_lg _ _ _ _ _ _ _ _ _ _ _ _ _ _) Only.eight
             clear c0 l0
             have cX := xr.cell
             have lX := xr.lt
             have fX := xr.free
             have ZB := Lib.hid zB
             have ZL := Lib.hid zL
             have HWf := Lib.hid hWf
             clear zB zL hWf hLF' hbb xb xr hB HS6 hBS
             simp only [List.setIfInBounds_toArray, List.set_cons_zero, List.set_cons_succ]
             refine wpAny_take (i := 8) (v := ?_) rfl (by kernel_rfl) (by kernel_rfl) (by kernel_rfl) (fun _ _ _ h => h) (Or.inl ⟨by rfl, ?_⟩) ?_
             rotate_left
             ·
              intro w; go_simp; try with_reducible rfl
             simp only [Act.put, List.setIfInBounds_toArray, List.set_cons_zero, List.set_cons_succ]
             refine wpAny_take (i := 9) (v := ?_) rfl (by kernel_rfl) (by kernel_rfl) (by kernel_rfl) (fun _ _ _ h => h) (Or.inl ⟨by rfl, ?_⟩) ?_
             rotate_left
             ·
              intro w; go_simp; try with_reducible rfl
             simp only [Act.put, List.setIfInBounds_toArray, List.set_cons_zero, List.set_cons_succ]
             refine wpAny_ready (rs := [10]) (by kernel_rfl) (by simp) ?_
             refine AllReady.cons rfl (fun K hK => ?_) AllReady.nil
             go_simp
             refine hK _ _ ?_
             clear hK K
             refine wpAny_ready (rs := [11]) (by kernel_rfl) (by simp) ?_
             refine AllReady.cons rfl (fun K hK => ?_) AllReady.nil
             go_simp
             refine hK _ _ ?_
             clear hK K
             refine wpAny_done (by kernel_rfl) ?_ _
             go_wp2
             have HW := HWf.out
             unfold st8 at HW
             rw [HW]
             have cZ := zR.cell
             refine bodyPost_ret (v := .tuple #[.agg (lgC F.disk po3 co3 pc3 cc3 F.frm F.til F.ver ro3 F.recs.length rc3), .int .i64 er2]) (by simp [results, Tryz.results9, go_sem, cZ]) rfl ?_
             rw [HRF.out]
             exact ⟨_, rfl, ZL.out, ZB.out⟩
           ·
            go_simp
            refine hK _ _ ?_
            clear hK K
            have ho1 := ownsRow_empty wc w11.heap.size wc.heap.size 9 1 rfl hBS.size
            have hbb := Below.one wc (.cells #[] 9)
            obtain ⟨g, hg⟩ : ∃ g, wc.heap.size = g := ⟨_, rfl⟩
            rw [hg] at ho1
            obtain ⟨wc, hwd⟩ : ∃ W', wc.alloc (.cells #[] 9) = W' := ⟨_, rfl⟩
            rw [hwd] at ho1 hbb
            rw [hwd, hg]
            clear hwd
            have hB := btr hB hbb
            have hBS := btr hBS hbb
            have xb := xb.belowAll hbb
            have xr := xr.belowAll hbb
            clear c0 l0 hbb hg
            have Hown := Lib.hid ho1
            clear ho1
            have c0 := xb.cell
            have l0 := xb.lt
            simp only [List.setIfInBounds_toArray, List.set_cons_zero, List.set_cons_succ]
            refine wpAny_ready (rs := [0, 3]) (by kernel_rfl) (by simp) ?_
            refine AllReady.cons rfl (fun K hK => ?_) (AllReady.cons rfl (fun K hK => ?_) AllReady.nil)
            ·
             go_simp
             refine hK _ _ ?_
             clear hK K
             simp only [List.setIfInBounds_toArray, List.set_cons_zero]
             refine wpAny_ready (rs := [3]) (by kernel_rfl) (by simp) ?_
             refine AllReady.cons rfl (fun K hK => ?_) AllReady.nil
             go_simp
             refine hK _ _ ?_
             clear hK K
             simp only [List.setIfInBounds_toArray, List.set_cons_zero, List.set_cons_succ]
             refine wpAny_ready (rs := [4]) (by kernel_rfl) (by simp) ?_
             refine AllReady.cons rfl (fun K hK => ?_) AllReady.nil
             have hzc := hBS.size
             refine wp_app (.tmp 128) (.tmp 130) 22 rfl w11.heap.size 9 io _ 1 16 Tryz.underlying22 Hio.out.1 Hio.out.2.1 Hio.out.2.2.1 Hio.out.2.2.2 rfl (by decide) _ 0 [] rfl Hown.out ro l.recs.length rc (l.recs.map .string) rfl Hsl.out.nil (by simp) (Hst.out.below hB).row (strs_one _) (by unfold maxLen; omega) (by omega) hzc ?_
             intro v4 wd ho7 hg7
             refine hK _ _ ?_
             clear hK K
             rw [Nat.zero_add, List.nil_append] at ho7
             have xb := xb.grown hg7 (fun e => ownsRow_ne_bx Hown.out xb (by decide) e.symm)
             have xr := xr.grown hg7 (fun e => ownsRow_ne_bx Hown.out xr (by decide) e.symm)
             have hBS' := hBS.grown hg7 hzc (fun b e => (Hown.out.lt b e).1)
             have hB := hB.grown hg7 hB.size (fun b e => Nat.le_trans HB11.out (Hown.out.lt b e).1)
             obtain ⟨wc, hwd⟩ : ∃ W', wd = W' := ⟨_, rfl⟩
             rw [hwd] at ho7 xb xr hBS' hB ⊢
             have hBS := hBS'
             clear hwd hg7 c0 l0 Hown hBS'
             have Hown := Lib.hid ho7
             clear ho7
             have c0 := xb.cell
             have l0 := xb.lt
             simp only [Act.put, List.setIfInBounds_toArray, List.set_cons_zero, List.set_cons_succ]
             refine wpAny_ready (rs := [6]) (by kernel_rfl) (by simp) ?_
             refine AllReady.cons rfl (fun K hK => ?_) AllReady.nil
             have hzc := hBS.size
             refine wp_app (.tmp 131) (.tmp 132) 22 rfl w11.heap.size 9 io _ 1 16 Tryz.underlying22 Hio.out.1 Hio.out.2.1 Hio.out.2.2.1 Hio.out.2.2.2 rfl (by decide) v4 l.recs.length (l.recs.map .string) rfl Hown.out qo rs.length qc (rs.map .string) rfl Hqs.out.nil (by simp) (Hqt.out.below hB).row (strs_one _) (by unfold maxLen; omega) (by omega) hzc ?_
             intro v6 wd ho7 hg7
             refine hK _ _ ?_
             clear hK K
             rw [← HLm.out, ← HLl.out] at ho7
             have xb := xb.grown hg7 (fun e => ownsRow_ne_bx Hown.out xb (by decide) e.symm)
             have xr := xr.grown hg7 (fun e => ownsRow_ne_bx Hown.out xr (by decide) e.symm)
             have hBS' := hBS.grown hg7 hzc (fun b e => (Hown.out.lt b e).1)
             have hB := hB.grown hg7 hB.size (fun b e => Nat.le_trans HB11.out (Hown.out.lt b e).1)
             obtain ⟨o6, c6, rfl, hs6, ht6, _⟩ := ownsRow_at ho7
             have HS6 : Hid (SlW o6 L.length c6 ∧ StrsAt (· < wd.heap.size) wd o6 L) := Lib.hid ⟨hs6, (StrsAt.of_row ht6).mono fun b hb => hb.2⟩
             obtain ⟨wc, hwd⟩ : ∃ W', wd = W' := ⟨_, rfl⟩
             rw [hwd] at HS6 xb xr hBS' hB ⊢
             have hBS := hBS'
             clear hwd hg7 c0 l0 Hown hBS' hs6 ht6 ho7
             have c0 := xb.cell
             have l0 := xb.lt
             simp only [Act.put, List.setIfInBounds_toArray, List.set_cons_zero, List.set_cons_succ]
             refine wpAny_ready (rs := [7]) (by kernel_rfl) (by simp) ?_
             refine AllReady.cons rfl (fun K hK => ?_) AllReady.nil
             go_simp
             refine (Hfin.out wc hBS o6 c6 HS6.out.1 HS6.out.2).mono ?_
             rintro e wd ⟨vF, rfl, hLF, hbb⟩
             refine hK _ _ ?_
             clear hK K
             have hLF' := hLF
             obtain ⟨po3, pc3, co3, cc3, ro3, rc3, rfl, _, _, _⟩ := hLF
             have xr := xr.belowAll hbb
             have hB := btr hB hbb
             obtain ⟨Wf, hWf⟩ : ∃ Wf, st8 wd (N + 1) (.int .i64 F.disk.size) (.slice po3 F.disk.pages.length pc3) (.slice co3 F.disk.cache.length cc3) (.int .i64 F.disk.left) (.int .i64 F.frm) (.int .i64 F.til) (.int .i64 F.ver) (.slice ro3 F.recs.length rc3) = Wf := ⟨_, rfl⟩
             have zR : Bx Wf (N + 1) (lgC F.disk po3 co3 pc3 cc3 F.frm F.til F.ver ro3 F.recs.length rc3) 27 := by subst hWf; exact xr.set8
             have zB : Below w.heap.size w Wf := by subst hWf; exact below_set8 hB (by rw [hN]; exact Nat.le_succ N)
             have zL : LgV Wf (.agg (lgC F.disk po3 co3 pc3 cc3 F.frm F.til F.ver ro3 F.recs.length rc3)) F := by subst hWf; exact hLF'.only xr (noS_lg _ _ _ _ _ _ _ _ _ _ _ _ _ _) Only.eight
             clear c0 l0
             have cX := xr.cell
             have lX := xr.lt
             have fX := xr.free
             have ZB := Lib.hid zB
             have ZL := Lib.hid zL
             have HWf := Lib.hid hWf
             clear zB zL hWf hLF' hbb xb xr hB HS6 hBS
             simp only [List.setIfInBounds_toArray, List.set_cons_zero, List.set_cons_succ]
             refine wpAny_take (i := 8) (v := ?_) rfl (by kernel_rfl) (by kernel_rfl) (by kernel_rfl) (fun _ _ _ h => h) (Or.inl ⟨by rfl, ?_⟩) ?_
             rotate_left
             ·
              intro w; go_simp; try with_reducible rfl
             simp only [Act.put, List.setIfInBounds_toArray, List.set_cons_zero, List.set_cons_succ]
             refine wpAny_take (i := 9) (v := ?_) rfl (by kernel_rfl) (by kernel_rfl) (by kernel_rfl) (fun _ _ _ h => h) (Or.inl ⟨by rfl, ?_⟩) ?_
             rotate_left
             ·
              intro w; go_simp; try with_reducible rfl
             simp only [Act.put, List.setIfInBounds_toArray, List.set_cons_zero, List.set_cons_succ]
             refine wpAny_ready (rs := [10]) (by kernel_rfl) (by simp) ?_
             refine AllReady.cons rfl (fun K hK => ?_) AllReady.nil
             go_simp
             refine hK _ _ ?_
             clear hK K
             refine wpAny_ready (rs := [11]) (by kernel_rfl) (by simp) ?_
             refine AllReady.cons rfl (fun K hK => ?_) AllReady.nil
             go_simp
             refine hK _ _ ?_
             clear hK K
             refine wpAny_done (by kernel_rfl) ?_ _
             go_wp2
             have HW := HWf.out
             unfold st8 at HW
             rw [HW]
             have cZ := zR.cell
             refine bodyPost_ret (v := .tuple #[.agg (lgC F.disk po3 co3 pc3 cc3 F.frm F.til F.ver ro3 F.recs.length rc3), .int .i64 er2]) (by simp [results, Tryz.results9, go_sem, cZ]) rfl ?_
             rw [HRF.out]
             exact ⟨_, rfl, ZL.out, ZB.out⟩
            ·
             go_simp
             refine hK _ _ ?_
             clear hK K
             simp only [List.setIfInBounds_toArray, List.set_cons_zero, List.set_cons_succ]
             refine wpAny_ready (rs := [0, 4]) (by kernel_rfl) (by simp) ?_
             refine AllReady.cons rfl (fun K hK => ?_) (AllReady.cons rfl (fun K hK => ?_) AllReady.nil)
             ·
              go_simp
              refine hK _ _ ?_
              clear hK K
              simp only [List.setIfInBounds_toArray, List.set_cons_zero]
              refine wpAny_ready (rs := [4]) (by kernel_rfl) (by simp) ?_
              refine AllReady.cons rfl (fun K hK => ?_) AllReady.nil
              have hzc := hBS.size
              refine wp_app (.tmp 128) (.tmp 130) 22 rfl w11.heap.size 9 io _ 1 16 Tryz.underlying22 Hio.out.1 Hio.out.2.1 Hio.out.2.2.1 Hio.out.2.2.2 rfl (by decide) _ 0 [] rfl Hown.out ro l.recs.length rc (l.recs.map .string) rfl Hsl.out.nil (by simp) (Hst.out.below hB).row (strs_one _) (by unfold maxLen; omega) (by omega) hzc ?_
              intro v4 wd ho7 hg7
              refine hK _ _ ?_
              clear hK K
              rw [Nat.zero_add, List.nil_append] at ho7
              have xb := xb.grown hg7 (fun e => ownsRow_ne_bx Hown.out xb (by decide) e.symm)
              have xr := xr.grown hg7 (fun e => ownsRow_ne_bx Hown.out xr (by decide) e.symm)
              have hBS' := hBS.grown hg7 hzc (fun b e => (Hown.out.lt b e).1)
              have hB := hB.grown hg7 hB.size (fun b e => Nat.le_trans HB11.out (Hown.out.lt b e).1)
              obtain ⟨wc, hwd⟩ : ∃ W', wd = W' := ⟨_, rfl⟩
              rw [hwd] at ho7 xb xr hBS' hB ⊢
              have hBS := hBS'
              clear hwd hg7 c0 l0 Hown hBS'
              have Hown := Lib.hid ho7
              clear ho7
              have c0 := xb.cell
              have l0 := xb.lt
              simp only [Act.put, List.setIfInBounds_toArray, List.set_cons_zero, List.set_cons_succ]
              refine wpAny_ready (rs := [6]) (by kernel_rfl) (by simp) ?_
              refine AllReady.cons rfl (fun K hK => ?_) AllReady.nil
              have hzc := hBS.size
              refine wp_app (.tmp 131) (.tmp 132) 22 rfl w11.heap.size 9 io _ 1 16 Tryz.underlying22 Hio.out.1 Hio.out.2.1 Hio.out.2.2.1 Hio.out.2.2.2 rfl (by decide) v4 l.recs.length (l.recs.map .string) rfl Hown.out qo rs.length qc (rs.map .string) rfl Hqs.out.nil (by simp) (Hqt.out.below hB).row (strs_one _) (by unfold maxLen; omega) (by omega) hzc ?_
              intro v6 wd ho7 hg7
              refine hK _ _ ?_
              clear hK K
              rw [← HLm.out, ← HLl.out] at ho7
              have xb := xb.grown hg7 (fun e => ownsRow_ne_bx Hown.out xb (by decide) e.symm)
              have xr := xr.grown hg7 (fun e => ownsRow_ne_bx Hown.out xr (by decide) e.symm)
              have hBS' := hBS.grown hg7 hzc (fun b e => (Hown.out.lt b e).1)
              have hB := hB.grown hg7 hB.size (fun b e => Nat.le_trans HB11.out (Hown.out.lt b e).1)
              obtain ⟨o6, c6, rfl, hs6, ht6, _⟩ := ownsRow_at ho7
              have HS6 : Hid (SlW o6 L.length c6 ∧ StrsAt (· < wd.heap.size) wd o6 L) := Lib.hid ⟨hs6, (StrsAt.of_row ht6).mono fun b hb => hb.2⟩
              obtain ⟨wc, hwd⟩ : ∃ W', wd = W' := ⟨_, rfl⟩
              rw [hwd] at HS6 xb xr hBS' hB ⊢
              have hBS := hBS'
              clear hwd hg7 c0 l0 Hown hBS' hs6 ht6 ho7
              have c0 := xb.cell
              have l0 := xb.lt
              simp only [Act.put, List.setIfInBounds_toArray, List.set_cons_zero, List.set_cons_succ]
              refine wpAny_ready (rs := [7]) (by kernel_rfl) (by simp) ?_
              refine AllReady.cons rfl (fun K hK => ?_) AllReady.nil
              go_simp
              refine (Hfin.out wc hBS o6 c6 HS6.out.1 HS6.out.2).mono ?_
              rintro e wd ⟨vF, rfl, hLF, hbb⟩
              refine hK _ _ ?_
              clear hK K
              have hLF' := hLF
              obtain ⟨po3, pc3, co3, cc3, ro3, rc3, rfl, _, _, _⟩ := hLF
              have xr := xr.belowAll hbb
              have hB := btr hB hbb
              obtain ⟨Wf, hWf⟩ : ∃ Wf, st8 wd (N + 1) (.int .i64 F.disk.size) (.slice po3 F.disk.pages.length pc3) (.slice co3 F.disk.cache.length cc3) (.int .i64 F.disk.left) (.int .i64 F.frm) (.int .i64 F.til) (.int .i64 F.ver) (.slice ro3 F.recs.length rc3) = Wf := ⟨_, rfl⟩
              have zR : Bx Wf (N + 1) (lgC F.disk po3 co3 pc3 cc3 F.frm F.til F.ver ro3 F.recs.length rc3) 27 := by subst hWf; exact xr.set8
              have zB : Below w.heap.size w Wf := by subst hWf; exact below_set8 hB (by rw [hN]; exact Nat.le_succ N)
              have zL : LgV Wf (.agg (lgC F.disk po3 co3 pc3 cc3 F.frm F.til F.ver ro3 F.recs.length rc3)) F := by subst hWf; exact hLF'.only xr (noS_lg _ _ _ _ _ _ _ _ _ _ _ _ _ _) Only.eight
              clear c0 l0
              have cX := xr.cell
              have lX := xr.lt
              have fX := xr.free
              have ZB := Lib.hid zB
              have ZL := Lib.hid zL
              have HWf := Lib.hid hWf
              clear zB zL hWf hLF' hbb xb xr hB HS6 hBS
              simp only [List.setIfInBounds_toArray, List.set_cons_zero, List.set_cons_succ]
              refine wpAny_take (i := 8) (v := ?_) rfl (by kernel_rfl) (by kernel_rfl) (by kernel_rfl) (fun _ _ _ h => h) (Or.inl ⟨by rfl, ?_⟩) ?_
              rotate_left
              ·
               intro w; go_simp; try with_reducible rfl
              simp only [Act.put, List.setIfInBounds_toArray, List.set_cons_zero, List.set_cons_succ]
              refine wpAny_take (i := 9) (v := ?_) rfl (by kernel_rfl) (by kernel_rfl) (by kernel_rfl) (fun _ _ _ h => h) (Or.inl ⟨by rfl, ?_⟩) ?_
              rotate_left
              ·
               intro w; go_simp; try with_reducible rfl
              simp only [Act.put, List.setIfInBounds_toArray, List.set_cons_zero, List.set_cons_succ]
              refine wpAny_ready (rs := [10]) (by kernel_rfl) (by simp) ?_
              refine AllReady.cons rfl (fun K hK => ?_) AllReady.nil
              go_simp
              refine hK _ _ ?_
              clear hK K
              refine wpAny_ready (rs := [11]) (by kernel_rfl) (by simp) ?_
              refine AllReady.cons rfl (fun K hK => ?_) AllReady.nil
              go_simp
              refine hK _ _ ?_
              clear hK K
              refine wpAny_done (by kernel_rfl) ?_ _
              go_wp2
              have HW := HWf.out
              unfold st8 at HW
              rw [HW]
              have cZ := zR.cell
              refine bodyPost_ret (v := .tuple #[.agg (lgC F.disk po3 co3 pc3 cc3 F.frm F.til F.ver ro3 F.recs.length rc3), .int .i64 er2]) (by simp [results, Tryz.results9, go_sem, cZ]) rfl ?_
              rw [HRF.out]
              exact ⟨_, rfl, ZL.out, ZB.out⟩
             ·
              have hzc := hBS.size
              refine wp_app (.tmp 128) (.tmp 130) 22 rfl w11.heap.size 9 io _ 1 16 Tryz.underlying22 Hio.out.1 Hio.out.2.1 Hio.out.2.2.1 Hio.out.2.2.2 rfl (by decide) _ 0 [] rfl Hown.out ro l.recs.length rc (l.recs.map .string) rfl Hsl.out.nil (by simp) (Hst.out.below hB).row (strs_one _) (by unfold maxLen; omega) (by omega) hzc ?_
              intro v4 wd ho7 hg7
              refine hK _ _ ?_
              clear hK K
              rw [Nat.zero_add, List.nil_append] at ho7
              have xb := xb.grown hg7 (fun e => ownsRow_ne_bx Hown.out xb (by decide) e.symm)
              have xr := xr.grown hg7 (fun e => ownsRow_ne_bx Hown.out xr (by decide) e.symm)
              have hBS' := hBS.grown hg7 hzc (fun b e => (Hown.out.lt b e).1)
              have hB := hB.grown hg7 hB.size (fun b e => Nat.le_trans HB11.out (Hown.out.lt b e).1)
              obtain ⟨wc, hwd⟩ : ∃ W', wd = W' := ⟨_, rfl⟩
              rw [hwd] at ho7 xb xr hBS' hB ⊢
              have hBS := hBS'
              clear hwd hg7 c0 l0 Hown hBS'
              have Hown := Lib.hid ho7
              clear ho7
              have c0 := xb.cell
              have l0 := xb.lt
              simp only [Act.put, List.setIfInBounds_toArray, List.set_cons_zero, List.set_cons_succ]
              refine wpAny_ready (rs := [0, 6]) (by kernel_rfl) (by simp) ?_
              refine AllReady.cons rfl (fun K hK => ?_) (AllReady.cons rfl (fun K hK => ?_) AllReady.nil)
              ·
               go_simp
               refine hK _ _ ?_
               clear hK K
               simp only [List.setIfInBounds_toArray, List.set_cons_zero]
               refine wpAny_ready (rs := [6]) (by kernel_rfl) (by simp) ?_
               refine AllReady.cons rfl (fun K hK => ?_) AllReady.nil
               have hzc := hBS.size
               refine wp_app (.tmp 131) (.tmp 132) 22 rfl w11.heap.size 9 io _ 1 16 Tryz.underlying22 Hio.out.1 Hio.out.2.1 Hio.out.2.2.1 Hio.out.2.2.2 rfl (by decide) v4 l.recs.length (l.recs.map .string) rfl Hown.out qo rs.length qc (rs.map .string) rfl Hqs.out.nil (by simp) (Hqt.out.below hB).row (strs_one _) (by unfold maxLen; omega) (by omega) hzc ?_
               intro v6 wd ho7 hg7
               refine hK _ _ ?_
               clear hK K
               rw [← HLm.out, ← HLl.out] at ho7
               have xb := xb.grown hg7 (fun e => ownsRow_ne_bx Hown.out xb (by decide) e.symm)
               have xr := xr.grown hg7 (fun e => ownsRow_ne_bx Hown.out xr (by decide) e.symm)
               have hBS' := hBS.grown hg7 hzc (fun b e => (Hown.out.lt b e).1)
               have hB := hB.grown hg7 hB.size (fun b e => Nat.le_trans HB11.out (Hown.out.lt b e).1)
               obtain ⟨o6, c6, rfl, hs6, ht6, _⟩ := ownsRow_at ho7
               have HS6 : Hid (SlW o6 L.length c6 ∧ StrsAt (· < wd.heap.size) wd o6 L) := Lib.hid ⟨hs6, (StrsAt.of_row ht6).mono fun b hb => hb.2⟩
               obtain ⟨wc, hwd⟩ : ∃ W', wd = W' := ⟨_, rfl⟩
               rw [hwd] at HS6 xb xr hBS' hB ⊢
               have hBS := hBS'
               clear hwd hg7 c0 l0 Hown hBS' hs6 ht6 ho7
               have c0 := xb.cell
               have l0 := xb.lt
               simp only [Act.put, List.setIfInBounds_toArray, List.set_cons_zero, List.set_cons_succ]
               refine wpAny_ready (rs := [7]) (by kernel_rfl) (by simp) ?_
               refine AllReady.cons rfl (fun K hK => ?_) AllReady.nil
               go_simp
               refine (Hfin.out wc hBS o6 c6 HS6.out.1 HS6.out.2).mono ?_
               rintro e wd ⟨vF, rfl, hLF, hbb⟩
               refine hK _ _ ?_
               clear hK K
               have hLF' := hLF
               obtain ⟨po3, pc3, co3, cc3, ro3, rc3, rfl, _, _, _⟩ := hLF
               have xr := xr.belowAll hbb
               have hB := btr hB hbb
               obtain ⟨Wf, hWf⟩ : ∃ Wf, st8 wd (N + 1) (.int .i64 F.disk.size) (.slice po3 F.disk.pages.length pc3) (.slice co3 F.disk.cache.length cc3) (.int .i64 F.disk.left) (.int .i64 F.frm) (.int .i64 F.til) (.int .i64 F.ver) (.slice ro3 F.recs.length rc3) = Wf := ⟨_, rfl⟩
               have zR : Bx Wf (N + 1) (lgC F.disk po3 co3 pc3 cc3 F.frm F.til F.ver ro3 F.recs.length rc3) 27 := by subst hWf; exact xr.set8
               have zB : Below w.heap.size w Wf := by subst hWf; exact below_set8 hB (by rw [hN]; exact Nat.le_succ N)
               have zL : LgV Wf (.agg (lgC F.disk po3 co3 pc3 cc3 F.frm F.til F.ver ro3 F.recs.length rc3)) F := by subst hWf; exact hLF'.only xr (noS_lg _ _ _ _ _ _ _ _ _ _ _ _ _ _) Only.eight
               clear c0 l0
               have cX := xr.cell
               have lX := xr.lt
               have fX := xr.free
               have ZB := Lib.hid zB
               have ZL := Lib.hid zL
               have HWf := Lib.hid hWf
               clear zB zL hWf hLF' hbb xb xr hB HS6 hBS
               simp only [List.setIfInBounds_toArray, List.set_cons_zero, List.set_cons_succ]
               refine wpAny_take (i := 8) (v := ?_) rfl (by kernel_rfl) (by kernel_rfl) (by kernel_rfl) (fun _ _ _ h => h) (Or.inl ⟨by rfl, ?_⟩) ?_
               rotate_left
               ·
                intro w; go_simp; try with_reducible rfl
               simp only [Act.put, List.setIfInBounds_toArray, List.set_cons_zero, List.set_cons_succ]
               refine wpAny_take (i := 9) (v := ?_) rfl (by kernel_rfl) (by kernel_rfl) (by kernel_rfl) (fun _ _ _ h => h) (Or.inl ⟨by rfl, ?_⟩) ?_
               rotate_left
               ·
                intro w; go_simp; try with_reducible rfl
               simp only [Act.put, List.setIfInBounds_toArray, List.set_cons_zero, List.set_cons_succ]
               refine wpAny_ready (rs := [10]) (by kernel_rfl) (by simp) ?_
               refine AllReady.cons rfl (fun K hK => ?_) AllReady.nil
               go_simp
               refine hK _ _ ?_
               clear hK K
               refine wpAny_ready (rs := [11]) (by kernel_rfl) (by simp) ?_
               refine AllReady.cons rfl (fun K hK => ?_) AllReady.nil
               go_simp
               refine hK _ _ ?_
               clear hK K
               refine wpAny_done (by kernel_rfl) ?_ _
               go_wp2
               have HW := HWf.out
               unfold st8 at HW
               rw [HW]
               have cZ := zR.cell
               refine bodyPost_ret (v := .tuple #[.agg (lgC F.disk po3 co3 pc3 cc3 F.frm F.til F.ver ro3 F.recs.length rc3), .int .i64 er2]) (by simp [results, Tryz.results9, go_sem, cZ]) rfl ?_
               rw [HRF.out]
               exact ⟨_, rfl, ZL.out, ZB.out⟩
              ·
               have hzc := hBS.size
               refine wp_app (.tmp 131) (.tmp 132) 22 rfl w11.heap.size 9 io _ 1 16 Tryz.underlying22 Hio.out.1 Hio.out.2.1 Hio.out.2.2.1 Hio.out.2.2.2 rfl (by decide) v4 l.recs.length (l.recs.map .string) rfl Hown.out qo rs.length qc (rs.map .string) rfl Hqs.out.nil (by simp) (Hqt.out.below hB).row (strs_one _) (by unfold maxLen; omega) (by omega) hzc ?_
               intro v6 wd ho7 hg7
               refine hK _ _ ?_
               clear hK K
               rw [← HLm.out, ← HLl.out] at ho7
               have xb := xb.grown hg7 (fun e => ownsRow_ne_bx Hown.out xb (by decide) e.symm)
               have xr := xr.grown hg7 (fun e => ownsRow_ne_bx Hown.out xr (by decide) e.symm)
               have hBS' := hBS.grown hg7 hzc (fun b e => (Hown.out.lt b e).1)
               have hB := hB.grown hg7 hB.size (fun b e => Nat.le_trans HB11.out (Hown.out.lt b e).1)
               obtain ⟨o6, c6, rfl, hs6, ht6, _⟩ := ownsRow_at ho7
               have HS6 : Hid (SlW o6 L.length c6 ∧ StrsAt (· < wd.heap.size) wd o6 L) := Lib.hid ⟨hs6, (StrsAt.of_row ht6).mono fun b hb => hb.2⟩
               obtain ⟨wc, hwd⟩ : ∃ W', wd = W' := ⟨_, rfl⟩
               rw [hwd] at HS6 xb xr hBS' hB ⊢
               have hBS := hBS'
               clear hwd hg7 c0 l0 Hown hBS' hs6 ht6 ho7
               have c0 := xb.cell
               have l0 := xb.lt
               simp only [Act.put, List.setIfInBounds_toArray, List.set_cons_zero, List.set_cons_succ]
               refine wpAny_ready (rs := [0]) (by kernel_rfl) (by simp) ?_
               refine AllReady.cons rfl (fun K hK => ?_) AllReady.nil
               go_simp
               refine hK _ _ ?_
               clear hK K
               simp only [List.setIfInBounds_toArray, List.set_cons_zero]
               refine wpAny_ready (rs := [7]) (by kernel_rfl) (by simp) ?_
               refine AllReady.cons rfl (fun K hK => ?_) AllReady.nil
               go_simp
               refine (Hfin.out wc hBS o6 c6 HS6.out.1 HS6.out.2).mono ?_
               rintro e wd ⟨vF, rfl, hLF, hbb⟩
               refine hK _ _ ?_
               clear hK K
               have hLF' := hLF
               obtain ⟨po3, pc3, co3, cc3, ro3, rc3, rfl, _, _, _⟩ := hLF
               have xr := xr.belowAll hbb
               have hB := btr hB hbb
               obtain ⟨Wf, hWf⟩ : ∃ Wf, st8 wd (N + 1) (.int .i64 F.disk.size) (.slice po3 F.disk.pages.length pc3) (.slice co3 F.disk.cache.length cc3) (.int .i64 F.disk.left) (.int .i64 F.frm) (.int .i64 F.til) (.int .i64 F.ver) (.slice ro3 F.recs.length rc3) = Wf := ⟨_, rfl⟩
               have zR : Bx Wf (N + 1) (lgC F.disk po3 co3 pc3 cc3 F.frm F.til F.ver ro3 F.recs.length rc3) 27 := by subst hWf; exact xr.set8
               have zB : Below w.heap.size w Wf := by subst hWf; exact below_set8 hB (by rw [hN]; exact Nat.le_succ N)
               have zL : LgV Wf (.agg (lgC F.disk po3 co3 pc3 cc3 F.frm F.til F.ver ro3 F.recs.length rc3)) F := by subst hWf; exact hLF'.only xr (noS_lg _ _ _ _ _ _ _ _ _ _ _ _ _ _) Only.eight
               clear c0 l0
               have cX := xr.cell
               have lX := xr.lt
               have fX := xr.free
               have ZB := Lib.hid zB
               have ZL := Lib.hid zL
               have HWf := Lib.hid hWf
               clear zB zL hWf hLF' hbb xb xr hB HS6 hBS
               simp only [List.setIfInBounds_toArray, List.set_cons_zero, List.set_cons_succ]
               refine wpAny_take (i := 8) (v := ?_) rfl (by kernel_rfl) (by kernel_rfl) (by kernel_rfl) (fun _ _ _ h => h) (Or.inl ⟨by rfl, ?_⟩) ?_
               rotate_left
               ·
                intro w; go_simp; try with_reducible rfl
               simp only [Act.put, List.setIfInBounds_toArray, List.set_cons_zero, List.set_cons_succ]
               refine wpAny_take (i := 9) (v := ?_) rfl (by kernel_rfl) (by kernel_rfl) (by kernel_rfl) (fun _ _ _ h => h) (Or.inl ⟨by rfl, ?_⟩) ?_
               rotate_left
               ·
                intro w; go_simp; try with_reducible rfl
               simp only [Act.put, List.setIfInBounds_toArray, List.set_cons_zero, List.set_cons_succ]
               refine wpAny_ready (rs := [10]) (by kernel_rfl) (by simp) ?_
               refine AllReady.cons rfl (fun K hK => ?_) AllReady.nil
               go_simp
               refine hK _ _ ?_
               clear hK K
               refine wpAny_ready (rs := [11]) (by kernel_rfl) (by simp) ?_
               refine AllReady.cons rfl (fun K hK => ?_) AllReady.nil
               go_simp
               refine hK _ _ ?_
               clear hK K
               refine wpAny_done (by kernel_rfl) ?_ _
               go_wp2
               have HW := HWf.out
               unfold st8 at HW
               rw [HW]
               have cZ := zR.cell
               refine bodyPost_ret (v := .tuple #[.agg (lgC F.disk po3 co3 pc3 cc3 F.frm F.til F.ver ro3 F.recs.length rc3), .int .i64 er2]) (by simp [results, Tryz.results9, go_sem, cZ]) rfl ?_
               rw [HRF.out]
               exact ⟨_, rfl, ZL.out, ZB.out⟩
           ·
            go_simp
            refine hK _ _ ?_
            clear hK K
            simp only [List.setIfInBounds_toArray, List.set_cons_zero, List.set_cons_succ]
            refine wpAny_ready (rs := [0, 1]) (by kernel_rfl) (by simp) ?_
            refine AllReady.cons rfl (fun K hK => ?_) (AllReady.cons rfl (fun K hK => ?_) AllReady.nil)
            ·
             go_simp
             refine hK _ _ ?_
             clear hK K
             simp only [List.setIfInBounds_toArray, List.set_cons_zero]
             refine wpAny_ready (rs := [1]) (by kernel_rfl) (by simp) ?_
             refine AllReady.cons rfl (fun K hK => ?_) AllReady.nil
             go_simp
             refine hK _ _ ?_
             clear hK K
             have ho1 := ownsRow_empty wc w11.heap.size wc.heap.size 9 1 rfl hBS.size
             have hbb := Below.one wc (.cells #[] 9)
             obtain ⟨g, hg⟩ : ∃ g, wc.heap.size = g := ⟨_, rfl⟩
             rw [hg] at ho1
             obtain ⟨wc, hwd⟩ : ∃ W', wc.alloc (.cells #[] 9) = W' := ⟨_, rfl⟩
             rw [hwd] at ho1 hbb
             rw [hwd, hg]
             clear hwd
             have hB := btr hB hbb
             have hBS := btr hBS hbb
             have xb := xb.belowAll hbb
             have xr := xr.belowAll hbb
             clear c0 l0 hbb hg
             have Hown := Lib.hid ho1
             clear ho1
             have c0 := xb.cell
             have l0 := xb.lt
             simp only [List.setIfInBounds_toArray, List.set_cons_zero, List.set_cons_succ]
             refine wpAny_ready (rs := [4]) (by kernel_rfl) (by simp) ?_
             refine AllReady.cons rfl (fun K hK => ?_) AllReady.nil
             have hzc := hBS.size
             refine wp_app (.tmp 128) (.tmp 130) 22 rfl w11.heap.size 9 io _ 1 16 Tryz.underlying22 Hio.out.1 Hio.out.2.1 Hio.out.2.2.1 Hio.out.2.2.2 rfl (by decide) _ 0 [] rfl Hown.out ro l.recs.length rc (l.recs.map .string) rfl Hsl.out.nil (by simp) (Hst.out.below hB).row (strs_one _) (by unfold maxLen; omega) (by omega) hzc ?_
             intro v4 wd ho7 hg7
             refine hK _ _ ?_
             clear hK K
             rw [Nat.zero_add, List.nil_append] at ho7
             have xb := xb.grown hg7 (fun e => ownsRow_ne_bx Hown.out xb (by decide) e.symm)
             have xr := xr.grown hg7 (fun e => ownsRow_ne_bx Hown.out xr (by decide) e.symm)
             have hBS' := hBS.grown hg7 hzc (fun b e => (Hown.out.lt b e).1)
             have hB := hB.grown hg7 hB.size (fun b e => Nat.le_trans HB11.out (Hown.out.lt b e).1)
             obtain ⟨wc, hwd⟩ : ∃ W', wd = W' := ⟨_, rfl⟩
             rw [hwd] at ho7 xb xr hBS' hB ⊢
             have hBS := hBS'
             clear hwd hg7 c0 l0 Hown hBS'
             have Hown := Lib.hid ho7
             clear ho7
             have c0 := xb.cell
             have l0 := xb.lt
             simp only [Act.put, List.setIfInBounds_toArray, List.set_cons_zero, List.set_cons_succ]
             refine wpAny_ready (rs := [6]) (by kernel_rfl) (by simp) ?_
             refine AllReady.cons rfl (fun K hK => ?_) AllReady.nil
             have hzc := hBS.size
             refine wp_app (.tmp 131) (.tmp 132) 22 rfl w11.heap.size 9 io _ 1 16 Tryz.underlying22 Hio.out.1 Hio.out.2.1 Hio.out.2.2.1 Hio.out.2.2.2 rfl (by decide) v4 l.recs.length (l.recs.map .string) rfl Hown.out qo rs.length qc (rs.map .string) rfl Hqs.out.nil (by simp) (Hqt.out.below hB).row (strs_one _) (by unfold maxLen; omega) (by omega) hzc ?_
             intro v6 wd ho7 hg7
             refine hK _ _ ?_
             clear hK K
             rw [← HLm.out, ← HLl.out] at ho7
             have xb := xb.grown hg7 (fun e => ownsRow_ne_bx Hown.out xb (by decide) e.symm)
             have xr := xr.grown hg7 (fun e => ownsRow_ne_bx Hown.out xr (by decide) e.symm)
             have hBS' := hBS.grown hg7 hzc (fun b e => (Hown.out.lt b e).1)
             have hB := hB.grown hg7 hB.size (fun b e => Nat.le_trans HB11.out (Hown.out.lt b e).1)
             obtain ⟨o6, c6, rfl, hs6, ht6, _⟩ := ownsRow_at ho7
             have HS6 : Hid (SlW o6 L.length c6 ∧ StrsAt (· < wd.heap.size) wd o6 L) := Lib.hid ⟨hs6, (StrsAt.of_row ht6).mono fun b hb => hb.2⟩
             obtain ⟨wc, hwd⟩ : ∃ W', wd = W' := ⟨_, rfl⟩
             rw [hwd] at HS6 xb xr hBS' hB ⊢
             have hBS := hBS'
             clear hwd hg7 c0 l0 Hown hBS' hs6 ht6 ho7
             have c0 := xb.cell
             have l0 := xb.lt
             simp only [Act.put, List.setIfInBounds_toArray, List.set_cons_zero, List.set_cons_succ]
             refine wpAny_ready (rs := [7]) (by kernel_rfl) (by simp) ?_
             refine AllReady.cons rfl (fun K hK => ?_) AllReady.nil
             go_simp
             refine (Hfin.out wc hBS o6 c6 HS6.out.1 HS6.out.2).mono ?_
             rintro e wd ⟨vF, rfl, hLF, hbb⟩
             refine hK _ _ ?_
             clear hK K
             have hLF' := hLF
             obtain ⟨po3, pc3, co3, cc3, ro3, rc3, rfl, _, _, _⟩ := hLF
             have xr := xr.belowAll hbb
             have hB := btr hB hbb
             obtain ⟨Wf, hWf⟩ : ∃ Wf, st8 wd (N + 1) (.int .i64 F.disk.size) (.slice po3 F.disk.pages.length pc3) (.slice co3 F.disk.cache.length cc3) (.int .i64 F.disk.left) (.int .i64 F.frm) (.int .i64 F.til) (.int .i64 F.ver) (.slice ro3 F.recs.length rc3) = Wf := ⟨_, rfl⟩
             have zR : Bx Wf (N + 1) (lgC F.disk po3 co3 pc3 cc3 F.frm F.til F.ver ro3 F.recs.length rc3) 27 := by subst hWf; exact xr.set8
             have zB : Below w.heap.size w Wf := by subst hWf; exact below_set8 hB (by rw [hN]; exact Nat.le_succ N)
             have zL : LgV Wf (.agg (lgC F.disk po3 co3 pc3 cc3 F.frm F.til F.ver ro3 F.recs.length rc3)) F := by subst hWf; exact hLF'.only xr (noS_lg _ _ _ _ _ _ _ _ _ _ _ _ _ _) Only.eight
             clear c0 l0
             have cX := xr.cell
             have lX := xr.lt
             have fX := xr.free
             have ZB := Lib.hid zB
             have ZL := Lib.hid zL
             have HWf := Lib.hid hWf
             clear zB zL hWf hLF' hbb xb xr hB HS6 hBS
             simp only [List.setIfInBounds_toArray, List.set_cons_zero, List.set_cons_succ]
             refine wpAny_take (i := 8) (v := ?_) rfl (by kernel_rfl) (by kernel_rfl) (by kernel_rfl) (fun _ _ _ h => h) (Or.inl ⟨by rfl, ?_⟩) ?_
             rotate_left
             ·
              intro w; go_simp; try with_reducible rfl
             simp only [Act.put, List.setIfInBounds_toArray, List.set_cons_zero, List.set_cons_succ]
             refine wpAny_take (i := 9) (v := ?_) rfl (by kernel_rfl) (by kernel_rfl) (by kernel_rfl) (fun _ _ _ h => h) (Or.inl ⟨by rfl, ?_⟩) ?_
             rotate_left
             ·
              intro w; go_simp; try with_reducible rfl
             simp only [Act.put, List.setIfInBounds_toArray, List.set_cons_zero, List.set_cons_succ]
             refine wpAny_ready (rs := [10]) (by kernel_rfl) (by simp) ?_
             refine AllReady.cons rfl (fun K hK => ?_) AllReady.nil
             go_simp
             refine hK _ _ ?_
             clear hK K
             refine wpAny_ready (rs := [11]) (by kernel_rfl) (by simp) ?_
             refine AllReady.cons rfl (fun K hK => ?_) AllReady.nil
             go_simp
             refine hK _ _ ?_
             clear hK K
             refine wpAny_done (by kernel_rfl) ?_ _
             go_wp2
             have HW := HWf.out
             unfold st8 at HW
             rw [HW]
             have cZ := zR.cell
             refine bodyPost_ret (v := .tuple #[.agg (lgC F.disk po3 co3 pc3 cc3 F.frm F.til F.ver ro3 F.recs.length rc3), .int .i64 er2]) (by simp [results, Tryz.results9, go_sem, cZ]) rfl ?_
             rw [HRF.out]
             exact ⟨_, rfl, ZL.out, ZB.out⟩
            ·
             go_simp
             refine hK _ _ ?_
             clear hK K
             have ho1 := ownsRow_empty wc w11.heap.size wc.heap.size 9 1 rfl hBS.size
             have hbb := Below.one wc (.cells #[] 9)
             obtain ⟨g, hg⟩ : ∃ g, wc.heap.size = g := ⟨_, rfl⟩
             rw [hg] at ho1
             obtain ⟨wc, hwd⟩ : ∃ W', wc.alloc (.cells #[] 9) = W' := ⟨_, rfl⟩
             rw [hwd] at ho1 hbb
             rw [hwd, hg]
             clear hwd
             have hB := btr hB hbb
             have hBS := btr hBS hbb
             have xb := xb.belowAll hbb
             have xr := xr.belowAll hbb
             clear c0 l0 hbb hg
             have Hown := Lib.hid ho1
             clear ho1
             have c0 := xb.cell
             have l0 := xb.lt
             simp only [List.setIfInBounds_toArray, List.set_cons_zero, List.set_cons_succ]
             refine wpAny_ready (rs := [0, 4]) (by kernel_rfl) (by simp) ?_
             refine AllReady.cons rfl (fun K hK => ?_) (AllReady.cons rfl (fun K hK => ?_) AllReady.nil)
             ·
              go_simp
              refine hK _ _ ?_
              clear hK K
              simp only [List.setIfInBounds_toArray, List.set_cons_zero]
              refine wpAny_ready (rs := [4]) (by kernel_rfl) (by simp) ?_
              refine AllReady.cons rfl (fun K hK => ?_) AllReady.nil
              have hzc := hBS.size
              refine wp_app (.tmp 128) (.tmp 130) 22 rfl w11.heap.size 9 io _ 1 16 Tryz.underlying22 Hio.out.1 Hio.out.2.1 Hio.out.2.2.1 Hio.out.2.2.2 rfl (by decide) _ 0 [] rfl Hown.out ro l.recs.length rc (l.recs.map .string) rfl Hsl.out.nil (by simp) (Hst.out.below hB).row (strs_one _) (by unfold maxLen; omega) (by omega) hzc ?_
              intro v4 wd ho7 hg7
              refine hK _ _ ?_
              clear hK K
              rw [Nat.zero_add, List.nil_append] at ho7
              have xb := xb.grown hg7 (fun e => ownsRow_ne_bx Hown.out xb (by decide) e.symm)
              have xr := xr.grown hg7 (fun e => ownsRow_ne_bx Hown.out xr (by decide) e.symm)
              have hBS' := hBS.grown hg7 hzc (fun b e => (Hown.out.lt b e).1)
              have hB := hB.grown hg7 hB.size (fun b e => Nat.le_trans HB11.out (Hown.out.lt b e).1)
              obtain ⟨wc, hwd⟩ : ∃ W', wd = W' := ⟨_, rfl⟩
              rw [hwd] at ho7 xb xr hBS' hB ⊢
              have hBS := hBS'
              clear hwd hg7 c0 l0 Hown hBS'
              have Hown := Lib.hid ho7
              clear ho7
              have c0 := xb.cell
              have l0 := xb.lt
              simp only [Act.put, List.setIfInBounds_toArray, List.set_cons_zero, List.set_cons_succ]
              refine wpAny_ready (rs := [6]) (by kernel_rfl) (by simp) ?_
              refine AllReady.cons rfl (fun K hK => ?_) AllReady.nil
              have hzc := hBS.size
              refine wp_app (.tmp 131) (.tmp 132) 22 rfl w11.heap.size 9 io _ 1 16 Tryz.underlying22 Hio.out.1 Hio.out.2.1 Hio.out.2.2.1 Hio.out.2.2.2 rfl (by decide) v4 l.recs.length (l.recs.map .string) rfl Hown.out qo rs.length qc (rs.map .string) rfl Hqs.out.nil (by simp) (Hqt.out.below hB).row (strs_one _) (by unfold maxLen; omega) (by omega) hzc ?_
              intro v6 wd ho7 hg7
              refine hK _ _ ?_
              clear hK K
              rw [← HLm.out, ← HLl.out] at ho7
              have xb := xb.grown hg7 (fun e => ownsRow_ne_bx Hown.out xb (by decide) e.symm)
              have xr := xr.grown hg7 (fun e => ownsRow_ne_bx Hown.out xr (by decide) e.symm)
              have hBS' := hBS.grown hg7 hzc (fun b e => (Hown.out.lt b e).1)
              have hB := hB.grown hg7 hB.size (fun b e => Nat.le_trans HB11.out (Hown.out.lt b e).1)
              obtain ⟨o6, c6, rfl, hs6, ht6, _⟩ := ownsRow_at ho7
              have HS6 : Hid (SlW o6 L.length c6 ∧ StrsAt (· < wd.heap.size) wd o6 L) := Lib.hid ⟨hs6, (StrsAt.of_row ht6).mono fun b hb => hb.2⟩
              obtain ⟨wc, hwd⟩ : ∃ W', wd = W' := ⟨_, rfl⟩
              rw [hwd] at HS6 xb xr hBS' hB ⊢
              have hBS := hBS'
              clear hwd hg7 c0 l0 Hown hBS' hs6 ht6 ho7
              have c0 := xb.cell
              have l0 := xb.lt
              simp only [Act.put, List.setIfInBounds_toArray, List.set_cons_zero, List.set_cons_succ]
              refine wpAny_ready (rs := [7]) (by kernel_rfl) (by simp) ?_
              refine AllReady.cons rfl (fun K hK => ?_) AllReady.nil
              go_simp
              refine (Hfin.out wc hBS o6 c6 HS6.out.1 HS6.out.2).mono ?_
              rintro e wd ⟨vF, rfl, hLF, hbb⟩
              refine hK _ _ ?_
              clear hK K
              have hLF' := hLF
              obtain ⟨po3, pc3, co3, cc3, ro3, rc3, rfl, _, _, _⟩ := hLF
              have xr := xr.belowAll hbb
              have hB := btr hB hbb
              obtain ⟨Wf, hWf⟩ : ∃ Wf, st8 wd (N + 1) (.int .i64 F.disk.size) (.slice po3 F.disk.pages.length pc3) (.slice co3 F.disk.cache.length cc3) (.int .i64 F.disk.left) (.int .i64 F.frm) (.int .i64 F.til) (.int .i64 F.ver) (.slice ro3 F.recs.length rc3) = Wf := ⟨_, rfl⟩
              have zR : Bx Wf (N + 1) (lgC F.disk po3 co3 pc3 cc3 F.frm F.til F.ver ro3 F.recs.length rc3) 27 := by subst hWf; exact xr.set8
              have zB : Below w.heap.size w Wf := by subst hWf; exact below_set8 hB (by rw [hN]; exact Nat.le_succ N)
              have zL : LgV Wf (.agg (lgC F.disk po3 co3 pc3 cc3 F.frm F.til F.ver ro3 F.recs.length rc3)) F := by subst hWf; exact hLF'.only xr (noS_lg _ _ _ _ _ _ _ _ _ _ _ _ _ _) Only.eight
              clear c0 l0
              have cX := xr.cell
              have lX := xr.lt
              have fX := xr.free
              have ZB := Lib.hid zB
              have ZL := Lib.hid zL
              have HWf := Lib.hid hWf
              clear zB zL hWf hLF' hbb xb xr hB HS6 hBS
              simp only [List.setIfInBounds_toArray, List.set_cons_zero, List.set_cons_succ]
              refine wpAny_take (i := 8) (v := ?_) rfl (by kernel_rfl) (by kernel_rfl) (by kernel_rfl) (fun _ _ _ h => h) (Or.inl ⟨by rfl, ?_⟩) ?_
              rotate_left
              ·
               intro w; go_simp; try with_reducible rfl
              simp only [Act.put, List.setIfInBounds_toArray, List.set_cons_zero, List.set_cons_succ]
              refine wpAny_take (i := 9) (v := ?_) rfl (by kernel_rfl) (by kernel_rfl) (by kernel_rfl) (fun _ _ _ h => h) (Or.inl ⟨by rfl, ?_⟩) ?_
              rotate_left
              ·
               intro w; go_simp; try with_reducible rfl
              simp only [Act.put, List.setIfInBounds_toArray, List.set_cons_zero, List.set_cons_succ]
              refine wpAny_ready (rs := [10]) (by kernel_rfl) (by simp) ?_
              refine AllReady.cons rfl (fun K hK => ?_) AllReady.nil
              go_simp
              refine hK _ _ ?_
              clear hK K
              refine wpAny_ready (rs := [11]) (by kernel_rfl) (by simp) ?_
              refine AllReady.cons rfl (fun K hK => ?_) AllReady.nil
              go_simp
              refine hK _ _ ?_
              clear hK K
              refine wpAny_done (by kernel_rfl) ?_ _
              go_wp2
              have HW := HWf.out
              unfold st8 at HW
              rw [HW]
              have cZ := zR.cell
              refine bodyPost_ret (v := .tuple #[.agg (lgC F.disk po3 co3 pc3 cc3 F.frm F.til F.ver ro3 F.recs.length rc3), .int .i64 er2]) (by simp [results, Tryz.results9, go_sem, cZ]) rfl ?_
              rw [HRF.out]
              exact ⟨_, rfl, ZL.out, ZB.out⟩
             ·
              have hzc := hBS.size
              refine wp_app (.tmp 128) (.tmp 130) 22 rfl w11.heap.size 9 io _ 1 16 Tryz.underlying22 Hio.out.1 Hio.out.2.1 Hio.out.2.2.1 Hio.out.2.2.2 rfl (by decide) _ 0 [] rfl Hown.out ro l.recs.length rc (l.recs.map .string) rfl Hsl.out.nil (by simp) (Hst.out.below hB).row (strs_one _) (by unfold maxLen; omega) (by omega) hzc ?_
              intro v4 wd ho7 hg7
              refine hK _ _ ?_
              clear hK K
              rw [Nat.zero_add, List.nil_append] at ho7
              have xb := xb.grown hg7 (fun e => ownsRow_ne_bx Hown.out xb (by decide) e.symm)
              have xr := xr.grown hg7 (fun e => ownsRow_ne_bx Hown.out xr (by decide) e.symm)
              have hBS' := hBS.grown hg7 hzc (fun b e => (Hown.out.lt b e).1)
              have hB := hB.grown hg7 hB.size (fun b e => Nat.le_trans HB11.out (Hown.out.lt b e).1)
              obtain ⟨wc, hwd⟩ : ∃ W', wd = W' := ⟨_, rfl⟩
              rw [hwd] at ho7 xb xr hBS' hB ⊢
              have hBS := hBS'
              clear hwd hg7 c0 l0 Hown hBS'
              have Hown := Lib.hid ho7
              clear ho7
              have c0 := xb.cell
              have l0 := xb.lt
              simp only [Act.put, List.setIfInBounds_toArray, List.set_cons_zero, List.set_cons_succ]
              refine wpAny_ready (rs := [0, 6]) (by kernel_rfl) (by simp) ?_
              refine AllReady.cons rfl (fun K hK => ?_) (AllReady.cons rfl (fun K hK => ?_) AllReady.nil)
              ·
               go_simp
               refine hK _ _ ?_
               clear hK K
               simp only [List.setIfInBounds_toArray, List.set_cons_zero]
               refine wpAny_ready (rs := [6]) (by kernel_rfl) (by simp) ?_
               refine AllReady.cons rfl (fun K hK => ?_) AllReady.nil
               have hzc := hBS.size
               refine wp_app (.tmp 131) (.tmp 132) 22 rfl w11.heap.size 9 io _ 1 16 Tryz.underlying22 Hio.out.1 Hio.out.2.1 Hio.out.2.2.1 Hio.out.2.2.2 rfl (by decide) v4 l.recs.length (l.recs.map .string) rfl Hown.out qo rs.length qc (rs.map .string) rfl Hqs.out.nil (by simp) (Hqt.out.below hB).row (strs_one _) (by unfold maxLen; omega) (by omega) hzc ?_
               intro v6 wd ho7 hg7
               refine hK _ _ ?_
               clear hK K
               rw [← HLm.out, ← HLl.out] at ho7
               have xb := xb.grown hg7 (fun e => ownsRow_ne_bx Hown.out xb (by decide) e.symm)
               have xr := xr.grown hg7 (fun e => ownsRow_ne_bx Hown.out xr (by decide) e.symm)
               have hBS' := hBS.grown hg7 hzc (fun b e => (Hown.out.lt b e).1)
               have hB := hB.grown hg7 hB.size (fun b e => Nat.le_trans HB11.out (Hown.out.lt b e).1)
               obtain ⟨o6, c6, rfl, hs6, ht6, _⟩ := ownsRow_at ho7
               have HS6 : Hid (SlW o6 L.length c6 ∧ StrsAt (· < wd.heap.size) wd o6 L) := Lib.hid ⟨hs6, (StrsAt.of_row ht6).mono fun b hb => hb.2⟩
               obtain ⟨wc, hwd⟩ : ∃ W', wd = W' := ⟨_, rfl⟩
               rw [hwd] at HS6 xb xr hBS' hB ⊢
               have hBS := hBS'
               clear hwd hg7 c0 l0 Hown hBS' hs6 ht6 ho7
               have c0 := xb.cell
               have l0 := xb.lt
               simp only [Act.put, List.setIfInBounds_toArray, List.set_cons_zero, List.set_cons_succ]
               refine wpAny_ready (rs := [7]) (by kernel_rfl) (by simp) ?_
               refine AllReady.cons rfl (fun K hK => ?_) AllReady.nil
               go_simp
               refine (Hfin.out wc hBS o6 c6 HS6.out.1 HS6.out.2).mono ?_
               rintro e wd ⟨vF, rfl, hLF, hbb⟩
               refine hK _ _ ?_
               clear hK K
               have hLF' := hLF
               obtain ⟨po3, pc3, co3, cc3, ro3, rc3, rfl, _, _, _⟩ := hLF
               have xr := xr.belowAll hbb
               have hB := btr hB hbb
               obtain ⟨Wf, hWf⟩ : ∃ Wf, st8 wd (N + 1) (.int .i64 F.disk.size) (.slice po3 F.disk.pages.length pc3) (.slice co3 F.disk.cache.length cc3) (.int .i64 F.disk.left) (.int .i64 F.frm) (.int .i64 F.til) (.int .i64 F.ver) (.slice ro3 F.recs.length rc3) = Wf := ⟨_, rfl⟩
               have zR : Bx Wf (N + 1) (lgC F.disk po3 co3 pc3 cc3 F.frm F.til F.ver ro3 F.recs.length rc3) 27 := by subst hWf; exact xr.set8
               have zB : Below w.heap.size w Wf := by subst hWf; exact below_set8 hB (by rw [hN]; exact Nat.le_succ N)
               have zL : LgV Wf (.agg (lgC F.disk po3 co3 pc3 cc3 F.frm F.til F.ver ro3 F.recs.length rc3)) F := by subst hWf; exact hLF'.only xr (noS_lg _ _ _ _ _ _ _ _ _ _ _ _ _ _) Only.eight
               clear c0 l0
               have cX := xr.cell
               have lX := xr.lt
               have fX := xr.free
               have ZB := Lib.hid zB
               have ZL := Lib.hid zL
               have HWf := Lib.hid hWf
               clear zB zL hWf hLF' hbb xb xr hB HS6 hBS
               simp only [List.setIfInBounds_toArray, List.set_cons_zero, List.set_cons_succ]
               refine wpAny_take (i := 8) (v := ?_) rfl (by kernel_rfl) (by kernel_rfl) (by kernel_rfl) (fun _ _ _ h => h) (Or.inl ⟨by rfl, ?_⟩) ?_
               rotate_left
               ·
                intro w; go_simp; try with_reducible rfl
               simp only [Act.put, List.setIfInBounds_toArray, List.set_cons_zero, List.set_cons_succ]
               refine wpAny_take (i := 9) (v := ?_) rfl (by kernel_rfl) (by kernel_rfl) (by kernel_rfl) (fun _ _ _ h => h) (Or.inl ⟨by rfl, ?_⟩) ?_
               rotate_left
               ·
                intro w; go_simp; try with_reducible rfl
               simp only [Act.put, List.setIfInBounds_toArray, List.set_cons_zero, List.set_cons_succ]
               refine wpAny_ready (rs := [10]) (by kernel_rfl) (by simp) ?_
               refine AllReady.cons rfl (fun K hK => ?_) AllReady.nil
               go_simp
               refine hK _ _ ?_
               clear hK K
               refine wpAny_ready (rs := [11]) (by kernel_rfl) (by simp) ?_
               refine AllReady.cons rfl (fun K hK => ?_) AllReady.nil
               go_simp
               refine hK _ _ ?_
               clear hK K
               refine wpAny_done (by kernel_rfl) ?_ _
               go_wp2
               have HW := HWf.out
               unfold st8 at HW
               rw [HW]
               have cZ := zR.cell
               refine bodyPost_ret (v := .tuple #[.agg (lgC F.disk po3 co3 pc3 cc3 F.frm F.til F.ver ro3 F.recs.length rc3), .int .i64 er2]) (by simp [results, Tryz.results9, go_sem, cZ]) rfl ?_
               rw [HRF.out]
               exact ⟨_, rfl, ZL.out, ZB.out⟩
              ·
               have hzc := hBS.size
               refine wp_app (.tmp 131) (.tmp 132) 22 rfl w11.heap.size 9 io _ 1 16 Tryz.underlying22 Hio.out.1 Hio.out.2.1 Hio.out.2.2.1 Hio.out.2.2.2 rfl (by decide) v4 l.recs.length (l.recs.map .string) rfl Hown.out qo rs.length qc (rs.map .string) rfl Hqs.out.nil (by simp) (Hqt.out.below hB).row (strs_one _) (by unfold maxLen; omega) (by omega) hzc ?_
               intro v6 wd ho7 hg7
               refine hK _ _ ?_
               clear hK K
               rw [← HLm.out, ← HLl.out] at ho7
               have xb := xb.grown hg7 (fun e => ownsRow_ne_bx Hown.out xb (by decide) e.symm)
               have xr := xr.grown hg7 (fun e => ownsRow_ne_bx Hown.out xr (by decide) e.symm)
               have hBS' := hBS.grown hg7 hzc (fun b e => (Hown.out.lt b e).1)
               have hB := hB.grown hg7 hB.size (fun b e => Nat.le_trans HB11.out (Hown.out.lt b e).1)
               obtain ⟨o6, c6, rfl, hs6, ht6, _⟩ := ownsRow_at ho7
               have HS6 : Hid (SlW o6 L.length c6 ∧ StrsAt (· < wd.heap.size) wd o6 L) := Lib.hid ⟨hs6, (StrsAt.of_row ht6).mono fun b hb => hb.2⟩
               obtain ⟨wc, hwd⟩ : ∃ W', wd = W' := ⟨_, rfl⟩
               rw [hwd] at HS6 xb xr hBS' hB ⊢
               have hBS := hBS'
               clear hwd hg7 c0 l0 Hown hBS' hs6 ht6 ho7
               have c0 := xb.cell
               have l0 := xb.lt
               simp only [Act.put, List.setIfInBounds_toArray, List.set_cons_zero, List.set_cons_succ]
               refine wpAny_ready (rs := [0]) (by kernel_rfl) (by simp) ?_
               refine AllReady.cons rfl (fun K hK => ?_) AllReady.nil
               go_simp
               refine hK _ _ ?_
               clear hK K
               simp only [List.setIfInBounds_toArray, List.set_cons_zero]
               refine wpAny_ready (rs := [7]) (by kernel_rfl) (by simp) ?_
               refine AllReady.cons rfl (fun K hK => ?_) AllReady.nil
               go_simp
               refine (Hfin.out wc hBS o6 c6 HS6.out.1 HS6.out.2).mono ?_
               rintro e wd ⟨vF, rfl, hLF, hbb⟩
               refine hK _ _ ?_
               clear hK K
               have hLF' := hLF
               obtain ⟨po3, pc3, co3, cc3, ro3, rc3, rfl, _, _, _⟩ := hLF
               have xr := xr.belowAll hbb
               have hB := btr hB hbb
               obtain ⟨Wf, hWf⟩ : ∃ Wf, st8 wd (N + 1) (.int .i64 F.disk.size) (.slice po3 F.disk.pages.length pc3) (.slice co3 F.disk.cache.length cc3) (.int .i64 F.disk.left) (.int .i64 F.frm) (.int .i64 F.til) (.int .i64 F.ver) (.slice ro3 F.recs.length rc3) = Wf := ⟨_, rfl⟩
               have zR : Bx Wf (N + 1) (lgC F.disk po3 co3 pc3 cc3 F.frm F.til F.ver ro3 F.recs.length rc3) 27 := by subst hWf; exact xr.set8
               have zB : Below w.heap.size w Wf := by subst hWf; exact below_set8 hB (by rw [hN]; exact Nat.le_succ N)
               have zL : LgV Wf (.agg (lgC F.disk po3 co3 pc3 cc3 F.frm F.til F.ver ro3 F.recs.length rc3)) F := by subst hWf; exact hLF'.only xr (noS_lg _ _ _ _ _ _ _ _ _ _ _ _ _ _) Only.eight
               clear c0 l0
               have cX := xr.cell
               have lX := xr.lt
               have fX := xr.free
               have ZB := Lib.hid zB
               have ZL := Lib.hid zL
               have HWf := Lib.hid hWf
               clear zB zL hWf hLF' hbb xb xr hB HS6 hBS
               simp only [List.setIfInBounds_toArray, List.set_cons_zero, List.set_cons_succ]
               refine wpAny_take (i := 8) (v := ?_) rfl (by kernel_rfl) (by kernel_rfl) (by kernel_rfl) (fun _ _ _ h => h) (Or.inl ⟨by rfl, ?_⟩) ?_
               rotate_left
               ·
                intro w; go_simp; try with_reducible rfl
               simp only [Act.put, List.setIfInBounds_toArray, List.set_cons_zero, List.set_cons_succ]
               refine wpAny_take (i := 9) (v := ?_) rfl (by kernel_rfl) (by kernel_rfl) (by kernel_rfl) (fun _ _ _ h => h) (Or.inl ⟨by rfl, ?_⟩) ?_
               rotate_left
               ·
                intro w; go_simp; try with_reducible rfl
               simp only [Act.put, List.setIfInBounds_toArray, List.set_cons_zero, List.set_cons_succ]
               refine wpAny_ready (rs := [10]) (by kernel_rfl) (by simp) ?_
               refine AllReady.cons rfl (fun K hK => ?_) AllReady.nil
               go_simp
               refine hK _ _ ?_
               clear hK K
               refine wpAny_ready (rs := [11]) (by kernel_rfl) (by simp) ?_
               refine AllReady.cons rfl (fun K hK => ?_) AllReady.nil
               go_simp
               refine hK _ _ ?_
               clear hK K
               refine wpAny_done (by kernel_rfl) ?_ _
               go_wp2
               have HW := HWf.out
               unfold st8 at HW
               rw [HW]
               have cZ := zR.cell
               refine bodyPost_ret (v := .tuple #[.agg (lgC F.disk po3 co3 pc3 cc3 F.frm F.til F.ver ro3 F.recs.length rc3), .int .i64 er2]) (by simp [results, Tryz.results9, go_sem, cZ]) rfl ?_
               rw [HRF.out]
               exact ⟨_, rfl, ZL.out, ZB.out⟩
          ·
           have ge : er ≠ 0 := by simpa using g10
           obtain ⟨Wf, hWf⟩ : ∃ Wf, st8 (st4 w10 N (.int .i64 A.size) (.slice po2 A.pages.length pc2) (.slice co2 A.cache.length cc2) (.int .i64 A.left)) (N + 1) (.int .i64 A.size) (.slice po2 A.pages.length pc2) (.slice co2 A.cache.length cc2) (.int .i64 A.left) (.int .i64 l.frm) (.int .i64 l.til) (.int .i64 l.ver) (.slice ro l.recs.length rc) = Wf := ⟨_, rfl⟩
           obtain ⟨zR, zB, zL⟩ := s10.stDisk hN hV10 Hsl.out Hst.out hWf
           have HWf := Lib.hid hWf
           have ZB := Lib.hid zB
           have ZL := Lib.hid zL
           clear hWf zB zL s10 hV10 hMa s9
           go_wp2
           have HW := HWf.out
           rw [← Hw10.out] at HW
           unfold st4 st8 at HW
           rw [HW]
           have cZ := zR.cell
           refine bodyPost_ret (v := .tuple #[.agg (lgC A po2 co2 pc2 cc2 l.frm l.til l.ver ro l.recs.length rc), .int .i64 er]) (by simp [results, Tryz.results9, go_sem, cZ]) rfl ?_
           rw [HRA.out, if_pos ge]
           exact ⟨_, rfl, ZL.out, ZB.out⟩
        ·
         cases g9 : (ek == 0)
         ·
          have he9 : ek ≠ 0 := by simpa using g9
          have g9' : (ek != 0) = true := by simpa using he9
          have hprk : (dk, ek) = pr := by rcases hst with h | h; exact absurd h.1 he9; exact h.2
          have Hprk := Lib.hid hprk
          clear hprk hst hiff hp
          have HRE : Hid (R = ({ l with disk := dk }, ek)) := Lib.hid (by
           rw [HRR.out, Hops.out.1, Hen.out, apL_ref l (l.recs ++ rs) ops1 en (fitE_zero Hfit.out).1 Hops.out.2.2.1 dk ek (by rw [perf_app, Hpr.out, ← Hprk.out, if_pos he9]), if_pos he9])
          obtain ⟨Wf, hWf⟩ : ∃ Wf, st8 (st4 wr N (.int .i64 dk.size) (.slice po' dk.pages.length pc') (.slice co' dk.cache.length cc') (.int .i64 dk.left)) (N + 1) (.int .i64 dk.size) (.slice po' dk.pages.length pc') (.slice co' dk.cache.length cc') (.int .i64 dk.left) (.int .i64 l.frm) (.int .i64 l.til) (.int .i64 l.ver) (.slice ro l.recs.length rc) = Wf := ⟨_, rfl⟩
          obtain ⟨zR, zB, zL⟩ := s8.stDisk hN hVd Hsl.out Hst.out hWf
          have HWf := Lib.hid hWf
          have ZB := Lib.hid zB
          have ZL := Lib.hid zL
          have f0 := s8.box.free
          have c1 := s8.res.cell
          have l1 := s8.res.lt
          have f1 := s8.res.free
          clear hWf zB zL
          go_wp2
          all_goals
           have HW := HWf.out
           unfold st4 st8 at HW
           rw [HW]
           have cZ := zR.cell
           refine bodyPost_ret (v := .tuple #[.agg (lgC dk po' co' pc' cc' l.frm l.til l.ver ro l.recs.length rc), .int .i64 ek]) (by simp [results, Tryz.results9, go_sem, cZ]) rfl ?_
           rw [HRE.out]
           exact ⟨_, rfl, ZL.out, ZB.out⟩
         ·
          have he0 : ek = 0 := by simpa using g9
          subst he0
          have hpe := of_decide_eq_true g8
          have hjc : j < ops1.length := by rw [Hops.out.2.1]; omega
          obtain ⟨hpg, hopj⟩ := Hops.out.2.2.2.2 j hjc
          rw [← HI.out, hp] at hpg hopj
          have hpd : perfP dk (ops1.drop j) = pr := by rcases hst with h | h; exact h.2; exact absurd rfl h.1
          rw [perfP_next hjc, hopj] at hpd
          obtain ⟨A, er, hA⟩ : ∃ A er, writeD dk (l.frm + 2 + (I : Nat)) (T.extract p (p + z)) = (A, er) := ⟨_, _, rfl⟩
          have hAop : opP dk (.wr (l.frm + 2 + (I : Nat)) (T.extract p (p + z))) = (A, er) := hA
          have hAc := opP_cache (d := dk) (o := .wr (l.frm + 2 + (I : Nat)) (T.extract p (p + z)))
          rw [hAop] at hpd hAc
          have hTb : T.size ≤ 1024000 := by rw [HTz.out]; exact hArb
          obtain ⟨X, hX⟩ : ∃ X, T.extract p (p + z) = X := ⟨_, rfl⟩
          have hXs : X.size ≤ 1000 := by rw [← hX]; simp; omega
          rw [hX] at hA
          have hwr := fun W (hb : Below wr.heap.size wr W) => rv_write dk _ (l.frm + 2 + (I : Nat)) X W (hVd.below hb) (by omega) (by omega) hA
          have Hwr := Lib.hid hwr
          have hnext : (er = 0 ∧ perfP A (ops1.drop (j + 1)) = pr) ∨ (er ≠ 0 ∧ (A, er) = pr) := by
           by_cases h : er = 0
           ·
            left; refine ⟨h, ?_⟩; rw [if_neg (by simp [h])] at hpd; exact hpd
           ·
            right; refine ⟨h, ?_⟩; rw [if_pos h] at hpd; exact hpd
          have Hnext := Lib.hid hnext
          have hle1 : p ≤ p + z := by omega
          clear hpd hnext hwr hopj hiff hst hAop hA hp
          have cQ := Lat.cells wr
          have HBr : Hid (∀ x : Lat wr, Below wr.heap.size wr x.w) := Lib.hid (fun x => x.h)
          go_wp2
          refine wp_region_late 20 19 2 #[true, true, true, true, true, true, true, true, true, true, true, true, true, true, true, true, true, true, true, false, false, false] #[true, true, true, true, true, true, true, true, true, true, true, true, true, true, true, true, true, true, true, true, false, false] (fun i => if i = 16 then some (annDE A er) else none) _ (by kernel_rfl) rfl (by rfl) (by rfl) (by kernel_rfl) (by rfl) rfl (fun _ _ _ _ h => h) (extract_pure _ _ rfl) ?_
          simp only [List.take_succ_cons, List.take_zero]
          refine LW.block 16 16 (by rfl) (by kernel_rfl) (by kernel_rfl) ?_
          simp only [List.take_succ_cons, List.take_zero, List.drop_succ_cons, List.drop_zero]
          repeat (first | go_big_quiet_skip | (go_big_quiet_want; go_big_quiet_op; go_big_quiet_on))
          refine wpQuiet_nil ?_
          refine LW.lzy _ (by rfl) (by rfl) ?_ ?_
          ·
           intro yL _
           unfold lzAt
           go_simp
           first | exact lz_de (Hwr.out _ (HBr.out _)) | (rw [hX]; exact lz_de (Hwr.out _ (HBr.out _)))
          intro r16
          simp only [Act.put, List.setIfInBounds_toArray, List.set_cons_zero, List.set_cons_succ, annDE]
          refine LW.block 3 20 (by rfl) (by kernel_rfl) (by kernel_rfl) ?_
          simp only [List.take_succ_cons, List.take_zero, List.drop_succ_cons, List.drop_zero]
          repeat (first | go_big_quiet_skip | (go_big_quiet_want; go_big_quiet_op; go_big_quiet_on))
          refine wpQuiet_nil ?_
          refine LW.done ?_
          intro w9 hG
          have hR16 : DskV w9 (r16.x 0) A := hG.get 16 rfl rfl
          have hG2 := hG.below
          have hM1 := hR16
          obtain ⟨po1, pc1, co1, cc1, e16⟩ := hR16.agg
          rw [e16] at hM1 ⊢
          have y1 := xd.belowAll hG2
          have s9 := s8.next hG2
          clear hG c0 l0 cd ld fd cQ s8 xd HBr Hwr hVd hG2
          obtain ⟨w10, hw10⟩ : ∃ w10, st4 w9 b11 (.int .i64 A.size) (.slice po1 A.pages.length pc1) (.slice co1 A.cache.length cc1) (.int .i64 A.left) = w10 := ⟨_, rfl⟩
          have ho10 : Only b11 w9 w10 := by subst hw10; exact only_st4
          have x10 : Bx w10 b11 (dC A po1 co1 pc1 cc1) 25 := by subst hw10; exact y1.st4
          have s10 : LgS w N l po co ro pc cc rc w10 := s9.only ho10 hN2 (by subst hw10; exact below_st4 s9.below (by omega)) Hl0.out
          have hV10 := hM1.only y1 (noS_dC _ _ _ _ _) ho10
          have cd := y1.cell
          have ld := y1.lt
          have fd := y1.free
          refine wpAny_ready (rs := [20]) (by kernel_rfl) (by simp) ?_
          refine AllReady.cons rfl (fun K hK => ?_) AllReady.nil
          go_simp
          refine hK _ _ ?_
          clear hK K
          refine wpAny_ready (rs := [21]) (by kernel_rfl) (by simp) ?_
          refine AllReady.cons rfl (fun K hK => ?_) AllReady.nil
          go_simp
          refine hK _ _ ?_
          clear hK K
          refine wpAny_done (by kernel_rfl) ?_ _
          unfold st4 at hw10
          rw [hw10]
          clear hw10 ho10 cd ld fd y1 s9 hM1 hX
          go_wp2
          go_roundw
          case rel => exact ⟨I + 1, j + 1, er, A, po1, pc1, co1, cc1, rfl, by go_num, by have := HI.out; omega, by rw [Hops.out.2.1] at hjc; omega, by omega, Hnext.out, s10, x10, hV10⟩
          case measure => have := HI.out; simp [intOf]; omega
      ·
       have HRR : Hid (R = (zeroL, 17)) := Lib.hid (by rw [HF0.out (by have := of_decide_eq_true g0; omega), if_pos (.inr (ver_ge g6))])
       obtain ⟨er0, her⟩ : ∃ er : Int, er = 17 := ⟨17, rfl⟩
       have Her := Lib.hid her
       rw [← her] at HRR
       clear her
       go_wp2
       refine wp_region_lat (by kernel_rfl) (by kernel_rfl) ?_
       repeat (any_goals (first | go_big_quiet_skip | (go_big_quiet_want; go_big_quiet_op; first | go_big_quiet_on | go_big_quiet_call ((first | (go_at_call 16; exact Calls.lat (HSB.out _ (HBw.out _))) | (go_at_call 14; exact Calls.lat (HRA.out _ (HBw.out _)))))) | quiet_step ((first | (go_at_call 16; exact Calls.lat (HSB.out _ (HBw.out _))) | (go_at_call 14; exact Calls.lat (HRA.out _ (HBw.out _)))))))
       refine wpQuiet_nil ?_
       rintro w2 ⟨⟨_, hb2⟩, rfl⟩
       have s2 := s1.next hb2
       clear c0 l0 cQ
       obtain ⟨Wf, hWf⟩ : ∃ Wf, st8 w2 (N + 1) (.int .i64 0) (.slice none 0 0) (.slice none 0 0) (.int .i64 0) (.int .i64 0) (.int .i64 0) (.int .i64 0) (.slice none 0 0) = Wf := ⟨_, rfl⟩
       obtain ⟨zR, zB⟩ := s2.outZ hN hWf
       have s1 := s2
       have cX := s1.res.cell
       have lX := s1.res.lt
       have fX := s1.res.free
       have ZB := Lib.hid zB
       have HWf := Lib.hid hWf
       clear zB hWf
       go_wp2
       have HW := HWf.out
       unfold st8 at HW
       rw [HW]
       have cZ := zR.cell
       refine bodyPost_ret (v := .tuple #[.agg lgZ, .int .i64 er0]) (by simp [results, Tryz.results9, go_sem, cZ, Her.out]) rfl ?_
       rw [HRR.out]
       exact ⟨_, rfl, LgV.zero _, ZB.out⟩
    ·
     have HRR : Hid (R = (zeroL, 17)) := Lib.hid (by
      have h5 := of_decide_eq_true g5
      rw [HF0.out (by intro h; have := Hmz.out h; omega), if_pos (.inl h5)])
     obtain ⟨er0, her⟩ : ∃ er : Int, er = 17 := ⟨17, rfl⟩
     have Her := Lib.hid her
     rw [← her] at HRR
     clear her
     go_wp2
     refine wp_region_lat (by kernel_rfl) (by kernel_rfl) ?_
     repeat (any_goals (first | go_big_quiet_skip | (go_big_quiet_want; go_big_quiet_op; first | go_big_quiet_on | go_big_quiet_call ((first | (go_at_call 16; exact Calls.lat (HSB.out _ (HBw.out _))) | (go_at_call 14; exact Calls.lat (HRA.out _ (HBw.out _)))))) | quiet_step ((first | (go_at_call 16; exact Calls.lat (HSB.out _ (HBw.out _))) | (go_at_call 14; exact Calls.lat (HRA.out _ (HBw.out _)))))))
     refine wpQuiet_nil ?_
     rintro w2 ⟨⟨_, hb2⟩, rfl⟩
     have s2 := s1.next hb2
     clear c0 l0 cQ
     obtain ⟨Wf, hWf⟩ : ∃ Wf, st8 w2 (N + 1) (.int .i64 0) (.slice none 0 0) (.slice none 0 0) (.int .i64 0) (.int .i64 0) (.int .i64 0) (.int .i64 0) (.slice none 0 0) = Wf := ⟨_, rfl⟩
     obtain ⟨zR, zB⟩ := s2.outZ hN hWf
     have s1 := s2
     have cX := s1.res.cell
     have lX := s1.res.lt
     have fX := s1.res.free
     have ZB := Lib.hid zB
     have HWf := Lib.hid hWf
     clear zB hWf
     go_wp2
     have HW := HWf.out
     unfold st8 at HW
     rw [HW]
     have cZ := zR.cell
     refine bodyPost_ret (v := .tuple #[.agg lgZ, .int .i64 er0]) (by simp [results, Tryz.results9, go_sem, cZ, Her.out]) rfl ?_
     rw [HRR.out]
     exact ⟨_, rfl, LgV.zero _, ZB.out⟩
end Go.Proofs.YtghikgjknhjjgaaGreatDoor
