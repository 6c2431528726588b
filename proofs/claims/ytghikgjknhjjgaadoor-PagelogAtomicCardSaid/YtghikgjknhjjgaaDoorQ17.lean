/- Plain laws: the logs that a run reaches. No function of the program is named here. law41.Reached: the log after a run. Plain laws: sizes of a log in good order. No function of the program is named here. -/
import Derived.Test.YtghikgjknhjjgaaDoorQ14
import Derived.Test.YtghikgjknhjjgaaDoorQ16
namespace Go.Proofs.YtghikgjknhjjgaaDoor
set_option maxRecDepth 100000
open Go.RowKit
theorem chk_left {d : Dsk} (h : chk d = 0) {x : Int} (hx : -1 ≤ x) : chk { d with left := x } = 0 := by
 unfold chk at h ⊢
 split at h
 ·
  cases h
 ·
  rename_i h1
  split at h
  ·
   cases h
  ·
   rename_i h2
   split at h
   ·
    rename_i h3; exact absurd h h3
   ·
    rename_i h3
    rw [if_neg h1, if_neg h2, if_neg h3, if_neg (by simp only; omega)]
theorem page_left {d : Dsk} (h : chk d = 0) {x : Int} (hx : -1 ≤ x) (k : Int) : pageL { d with left := x } k = pageL d k := by
 unfold pageL readD
 rw [chk_left h hx, h]
 rfl
theorem LogS.left {d : Dsk} {frm til : Int} {V : Nat} {recs : List ByteArray} (h : LogS d frm til V recs) {x : Int} (hx : -1 ≤ x) : LogS { d with left := x } frm til V recs := by
 have hc := (fitE_zero h.fit).1
 exact h.same ⟨chk_left hc hx, rfl, rfl⟩ h.empty fun k _ => page_left hc hx k
/-- a log in good order, and its own fields -/
structure LogG (l : Lg) (f t : Int) (V : Nat) : Prop where
 frm : l.frm = f
 til : l.til = t
 log : LogS l.disk f t V l.recs
 ver : l.ver = V
theorem LogG.log' {l : Lg} {frm til : Int} {V : Nat} (h : LogG l frm til V) : LogS l.disk l.frm l.til V l.recs := by
 rw [h.frm, h.til]; exact h.log
theorem LogG.opens {l : Lg} {frm til : Int} {V : Nat} (h : LogG l frm til V) : openL l.disk frm til = (l, 0) := by
 rw [h.log.opens, ← h.frm, ← h.til, ← h.ver]
theorem LogG.crash {l : Lg} {frm til : Int} {V : Nat} (h : LogG l frm til V) (picks : List Int) : openL (crashD l.disk picks) l.frm l.til = ({ l with disk := crashD l.disk picks }, 0) := by
 have := (h.log'.crash picks).opens
 rw [this, ← h.ver]
/-- a log opened -/
theorem LogS.good {d : Dsk} {frm til : Int} {V : Nat} {recs : List ByteArray} (h : LogS d frm til V recs) : LogG (openL d frm til).1 frm til V ∧ (openL d frm til).2 = 0 ∧ (openL d frm til).1.disk = d ∧ (openL d frm til).1.recs = recs := by
 rw [h.opens]
 exact ⟨⟨rfl, rfl, h, rfl⟩, rfl, rfl, rfl⟩
/-- what a run has reached: a log in good order, or one whose power is lost -/
def Sound (l : Lg) (frm til : Int) (V : Nat) : Prop :=
 (∃ U, U ≤ V ∧ LogG l frm til U) ∨ (l.frm = frm ∧ l.til = til ∧ l.disk.left = 0 ∧ ∀ picks, ∃ U recs, U ≤ V ∧ LogS (crashD l.disk picks) frm til U recs)
theorem short_le {l : List ByteArray} (h : shortB l = true) : ∀ s ∈ l, s.size ≤ 65536 := by
 intro s hs
 unfold shortB at h
 have := List.all_eq_true.1 h s hs
 simp at this
 omega
theorem fine_short {a : ActA} (h : actFine a = true) : shortB a.recs = true := by
 unfold actFine at h
 simp only [Bool.and_eq_true] at h
 exact h.2.2
/-- no power: nothing happens -/
theorem ap_dead {l : Lg} (hl : l.disk.left = 0) (rs : List ByteArray) : (apL l rs).1 = l ∨ ((apL l rs).2 ≠ 0 ∧ (apL l rs).2 ≠ 18) := by
 unfold apL
 split
 ·
  right; simp
 rename_i hv
 split
 ·
  right; simp
 split
 ·
  left; rfl
 rename_i h0
 split
 ·
  right; simp
 rename_i hn
 left
 have hval : validL l = true := by simpa using hv
 obtain ⟨hf, _⟩ := validL_parts hval
 obtain ⟨z1, z2, z3, _⟩ := valid_size hval
 have hne : rs ≠ [] := by intro e; rw [e] at h0; exact h0 rfl
 have hc := (fitE_zero hf).1
 have hAl := areaL_len hf
 have hsl := streamL_len rs
 have hle : sizeL l.recs + (streamL rs).length ≤ (areaL l.disk l.frm l.til).length := by omega
 have hw := wrsL_eq l hf (sizeL l.recs) (streamL rs) (streamL_ne hne) hle
 have hA := area_len hf
 have hz1 : 0 < l.disk.size.toNat := by have := (area_bd hf).2.2.1; omega
 obtain ⟨V, hV, hV1, _⟩ := valid_ver hval
 have hnx := next_eq hV (sizeL l.recs + sizeL rs)
 have hs := perf_stop (ops := wrsL l (sizeL l.recs) (streamL rs) ++ DOp.fl :: nextL l (sizeL l.recs + sizeL rs)) hc (by
  intro o ho
  rcases List.mem_append.1 ho with ho | ho
  ·
   rw [hw] at ho
   refine pats_good hf (putA_len hle) (by have := (area_bd hf).2.2.1; omega) ?_ o ho
   obtain ⟨cnt, hcnt⟩ : ∃ cnt, cntP l.disk.size.toNat (sizeL l.recs) (sizeL l.recs + (streamL rs).length) = cnt := ⟨_, rfl⟩
   rw [hcnt]
   rcases Nat.eq_zero_or_pos cnt with h0 | h0
   ·
    exact .inl h0
   ·
    right
    have h1 := cntP_lt (a := sizeL l.recs) (b := sizeL l.recs + (streamL rs).length) (i := cnt - 1) hz1 (by omega)
    have h2 : sizeL l.recs / l.disk.size.toNat + (cnt - 1) < (l.til - l.frm - 2).toNat := by
     refine Nat.lt_of_mul_lt_mul_right (a := l.disk.size.toNat) ?_
     omega
    rw [putA_len hle, hA]
    exact Nat.mul_le_mul_right _ (by omega)
  ·
   rcases List.mem_cons.1 ho with rfl | ho
   ·
    trivial
   ·
    rw [hnx] at ho; exact hdr_good hf (by omega) o ho) hl (by simp)
 unfold finL
 rw [hs, if_pos (by simp)]
theorem cut_dead {l : Lg} (hl : l.disk.left = 0) (n : Int) : (cutL l n).1 = l ∨ ((cutL l n).2 ≠ 0 ∧ (cutL l n).2 ≠ 18) := by
 unfold cutL
 split
 ·
  right; simp
 rename_i hv
 split
 ·
  right; simp
 split
 ·
  left; rfl
 split
 ·
  right; simp
 left
 have hval : validL l = true := by simpa using hv
 obtain ⟨hf, _⟩ := validL_parts hval
 obtain ⟨V, hV, hV1, _⟩ := valid_ver hval
 have hs := perf_stop (ops := nextL l (sizeL (l.recs.take n.toNat))) (fitE_zero hf).1 (by
  rw [next_eq hV]
  exact hdr_good hf (by omega)) hl (by simp [nextL])
 unfold finL
 rw [hs, if_pos (by simp)]
theorem do_of {l : Lg} {a : ActA} {R : Lg × Int} (h : actL l a = R) (hR : R.2 = 0 ∨ R.2 = 18) : doL l a = R := by
 unfold doL
 rw [h, if_neg (by omega)]
theorem do_not {l : Lg} {a : ActA} {R : Lg × Int} (h : actL l a = R) (h1 : R.2 ≠ 0) (h2 : R.2 ≠ 18) : doL l a = (l, R.2) := by
 unfold doL
 rw [h, if_pos ⟨h1, h2⟩]
theorem StepS.ok {l : Lg} {V : Nat} {recs' : List ByteArray} {R : Lg × Int} (h : StepS l V recs' R) : R.2 = 0 ∨ R.2 = 18 := by
 rcases h.res with h | h
 ·
  exact .inl h.1
 ·
  exact .inr h.1
/-- an act 0 for which there is no room -/
def Big (l : Lg) (a : ActA) : Prop := a.kind = 0 ∧ areaN l.disk l.frm l.til - sizeL l.recs < sizeL a.recs
/-- the records after an act 0 or 1 for which there is room -/
def target (l : Lg) (a : ActA) : List ByteArray := if a.kind = 0 then l.recs ++ a.recs else l.recs.take ((a.n : Int) % ((l.recs.length : Int) + 1)).toNat
/-- the acts 0 and 1 of a log in good order: too great, nothing, or a step -/
theorem LogG.act {l : Lg} {frm til : Int} {V : Nat} (h : LogG l frm til V) (hV : V + 1 ≤ 200) {a : ActA} (ha : actFine a = true) (hk : a.kind = 0 ∨ a.kind = 1) :
  (Big l a ∧ doL l a = (l, 17)) ∨ (¬ Big l a ∧ target l a = l.recs ∧ doL l a = (l, 0)) ∨ (¬ Big l a ∧ StepS l V (target l a) (doL l a)) := by
 by_cases h0 : a.kind = 0
 ·
  have hA : actL l a = apL l a.recs := by unfold actL; rw [if_pos h0]
  have hr := h.log'.room
  rcases ap_step h.log' h.ver hV (short_le (fine_short ha)) with ⟨e1, e2⟩ | ⟨e1, e2⟩ | ⟨e1, e2, e3⟩
  ·
   right; left
   rw [e2] at hA
   refine ⟨fun hb => ?_, ?_, do_of hA (.inl rfl)⟩
   ·
    have := hb.2
    rw [e1] at this
    simp [sizeL] at this hr
    omega
   ·
    unfold target; rw [if_pos h0, e1, List.append_nil]
  ·
   left
   rw [e2] at hA
   exact ⟨⟨h0, e1⟩, do_not hA (by simp) (by simp)⟩
  ·
   right; right
   have ht : target l a = l.recs ++ a.recs := by unfold target; rw [if_pos h0]
   rw [ht, do_of hA e3.ok]
   exact ⟨fun hb => by have := hb.2; omega, e3⟩
 ·
  have h1 : a.kind = 1 := by omega
  have hA : actL l a = cutL l ((a.n : Int) % ((l.recs.length : Int) + 1)) := by unfold actL; rw [if_neg h0, if_pos h1]
  have hm0 : 0 ≤ (a.n : Int) % ((l.recs.length : Int) + 1) := Int.emod_nonneg _ (by omega)
  have hm1 : (a.n : Int) % ((l.recs.length : Int) + 1) < (l.recs.length : Int) + 1 := Int.emod_lt_of_pos _ (by omega)
  have ht : target l a = l.recs.take ((a.n : Int) % ((l.recs.length : Int) + 1)).toNat := by unfold target; rw [if_neg h0]
  rcases cut_step h.log' h.ver hV hm0 (by omega) with ⟨e1, e2⟩ | e3
  ·
   right; left
   rw [e2] at hA
   refine ⟨fun hb => h0 hb.1, ?_, do_of hA (.inl rfl)⟩
   rw [ht, e1, Int.toNat_natCast, List.take_length]
  ·
   right; right
   rw [ht, do_of hA e3.ok]
   exact ⟨fun hb => h0 hb.1, e3⟩
theorem StepS.good {l : Lg} {frm til : Int} {V : Nat} {recs' : List ByteArray} {R : Lg × Int} (h : LogG l frm til V) (hs : StepS l V recs' R) :
  (R.2 = 0 ∧ LogG R.1 frm til (V + 1) ∧ R.1.recs = recs') ∨ (R.2 = 18 ∧ R.1.disk.left = 0 ∧ R.1.recs = l.recs ∧ R.1.frm = frm ∧ R.1.til = til ∧ ∀ picks, LogS (crashD R.1.disk picks) frm til V l.recs ∨ LogS (crashD R.1.disk picks) frm til (V + 1) recs') := by
 rcases hs.res with ⟨h1, h2, h3, h4⟩ | ⟨h1, h2, h3, h4, h5⟩
 ·
  left
  refine ⟨h1, ⟨hs.frm.trans h.frm, hs.til.trans h.til, ?_, h4⟩, h3⟩
  rw [h3, ← h.frm, ← h.til]
  exact h2
 ·
  right
  rw [h.frm, h.til] at h5
  exact ⟨h1, h2, h3, hs.frm.trans h.frm, hs.til.trans h.til, h5⟩
theorem Sound.mono {l : Lg} {frm til : Int} {V W : Nat} (h : Sound l frm til V) (hW : V ≤ W) : Sound l frm til W := by
 rcases h with ⟨U, hU, h⟩ | ⟨h1, h2, h3, h4⟩
 ·
  exact .inl ⟨U, by omega, h⟩
 ·
  refine .inr ⟨h1, h2, h3, fun picks => ?_⟩
  obtain ⟨U, recs, hU, h⟩ := h4 picks
  exact ⟨U, recs, by omega, h⟩
theorem Sound.act {l : Lg} {frm til : Int} {V : Nat} (h : Sound l frm til V) (hV : V + 1 ≤ 200) {a : ActA} (ha : actFine a = true) : Sound (doL l a).1 frm til (V + 1) := by
 rcases h with ⟨U, hU, h⟩ | ⟨h1, h2, h3, h4⟩
 ·
  by_cases hk : a.kind = 0 ∨ a.kind = 1
  ·
   rcases h.act (by omega) ha hk with ⟨_, e⟩ | ⟨_, _, e⟩ | ⟨_, e⟩
   ·
    rw [e]; exact .inl ⟨U, by omega, h⟩
   ·
    rw [e]; exact .inl ⟨U, by omega, h⟩
   ·
    rcases e.good h with ⟨_, g, _⟩ | ⟨_, g1, g2, g3, g4, g5⟩
    ·
     exact .inl ⟨U + 1, by omega, g⟩
    ·
     refine .inr ⟨g3, g4, g1, fun picks => ?_⟩
     rcases g5 picks with g | g
     ·
      exact ⟨U, _, by omega, g⟩
     ·
      exact ⟨U + 1, _, by omega, g⟩
  ·
   have n0 : a.kind ≠ 0 := fun e => hk (.inl e)
   have n1 : a.kind ≠ 1 := fun e => hk (.inr e)
   by_cases k2 : a.kind = 2
   ·
    have hA : actL l a = if l.disk.left = -1 then ({ l with disk := { l.disk with left := (a.n : Int) % 12 } }, 0) else (l, 0) := by unfold actL; rw [if_neg n0, if_neg n1, if_pos k2]
    by_cases hl : l.disk.left = -1
    ·
     rw [if_pos hl] at hA
     rw [do_of hA (.inl rfl)]
     exact .inl ⟨U, by omega, h.frm, h.til, h.log.left (by omega), h.ver⟩
    ·
     rw [if_neg hl] at hA
     rw [do_of hA (.inl rfl)]
     exact .inl ⟨U, by omega, h⟩
   ·
    by_cases k3 : a.kind = 3
    ·
     have hA : actL l a = openL (crashD l.disk a.picks) l.frm l.til := by unfold actL; rw [if_neg n0, if_neg n1, if_neg k2, if_pos k3]
     rw [h.crash] at hA
     rw [do_of hA (.inl rfl)]
     exact .inl ⟨U, by omega, h.frm, h.til, h.log.crash _, h.ver⟩
    ·
     have hA : actL l a = (l, 0) := by unfold actL; rw [if_neg n0, if_neg n1, if_neg k2, if_neg k3]
     rw [do_of hA (.inl rfl)]
     exact .inl ⟨U, by omega, h⟩
 ·
  have same : (doL l a).1 = l → Sound (doL l a).1 frm til (V + 1) := fun e => by
   rw [e]
   exact Sound.mono (.inr ⟨h1, h2, h3, h4⟩) (Nat.le_succ V)
  have dead : ∀ {R : Lg × Int}, actL l a = R → (R.1 = l ∨ (R.2 ≠ 0 ∧ R.2 ≠ 18)) → (doL l a).1 = l := by
   intro R hR hd
   unfold doL
   rw [hR]
   split
   ·
    rfl
   ·
    rename_i hn
    rcases hd with hd | hd
    ·
     exact hd
    ·
     exact absurd hd hn
  by_cases k0 : a.kind = 0
  ·
   exact same (dead (R := apL l a.recs) (by unfold actL; rw [if_pos k0]) (ap_dead h3 _))
  by_cases k1 : a.kind = 1
  ·
   exact same (dead (R := cutL l ((a.n : Int) % ((l.recs.length : Int) + 1))) (by unfold actL; rw [if_neg k0, if_pos k1]) (cut_dead h3 _))
  by_cases k2 : a.kind = 2
  ·
   exact same (dead (R := (l, 0)) (by unfold actL; rw [if_neg k0, if_neg k1, if_pos k2, if_neg (by omega)]) (.inl rfl))
  by_cases k3 : a.kind = 3
  ·
   have hA : actL l a = openL (crashD l.disk a.picks) l.frm l.til := by unfold actL; rw [if_neg k0, if_neg k1, if_neg k2, if_pos k3]
   obtain ⟨U, recs, hU, h⟩ := h4 a.picks
   rw [h1, h2] at hA
   obtain ⟨g1, g2, _⟩ := h.good
   rw [do_of hA (.inl g2)]
   exact .inl ⟨U, by omega, g1⟩
  ·
   exact same (dead (R := (l, 0)) (by unfold actL; rw [if_neg k0, if_neg k1, if_neg k2, if_neg k3]) (.inl rfl))
/-- the log after acts -/
def runAll (l : Lg) (acts : List ActA) : Lg := acts.foldl (fun l a => (doL l a).1) l
theorem runAll_take {l : Lg} {acts : List ActA} {k : Nat} (h : k < acts.length) : runAll l (acts.take (k + 1)) = (doL (runAll l (acts.take k)) acts[k]).1 := by
 unfold runAll
 rw [List.take_add_one, List.getElem?_eq_getElem h, List.foldl_append]
 rfl
theorem Sound.run : ∀ {acts : List ActA} {l : Lg} {frm til : Int} {V : Nat}, Sound l frm til V → V + acts.length ≤ 200 → acts.all actFine = true → Sound (runAll l acts) frm til (V + acts.length)
 | [], _, _, _, _, h, _, _ => h
 | a :: acts, l, frm, til, V, h, hV, hf => by
  rw [List.all_cons, Bool.and_eq_true] at hf
  rw [List.length_cons] at hV ⊢
  have := Sound.run (h.act (by omega) hf.1) (acts := acts) (by omega) hf.2
  rw [show V + 1 + acts.length = V + (acts.length + 1) by omega] at this
  exact this
theorem beginL_ok {p s frm til : Int} (h : (beginL p s frm til).2 = 0) : LogG (beginL p s frm til).1 frm til 1 ∧ (beginL p s frm til).1.recs = [] ∧ (beginL p s frm til).1.disk.left = -1 := by
 unfold beginL at h ⊢
 split at h
 ·
  rename_i hn; exact absurd h hn
 rename_i h1
 rw [if_neg h1]
 split at h
 ·
  rename_i hn; exact absurd h hn
 rename_i h2
 rw [if_neg h2]
 obtain ⟨g1, g2, g3, g4, g5⟩ := fmt_S (d := (newD p s).1) (frm := frm) (til := til) (by simpa using h2)
 obtain ⟨k1, k2, k3, k4⟩ := g1.good
 refine ⟨k1, k4, ?_⟩
 rw [k3]
 refine g4 ?_
 unfold newD at h1 ⊢
 split
 ·
  rfl
 ·
  rename_i hr
  rw [if_neg hr] at h1
  simp at h1
/-- a log with power -/
theorem LogG.full {l : Lg} {frm til : Int} {V : Nat} (h : LogG l frm til V) (hl : l.disk.left = -1) (hV : V + 1 ≤ 200) {a : ActA} (ha : actFine a = true) (hk : a.kind = 0 ∨ a.kind = 1) :
  ∃ U, U ≤ V + 1 ∧ LogG (doL l a).1 frm til U ∧ (doL l a).1.disk.left = -1 ∧ ((¬ Big l a ∧ (doL l a).2 = 0 ∧ (doL l a).1.recs = target l a) ∨ (Big l a ∧ doL l a = (l, 17))) := by
 rcases h.act hV ha hk with ⟨e1, e⟩ | ⟨e1, e2, e⟩ | ⟨e1, e⟩
 ·
  exact ⟨V, by omega, by rw [e]; exact h, by rw [e]; exact hl, .inr ⟨e1, e⟩⟩
 ·
  exact ⟨V, by omega, by rw [e]; exact h, by rw [e]; exact hl, .inl ⟨e1, by rw [e], by rw [e]; exact e2.symm⟩⟩
 ·
  obtain ⟨f1, f2⟩ := e.full hl
  rcases e.good h with ⟨_, g, g2⟩ | ⟨g, _⟩
  ·
   exact ⟨V + 1, by omega, g, f2, .inl ⟨e1, f1, g2⟩⟩
  ·
   rw [f1] at g; exact absurd g (by decide)
theorem LogG.left {l : Lg} {frm til : Int} {V : Nat} (h : LogG l frm til V) {x : Int} (hx : -1 ≤ x) : LogG { l with disk := { l.disk with left := x } } frm til V := ⟨h.frm, h.til, h.log.left hx, h.ver⟩
/-- power is lost within an act, and the log is opened again -/
theorem atomic_key {l : Lg} {frm til : Int} {V : Nat} (h : LogG l frm til V) (hl : l.disk.left = -1) (hV : V + 1 ≤ 200) {a : ActA} (ha : actFine a = true) (hk : a.kind = 0 ∨ a.kind = 1) {x : Int} (hx : 0 ≤ x) (picks : List Int) {T : Lg} {f : Int} (hT : doL { l with disk := { l.disk with left := x } } a = (T, f)) :
  (openL (crashD T.disk picks) l.frm l.til).2 = 0 ∧ (f = 18 ∨ f = (doL l a).2) ∧ (f = 18 → (doL l a).2 = 0) ∧
   (f = 18 ∧ (openL (crashD T.disk picks) l.frm l.til).1.recs = l.recs → T.recs = l.recs) ∧ (¬ (f = 18 ∧ (openL (crashD T.disk picks) l.frm l.til).1.recs = l.recs) → (openL (crashD T.disk picks) l.frm l.til).1.recs = (doL l a).1.recs) := by
 have hg := h.left (x := x) (by omega)
 obtain ⟨U, hU, hW, _, hw⟩ := h.full hl hV ha hk
 rw [h.frm, h.til]
 rcases hg.act hV ha hk with ⟨b, e⟩ | ⟨b, e2, e⟩ | ⟨b, e⟩
 ·
  rw [hT] at e
  obtain ⟨rfl, rfl⟩ := Prod.mk.inj e
  have hc := hg.crash picks
  simp only at hc
  rw [h.frm, h.til] at hc
  rw [hc]
  rcases hw with ⟨b', _⟩ | ⟨_, w⟩
  ·
   exact absurd b b'
  ·
   rw [w]
   exact ⟨rfl, .inr rfl, fun e => absurd e (by decide), fun e => absurd e.1 (by decide), fun _ => rfl⟩
 ·
  rw [hT] at e
  obtain ⟨rfl, rfl⟩ := Prod.mk.inj e
  have hc := hg.crash picks
  simp only at hc
  rw [h.frm, h.til] at hc
  rw [hc]
  rcases hw with ⟨_, w1, w2⟩ | ⟨b', _⟩
  ·
   rw [w1, w2]
   exact ⟨rfl, .inr rfl, fun e => absurd e (by decide), fun e => absurd e.1 (by decide), fun _ => e2.symm⟩
  ·
   exact absurd b' b
 ·
  rw [hT] at e
  rcases hw with ⟨_, w1, w2⟩ | ⟨b', _⟩
  ·
   rw [w1, w2]
   rcases e.good hg with ⟨g1, g2, g3⟩ | ⟨g1, g2, g3, g4, g5, g6⟩
   ·
    simp only at g1 g2 g3
    have hc := g2.crash picks
    rw [g2.frm, g2.til] at hc
    rw [hc, g1]
    exact ⟨rfl, .inr rfl, fun e => absurd e (by decide), fun e => absurd e.1 (by decide), fun _ => g3⟩
   ·
    simp only at g1 g3 g6
    rw [g1]
    have key : ∀ {Z : Nat} {rr : List ByteArray}, LogS (crashD T.disk picks) frm til Z rr → openL (crashD T.disk picks) frm til = (⟨crashD T.disk picks, frm, til, Z, rr⟩, 0) := fun hs => hs.opens
    rcases g6 picks with g | g
    ·
     rw [key g]
     exact ⟨rfl, .inl rfl, fun _ => rfl, fun _ => g3, fun hn => absurd ⟨rfl, rfl⟩ hn⟩
    ·
     rw [key g]
     exact ⟨rfl, .inl rfl, fun _ => rfl, fun _ => g3, fun _ => rfl⟩
  ·
   exact absurd b' b
/-- what the law of a torn act begins with -/
theorem Sound.wake {l : Lg} {frm til : Int} {V : Nat} (h : Sound l frm til V) {a : ActA} (ha : a.kind = 3) (hp : a.picks = []) :
  ∃ U, U ≤ V ∧ LogG (doL l a).1 frm til U ∧ (doL l a).1.disk.left = -1 := by
 have hA : actL l a = openL (crashD l.disk []) l.frm l.til := by unfold actL; rw [if_neg (by omega), if_neg (by omega), if_neg (by omega), if_pos ha, hp]
 rcases h with ⟨U, hU, h⟩ | ⟨h1, h2, h3, h4⟩
 ·
  rw [h.crash] at hA
  rw [do_of hA (.inl rfl)]
  exact ⟨U, hU, ⟨h.frm, h.til, h.log.crash _, h.ver⟩, crash_left (fitE_zero h.log.fit).1 _⟩
 ·
  obtain ⟨U, recs, hU, h⟩ := h4 []
  rw [h1, h2] at hA
  obtain ⟨g1, g2, g3, _⟩ := h.good
  rw [do_of hA (.inl g2)]
  refine ⟨U, hU, g1, ?_⟩
  rw [g3]
  have hc := (fitE_zero h.fit).1
  by_cases h0 : chk l.disk = 0
  ·
   exact crash_left h0 _
  ·
   exfalso
   unfold crashD at hc
   rw [if_pos h0] at hc
   exact absurd hc (by decide)
end Go.Proofs.YtghikgjknhjjgaaDoor
namespace Go.Proofs.YtghikgjknhjjgaaDoor
set_option maxRecDepth 100000
open Go.RowKit
def reachL (p s frm til : Int) (acts : List ActA) : Lg × Bool :=
 if fineB p s acts = false then (zeroL, false) else if (beginL p s frm til).2 ≠ 0 then (zeroL, false) else (runAll (beginL p s frm til).1 acts, true)
def RetLB (w : World) (l : Lg) (b : Bool) (e : Ending) (w' : World) : Prop := ∃ v, e = .returned (.tuple #[v, .bool b]) ∧ LgV w' v l ∧ Below w.heap.size w w'
theorem fineB_parts {p s : Int} {acts : List ActA} (h : fineB p s acts = true) : p ≤ 12 ∧ s ≤ 40 ∧ acts.length ≤ 10 ∧ acts.all actFine = true := by
 unfold fineB at h
 simp only [Bool.and_eq_true, Bool.not_eq_true', decide_eq_false_iff_not] at h
 exact ⟨by omega, by omega, by omega, h.2.2.2⟩
theorem run_bd {p s frm til : Int} {acts : List ActA} (hf : acts.all actFine = true) : ∀ k, k ≤ acts.length → RunB (runAll (beginL p s frm til).1 (acts.take k)) k
 | 0, _ => begin_bd p s frm til
 | k + 1, hk => by
  rw [runAll_take (by omega)]
  exact (run_bd hf k (by omega)).next (List.all_eq_true.1 hf _ (List.getElem_mem _))
/-- what Reached answers: bounds, and a sound log -/
theorem reach_sound {p s frm til : Int} {acts : List ActA} (h : (reachL p s frm til acts).2 = true) :
  Sound (reachL p s frm til acts).1 frm til 11 ∧ RunB (reachL p s frm til acts).1 10 := by
 unfold reachL at h ⊢
 split at h
 ·
  cases h
 rename_i h1
 rw [if_neg h1]
 split at h
 ·
  cases h
 rename_i h2
 rw [if_neg h2]
 obtain ⟨_, _, h3, h4⟩ := fineB_parts (by simpa using h1)
 obtain ⟨g1, _, _⟩ := beginL_ok (by simpa using h2)
 have := Sound.run (acts := acts) (.inl ⟨1, Nat.le_refl _, g1⟩) (by omega) h4
 refine ⟨this.mono (by omega), ?_⟩
 have hb := run_bd (p := p) (s := s) (frm := frm) (til := til) h4 acts.length (Nat.le_refl _)
 rw [List.take_length] at hb
 exact ⟨by have := hb.1; simp only; omega, by have := hb.2; simp only; omega⟩
set_option maxHeartbeats 2000000 in
theorem rn_Reached (p s frm til : Int) (acts : List ActA) (o : Option Addr) (c : Nat) (w : World) (hA : ActsAt w o acts) (hsl : SlW o acts.length c) (hT : TabW w) :
  Calls Tryd.prog 15 #[.agg #[.int .i64 p, .int .i64 s, .int .i64 frm, .int .i64 til, .slice o acts.length c]] w (RetLB w (reachL p s frm til acts).1 (reachL p s frm til acts).2) := by
 obtain ⟨R, hR⟩ : ∃ R, reachL p s frm til acts = R := ⟨_, rfl⟩
 rw [hR]
 unfold reachL at hR
 obtain ⟨N, hN⟩ : ∃ N, w.heap.size = N := ⟨_, rfl⟩
 obtain ⟨W1, hW1⟩ : ∃ W1, (w.alloc (.cells #[.int .i64 p, .int .i64 s, .int .i64 frm, .int .i64 til, .slice o acts.length c] 24)).alloc (.cells lgZ 32) = W1 := ⟨_, rfl⟩
 have x1 : Bx W1 N #[.int .i64 p, .int .i64 s, .int .i64 frm, .int .i64 til, .slice o acts.length c] 24 := by subst hW1 hN; exact (Bx.new w _ _).alloc _
 have z1 : Bx W1 (N + 1) lgZ 32 := by subst hW1 hN; exact Bx.newAt _ _ _ _ (by simp)
 have hB1 : Below w.heap.size w W1 := by subst hW1; exact (Below.one w _).alloc (by simp) _
 have hlen := slw_len hsl
 have hfi := rn_Fine p s frm til acts o c W1 (hA.below hB1) hsl
 have c0 := x1.cell
 have l0 := x1.lt
 cases g : fineB p s acts
 ·
  rw [g] at hfi
  have HRz : Hid ((zeroL, false) = R) := Lib.hid (by rw [← hR, g]; rfl)
  clear hR
  go_enter Tryd.func15, Tryd.ntmps15
  go_wp2_with fail
  refine hfi.mono ?_
  rintro e Wz ⟨rfl, hb2⟩
  have hBz := btr hB1 hb2
  have zz := z1.belowAll hb2
  clear c0 l0 hfi x1 z1
  have cz := zz.cell
  have lz := zz.lt
  have fz := zz.free
  obtain ⟨Wf, hWf⟩ : ∃ Wf, st8 Wz (N + 1) (.int .i64 0) (.slice none 0 0) (.slice none 0 0) (.int .i64 0) (.int .i64 0) (.int .i64 0) (.int .i64 0) (.slice none 0 0) = Wf := ⟨_, rfl⟩
  have zB : Below w.heap.size w Wf := by subst hWf; exact below_set8 hBz (by omega)
  have zR : Bx Wf (N + 1) lgZ 32 := by subst hWf; exact zz.set8
  have HWf := Lib.hid hWf
  have HB := Lib.hid zB
  clear hWf zB
  go_wp2
  have HW := HWf.out
  unfold st8 at HW
  (try rw [HW])
  have cZ := zR.cell
  refine bodyPost_ret (v := .tuple #[.agg lgZ, .bool false]) (by simp [results, Tryd.results15, go_sem, cZ]) rfl ?_
  rw [← HRz.out]
  exact ⟨_, rfl, LgV.zero _, HB.out⟩
 ·
  rw [g] at hfi
  rw [g, if_neg (by simp)] at hR
  obtain ⟨hp, hs, hle, hal⟩ := fineB_parts g
  have HAl := Lib.hid hal
  have hbt := fun k hk => run_bd (p := p) (s := s) (frm := frm) (til := til) hal k hk
  clear hal g hp hs
  go_enter Tryd.func15, Tryd.ntmps15
  go_wp2_with fail
  refine hfi.mono ?_
  rintro e w2 ⟨rfl, hb2⟩
  have hB2 := btr hB1 hb2
  have x2 := x1.belowAll hb2
  have z2 := z1.belowAll hb2
  clear c0 l0 x1 z1 hfi hb2 hB1 hW1
  have c0 := x2.cell
  have l0 := x2.lt
  have hbg := rn_begin p s frm til acts.length o c w2
  obtain ⟨L, er, hL⟩ : ∃ L er, beginL p s frm til = (L, er) := ⟨_, _, rfl⟩
  rw [hL] at hbg hR hbt
  simp only at hR hbt
  have HBt := Lib.hid hbt
  have HR := Lib.hid hR
  clear hL hbt hR
  go_wp2_with fail
  refine hbg.mono ?_
  rintro e w3 ⟨v3, rfl, hv3, hb3⟩
  have hv := hv3
  obtain ⟨po, pc, co, cc, ro, rc, rfl, -, -, -⟩ := hv3
  have x3 := x2.belowAll hb3
  have z3 := z2.belowAll hb3
  have hB3 := btr hB2 hb3
  have hBo := Below.one w3 (.cells (lgC L.disk po co pc cc L.frm L.til L.ver ro L.recs.length rc) 32)
  have xl := Bx.new w3 (lgC L.disk po co pc cc L.frm L.til L.ver ro L.recs.length rc) 32
  have y0 := x3.belowAll hBo
  have yz := z3.belowAll hBo
  have hV := hv.below hBo
  have hB := btr hB3 hBo
  have hzl := z3.lt
  clear c0 l0 x2 z2 hbg hB2 x3 z3 hv hBo
  go_upto_region 4 with fail
  obtain ⟨b, hbe⟩ : ∃ b, w3.heap.size = b := ⟨_, rfl⟩
  have hwb : N + 1 < b := by omega
  obtain ⟨W4, hW4⟩ : ∃ W4, w3.alloc (.cells (lgC L.disk po co pc cc L.frm L.til L.ver ro L.recs.length rc) 32) = W4 := ⟨_, rfl⟩
  simp only [hW4, hbe] at *
  clear hW4 hbe hB3 hb3 hzl
  have c0 := y0.cell
  have l0 := y0.lt
  cases g1 : (er != 0)
  ·
   have he : er = 0 := by simpa using g1
   have HR2 : Hid (R = (runAll L acts, true)) := Lib.hid (by rw [← HR.out, if_neg (by simp [he])])
   clear HR he
   go_wp2
   clear c0 l0 y0
   go_loopw [23] (fun i wr => ∃ (k : Nat) (l : Lg) (po co ro : Option Addr) (pc cc rc : Nat), k ≤ acts.length ∧ i = .int .i64 k ∧ Hid (l = runAll L (acts.take k)) ∧ Below w.heap.size w wr ∧ Bx wr (N + 1) lgZ 32 ∧ Bx wr b (lgC l.disk po co pc cc l.frm l.til l.ver ro l.recs.length rc) 32 ∧ LgV wr (.agg (lgC l.disk po co pc cc l.frm l.til l.ver ro l.recs.length rc)) l) (fun i _ => acts.length - (intOf i).toNat)
   case atStart => exact ⟨0, L, po, co, ro, pc, cc, rc, Nat.zero_le _, rfl, Lib.hid rfl, hB, yz, xl, hV⟩
   case round =>
    clear hB yz xl hV
    obtain ⟨k, l, po, co, ro, pc, cc, rc, hk, rfl, hq, hB, yz, xl, hV⟩ := hrel
    by_cases hlt : k < acts.length
    ·
     obtain ⟨qb, qoff, so, sc, ko, kc, rfl, k0, k1, k2, k3, ok⟩ := hA k hlt
     have hqb : qb < w.heap.size := World.block_lt_of_cell? w _ k0
     have c0 := (hB.cell hqb).trans k0
     have c1 := (hB.cell hqb).trans k1
     have c2 := (hB.cell hqb).trans k2
     have c3 := (hB.cell hqb).trans k3
     clear k0 k1 k2 k3
     obtain ⟨a, ha⟩ : ∃ a, acts[k] = a := ⟨_, rfl⟩
     rw [ha] at c0 c1 c2 c3 ok
     have haf : actFine a = true := by rw [← ha]; exact List.all_eq_true.1 HAl.out _ (List.getElem_mem hlt)
     obtain ⟨f1, f2, f3⟩ := act_fine haf
     have hbd : RunB l k := by rw [hq.out]; exact HBt.out k hk
     obtain ⟨hc1, hc2⟩ := hbd
     have hqn : (doL l a).1 = runAll L (acts.take (k + 1)) := by rw [runAll_take hlt, ha, hq.out]
     have lB : qb < wr.heap.size := Nat.lt_of_lt_of_le hqb hB.size
     have hzb := hB.size
     have hBo := Below.one wr (.cells (actC a so ko sc kc) 38)
     have xa := Bx.new wr (actC a so ko sc kc) 38
     have yl := xl.alloc (.cells (actC a so ko sc kc) 38)
     have yy := yz.alloc (.cells (actC a so ko sc kc) 38)
     have hB1 := btr hB hBo
     have hV1 := hV.below hBo
     have lb := xl.lt
     go_upto_region 9 with fail
     obtain ⟨ba, hba⟩ : ∃ ba, wr.heap.size = ba := ⟨_, rfl⟩
     have hbb : b < ba := by omega
     obtain ⟨W5, hW5⟩ : ∃ W5, wr.alloc (.cells (actC a so ko sc kc) 38) = W5 := ⟨_, rfl⟩
     simp only [hW5, hba] at *
     clear hW5 c0 c1 c2 c3 lB hBo lb
     have hT5 := hT.below hB1
     obtain ⟨F, ef, hF⟩ : ∃ F ef, doL l a = (F, ef) := ⟨_, _, rfl⟩
     have hd1 := fun W (hb : Below w.heap.size w W) (hv : LgV W (.agg (lgC l.disk po co pc cc l.frm l.til l.ver ro l.recs.length rc)) l) => rn_Do l _ a so ko sc kc W hv (ok.below hb) (by omega) (by omega) (by omega) (hT.below hb) (by omega) (by omega)
     rw [hF] at hd1 hqn
     have H1 := Lib.hid hd1
     have HQ := Lib.hid hqn
     clear hd1 hqn hF f1 f2 f3 hc1 hc2 haf hq ha
     have cl := yl.cell
     have ll := yl.lt
     have ca := xa.cell
     have la := xa.lt
     go_wp2_with fail
     refine (H1.out _ hB1 hV1).mono ?_
     rintro e w6 ⟨v6, rfl, hv6, hb6⟩
     have hv := hv6
     obtain ⟨p6, m6, q6, k6, r6, t6, rfl, -, -, -⟩ := hv6
     have zl := yl.belowAll hb6
     have zz := yy.belowAll hb6
     have hB6 := btr hB1 hb6
     clear cl ll ca la xa yl yy hB1 hV1 hT5 hb6
     have cl := zl.cell
     have ll := zl.lt
     have fl := zl.free
     obtain ⟨Wf, hWf⟩ : ∃ Wf, st8 w6 b (.int .i64 F.disk.size) (.slice p6 F.disk.pages.length m6) (.slice q6 F.disk.cache.length k6) (.int .i64 F.disk.left) (.int .i64 F.frm) (.int .i64 F.til) (.int .i64 F.ver) (.slice r6 F.recs.length t6) = Wf := ⟨_, rfl⟩
     have ho : Only b w6 Wf := by subst hWf; exact Only.eight
     have xf : Bx Wf b (lgC F.disk p6 q6 m6 k6 F.frm F.til F.ver r6 F.recs.length t6) 32 := by subst hWf; exact zl.set8
     have hBf : Below w.heap.size w Wf := by subst hWf; exact below_set8 hB6 (by omega)
     have hVf := hv.only zl (noS_lg _ _ _ _ _ _ _ _ _ _ _ _ _ _) ho
     have zf : Bx Wf (N + 1) lgZ 32 := zz.only ho (by omega)
     have HR := Lib.hid (And.intro hBf (And.intro zf (And.intro xf hVf)))
     clear hBf xf hVf ho hv zl zz zf hB6
     unfold st8 at hWf
     go_wp2
     go_roundw
     case rel => exact ⟨k + 1, F, p6, q6, r6, m6, k6, t6, by omega, by go_num, HQ, HR.out.1, HR.out.2.1, HR.out.2.2.1, HR.out.2.2.2⟩
     case measure => simp [intOf]; omega
    ·
     have hk' : acts.take k = acts := List.take_of_length_le (by omega)
     have HRz : Hid (R = (l, true)) := Lib.hid (by rw [HR2.out, hq.out, hk'])
     clear hq hk' HR2
     have cl := xl.cell
     have ll := xl.lt
     have cz := yz.cell
     have lz := yz.lt
     have fz := yz.free
     obtain ⟨Wf, hWf⟩ : ∃ Wf, st8 wr (N + 1) (.int .i64 l.disk.size) (.slice po l.disk.pages.length pc) (.slice co l.disk.cache.length cc) (.int .i64 l.disk.left) (.int .i64 l.frm) (.int .i64 l.til) (.int .i64 l.ver) (.slice ro l.recs.length rc) = Wf := ⟨_, rfl⟩
     have zR : Bx Wf (N + 1) (lgC l.disk po co pc cc l.frm l.til l.ver ro l.recs.length rc) 32 := by subst hWf; exact yz.set8
     have zB : Below w.heap.size w Wf := by subst hWf; exact below_set8 hB (by omega)
     have zL : LgV Wf (.agg (lgC l.disk po co pc cc l.frm l.til l.ver ro l.recs.length rc)) l := by subst hWf; exact hV.only yz (noS_lg _ _ _ _ _ _ _ _ _ _ _ _ _ _) Only.eight
     have HWf := Lib.hid hWf
     have HB := Lib.hid zB
     have HL := Lib.hid zL
     clear hWf zB zL
     go_wp2
     have HW := HWf.out
     unfold st8 at HW
     rw [HW]
     have cZ := zR.cell
     refine bodyPost_ret (v := .tuple #[.agg (lgC l.disk po co pc cc l.frm l.til l.ver ro l.recs.length rc), .bool true]) (by simp [results, Tryd.results15, go_sem, cZ]) rfl ?_
     rw [HRz.out]
     exact ⟨_, rfl, HL.out, HB.out⟩
  ·
   have he : er ≠ 0 := by simpa using g1
   have HRz : Hid ((zeroL, false) = R) := Lib.hid (by rw [← HR.out, if_pos he])
   clear HR he
   have zz := yz
   have hBz := hB
   clear yz hB xl hV c0 l0 y0
   generalize W4 = Wz at *
   have cz := zz.cell
   have lz := zz.lt
   have fz := zz.free
   obtain ⟨Wf, hWf⟩ : ∃ Wf, st8 Wz (N + 1) (.int .i64 0) (.slice none 0 0) (.slice none 0 0) (.int .i64 0) (.int .i64 0) (.int .i64 0) (.int .i64 0) (.slice none 0 0) = Wf := ⟨_, rfl⟩
   have zB : Below w.heap.size w Wf := by subst hWf; exact below_set8 hBz (by omega)
   have zR : Bx Wf (N + 1) lgZ 32 := by subst hWf; exact zz.set8
   have HWf := Lib.hid hWf
   have HB := Lib.hid zB
   clear hWf zB
   go_wp2
   have HW := HWf.out
   unfold st8 at HW
   (try rw [HW])
   have cZ := zR.cell
   refine bodyPost_ret (v := .tuple #[.agg lgZ, .bool false]) (by simp [results, Tryd.results15, go_sem, cZ]) rfl ?_
   rw [← HRz.out]
   exact ⟨_, rfl, LgV.zero _, HB.out⟩
end Go.Proofs.YtghikgjknhjjgaaDoor
namespace Go.Proofs.YtghikgjknhjjgaaDoor
set_option maxRecDepth 100000
open Go.RowKit
theorem LogG.room {l : Lg} {frm til : Int} {V : Nat} (h : LogG l frm til V) : roomL l = areaN l.disk frm til - sizeL l.recs := by
 unfold roomL
 rw [if_neg (by simp [h.log'.valid h.ver]), h.frm, h.til]
theorem area_shape {d e : Dsk} {frm til : Int} (h : Shape d e) : areaN e frm til = areaN d frm til := by unfold areaN; rw [h.2.1]
theorem LogG.bd {l : Lg} {frm til : Int} {V : Nat} (h : LogG l frm til V) : l.disk.cache.length = 0 ∧ l.recs.length ≤ 512000 ∧ sizeL l.recs ≤ 1024000 ∧ (sizeL l.recs : Int) ≤ areaN l.disk frm til ∧ areaN l.disk frm til ≤ 1024000 := by
 have h1 := valid_bd (h.log'.valid h.ver)
 have h2 := (area_bd h.log.fit).2.1
 have h3 := recs_len_size l.recs
 exact ⟨by rw [h.log.empty]; rfl, by omega, h1.1, h.log.room, h2⟩
theorem sizeL_cut (l : List ByteArray) (k : Nat) : sizeL (l.take k) + sizeL (l.drop k) = sizeL l := by
 rw [← sizeL_app, List.take_append_drop]
end Go.Proofs.YtghikgjknhjjgaaDoor
