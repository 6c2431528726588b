/- Plain laws on the disks of layer 40: what Write, Flush and Crash leave is valid, and how its pages read. No function of the program is named here. -/
import Derived.Test.YtjbcagijfodfgaaDFlush
import Derived.Test.YtjbcagijfodfgaaDCrashR
namespace Go.Proofs.Ytjbcagijfodfgaa
open Go.RowKit

theorem chkP_mk {size : Int} {l : List ByteArray} (h : ∀ s ∈ l, (s.size : Int) = size) : chkP size l = true := by
  induction l with
  | nil => rfl
  | cons x l ih => simp [chkP, h x (by simp), ih (fun s hs => h s (by simp [hs]))]
theorem chkC_mk {n : Nat} {size : Int} {l : List PW} (h : ∀ x ∈ l, 0 ≤ x.page ∧ x.page < n ∧ (x.data.size : Int) = size) : chkC n size l = 0 := by
  induction l with
  | nil => rfl
  | cons x l ih =>
    obtain ⟨a, b, c⟩ := h x (by simp)
    rw [chkC, if_neg (by omega), if_neg (by simp [c])]
    exact ih (fun s hs => h s (by simp [hs]))
theorem chk_mk {d : Dsk} (h1 : rangedB d.pages.length d.size = true) (h2 : ∀ s ∈ d.pages, (s.size : Int) = d.size) (h3 : ∀ x ∈ d.cache, 0 ≤ x.page ∧ x.page < d.pages.length ∧ (x.data.size : Int) = d.size) (h4 : -1 ≤ d.left) : chk d = 0 := by
  unfold chk
  rw [if_neg (by simp [h1]), if_neg (by simp [chkP_mk h2]), if_neg (by simp [chkC_mk h3]), if_neg (by omega)]
theorem chk_zeroD : chk zeroD = 2 := rfl

theorem crashP_len {picks : List Int} {size : Int} : ∀ (l : List PW) (k : Nat) (ps : List ByteArray), (crashP picks size k l ps).length = ps.length
  | [], _, _ => rfl
  | x :: r, k, ps => by rw [crashP, crashP_len r]; simp
theorem mem_set_of {α : Type} {P : α → Prop} {l : List α} {i : Nat} {x : α} (h : ∀ y ∈ l, P y) (hx : P x) : ∀ y ∈ l.set i x, P y := by
  intro y hy
  rcases List.mem_or_eq_of_mem_set hy with h' | rfl
  · exact h y h'
  · exact hx
theorem getD_size {z : Int} {ps : List ByteArray} {i : Nat} (h : ∀ s ∈ ps, (s.size : Int) = z) (hi : i < ps.length) : ((ps.getD i ByteArray.empty).size : Int) = z := by
  simp only [List.getD, List.getElem?_eq_getElem hi, Option.getD_some]
  exact h _ (List.getElem_mem _)
theorem taken_le {picks : List Int} {k : Nat} {z : Int} {s : ByteArray} (hz : 0 ≤ z) (h : (s.size : Int) = z) : (takenI picks k z).toNat ≤ s.size := by
  have := (takenI_bd picks k z hz).2
  omega
theorem crashP_sizes {picks : List Int} {z : Int} (hz : 0 ≤ z) : ∀ (l : List PW) (k : Nat) (ps : List ByteArray), (∀ s ∈ ps, (s.size : Int) = z) → (∀ x ∈ l, 0 ≤ x.page ∧ x.page < ps.length ∧ (x.data.size : Int) = z) → ∀ s ∈ crashP picks z k l ps, (s.size : Int) = z
  | [], _, _, hp, _ => hp
  | x :: r, k, ps, hp, hl => by
    obtain ⟨h1, h2, h3⟩ := hl x (by simp)
    rw [crashP]
    refine crashP_sizes hz r (k + 1) _ (mem_set_of hp ?_) (fun y hy => by have := hl y (by simp [hy]); simpa using this)
    have hg := getD_size (i := x.page.toNat) hp (by omega)
    rw [tear_size (taken_le hz h3) (by omega)]
    exact hg
theorem crash_chk {d : Dsk} (h : chk d = 0) (picks : List Int) : chk (crashD d picks) = 0 := by
  obtain ⟨h1, h2, h3, h4⟩ := chk_zero h
  have hr := rangedB_true h1
  unfold crashD
  rw [if_neg (by simp [h])]
  refine chk_mk ?_ ?_ (by simp) (by simp)
  · simpa [crashP_len] using h1
  · exact crashP_sizes (by omega) d.cache 0 d.pages h2 h3
theorem crash_len {d : Dsk} (h : chk d = 0) (picks : List Int) : (crashD d picks).pages.length = d.pages.length := by
  unfold crashD
  rw [if_neg (by simp [h])]
  exact crashP_len _ _ _
theorem crash_size {d : Dsk} (h : chk d = 0) (picks : List Int) : (crashD d picks).size = d.size := by
  unfold crashD
  rw [if_neg (by simp [h])]
theorem flush_chk {d : Dsk} (h : chk d = 0) (l : Int) (hl : -1 ≤ l) : chk ⟨d.size, contentsD d, [], l⟩ = 0 := by
  obtain ⟨h1, h2, h3, h4⟩ := chk_zero h
  refine chk_mk ?_ ?_ (by simp) hl
  · simpa [contentsD_len] using h1
  · exact contents_size h2 (fun x hx => (h3 x hx).2.2)
theorem opD_left {d : Dsk} (h : -1 ≤ d.left) : -1 ≤ (opD d).left := by unfold opD; simp only; split <;> omega
theorem write_chk {d : Dsk} (h : chk d = 0) {i : Int} {data : ByteArray} (h1 : 0 ≤ i) (h2 : i < d.pages.length) (h3 : (data.size : Int) = d.size) : chk { opD d with cache := d.cache ++ [⟨i, data⟩] } = 0 := by
  obtain ⟨g1, g2, g3, g4⟩ := chk_zero h
  refine chk_mk g1 g2 ?_ (opD_left g4)
  intro x hx
  rcases List.mem_append.1 hx with hx | hx
  · exact g3 x hx
  · obtain rfl := List.mem_singleton.1 hx
    exact ⟨h1, h2, h3⟩
theorem readD_ok {d : Dsk} (h : chk d = 0) {k : Nat} (hk : k < d.pages.length) : readD d k = (contentD d k hk, 0) := by
  unfold readD
  rw [if_neg (by simp [h]), if_neg (by omega)]
  simp [hk]

theorem flush_cases (d : Dsk) : ((flushD d).2 = 1 ∧ chk d ≠ 0 ∧ (flushD d).1 = zeroD) ∨ ((flushD d).2 = 18 ∧ chk d = 0 ∧ d.left = 0 ∧ (flushD d).1 = d) ∨ ((flushD d).2 = 0 ∧ chk d = 0 ∧ d.left ≠ 0 ∧ (flushD d).1 = ⟨d.size, contentsD d, [], (opD d).left⟩) := by
  unfold flushD
  by_cases h : chk d ≠ 0
  · simp [h]
  · by_cases h' : d.left = 0 <;> simp [h, h'] <;> simpa using h
theorem write_cases (d : Dsk) (i : Int) (data : ByteArray) : ((writeD d i data).2 ≠ 0 ∧ (writeD d i data).2 ≠ 18 ∧ (writeD d i data).1 = zeroD) ∨
    (chk d = 0 ∧ 0 ≤ i ∧ i < d.pages.length ∧ (data.size : Int) = d.size ∧ (((writeD d i data).2 = 18 ∧ d.left = 0 ∧ (writeD d i data).1 = d) ∨ ((writeD d i data).2 = 0 ∧ d.left ≠ 0 ∧ (writeD d i data).1 = { opD d with cache := d.cache ++ [⟨i, data⟩] }))) := by
  unfold writeD
  by_cases h : chk d ≠ 0
  · simp [h]
  · by_cases h1 : i < 0 ∨ (d.pages.length : Int) ≤ i
    · simp [h, h1]
    · by_cases h2 : (data.size : Int) ≠ d.size
      · rw [if_neg h, if_neg h1, if_pos h2]; simp
      · right
        refine ⟨by simpa using h, by omega, by omega, by simpa using h2, ?_⟩
        rw [if_neg h, if_neg h1, if_neg h2]
        by_cases h3 : d.left = 0 <;> simp [h3]

/-- after a Write that succeeds -/
theorem content_write {d : Dsk} {i : Int} {data : ByteArray} {k : Nat} (hk : k < d.pages.length) (e : Dsk) (he : e = { opD d with cache := d.cache ++ [⟨i, data⟩] }) (hk' : k < e.pages.length) :
    contentD e k hk' = if i = k then data else contentD d k hk := by
  subst he
  unfold contentD
  simp only [opD]
  rw [lastW_app]
  rfl
/-- after a Flush that succeeds -/
theorem content_flush {d : Dsk} {l : Int} {k : Nat} (hk : k < d.pages.length) (e : Dsk) (he : e = ⟨d.size, contentsD d, [], l⟩) (hk' : k < e.pages.length) : contentD e k hk' = contentD d k hk := by
  subst he
  simp [contentD, contentsD, lastW]

theorem crashP_nil {picks : List Int} {z : Int} {ps : List ByteArray} : crashP picks z 0 [] ps = ps := rfl
/-- after a crash -/
theorem content_crash {d : Dsk} (h : chk d = 0) (picks : List Int) {k : Nat} (hk' : k < (crashD d picks).pages.length) :
    contentD (crashD d picks) k hk' = (crashP picks d.size 0 d.cache d.pages)[k]'(by rw [crashP_len]; rwa [crash_len h] at hk') := by
  have e : crashD d picks = ⟨d.size, crashP picks d.size 0 d.cache d.pages, [], -1⟩ := by unfold crashD; rw [if_neg (by simp [h])]
  have : ∀ (e' : Dsk) (hk'' : k < e'.pages.length), e' = ⟨d.size, crashP picks d.size 0 d.cache d.pages, [], -1⟩ → contentD e' k hk'' = (crashP picks d.size 0 d.cache d.pages)[k]'(by rw [crashP_len]; rwa [crash_len h] at hk') := by
    rintro e' hk'' rfl
    simp [contentD, lastW]
  exact this _ hk' e
theorem tear_all {a b : ByteArray} (h : a.size = b.size) : tear a.size a b = a := by
  unfold tear
  have h1 : a.extract 0 a.size = a := by simp
  have h2 : b.extract a.size b.size = ByteArray.empty := by rw [h]; simp
  rw [h1, h2]; simp
theorem shareI_self {z : Int} (hz : 0 ≤ z) : shareI z z = z := by
  unfold shareI
  have : z.tmod (z + 1) = z := Int.tmod_eq_of_lt hz (by omega)
  rw [this, if_neg (by omega)]
/-- a crash with picks of Size -/
theorem crashP_whole {z : Int} (hz : 0 ≤ z) (j : Nat) : ∀ (l : List PW) (k : Nat) (ps : List ByteArray) (picks : List Int), (∀ s ∈ ps, (s.size : Int) = z) → (∀ x ∈ l, 0 ≤ x.page ∧ x.page < ps.length ∧ (x.data.size : Int) = z) →
    (∀ i, k ≤ i → i < k + l.length → picks[i]? = some z) → (hj : j < ps.length) → (crashP picks z k l ps)[j]? = some (lastW j l ps[j])
  | [], _, ps, _, _, _, _, hj => by simp [crashP, lastW, hj]
  | x :: r, k, ps, picks, hp, hl, hk, hj => by
    obtain ⟨h1, h2, h3⟩ := hl x (by simp)
    have ht : takenI picks k z = z := by
      have h := hk k (Nat.le_refl _) (by simp)
      obtain ⟨hk', e⟩ := List.getElem?_eq_some_iff.1 h
      unfold takenI
      rw [dif_pos hk', e, shareI_self hz]
    have hg := getD_size (i := x.page.toNat) hp (by omega)
    rw [crashP, ht]
    have e : z.toNat = x.data.size := by omega
    rw [e, tear_all (by omega)]
    rw [crashP_whole hz j r (k + 1) _ picks (mem_set_of hp h3) (fun y hy => by have := hl y (by simp [hy]); simpa using this) (fun i a b => hk i (by omega) (by simp; omega)) (by simpa using hj)]
    congr 1
    rw [lastW, List.getElem_set]
    congr 1
    by_cases hx : x.page = j
    · rw [if_pos (by omega), if_pos hx]
    · rw [if_neg (by omega), if_neg hx]

/-- each byte after a crash is the durable one or that of a write -/
def byteAt (s : ByteArray) (i : Nat) : UInt8 := s.data[i]?.getD 0
theorem byteAt_tear {n : Nat} {a b : ByteArray} (h : n ≤ a.size) (i : Nat) : byteAt (tear n a b) i = byteAt (if i < n then a else b) i ∨ b.size < n := by
  by_cases hb : b.size < n
  · exact .inr hb
  · left
    unfold byteAt tear
    rw [ByteArray.data_append, ByteArray.data_extract, ByteArray.data_extract]
    rw [Array.getElem?_append]
    have e1 : (a.data.extract 0 n).size = n := by simp; omega
    rw [e1]
    by_cases hi : i < n
    · rw [if_pos hi, if_pos hi, Array.getElem?_extract]
      simp
      rw [if_pos (by omega)]
    · rw [if_neg hi, if_neg hi, Array.getElem?_extract]
      simp
      have hz : b.data.size = b.size := rfl
      by_cases hib : i < b.size
      · rw [if_pos (by omega)]
        rw [show n + (i - n) = i from by omega]
      · rw [if_neg (by omega), Array.getElem?_eq_none (by omega)]
theorem crashP_from {picks : List Int} {z : Int} (hz : 0 ≤ z) (j i : Nat) : ∀ (l : List PW) (k : Nat) (ps : List ByteArray), (∀ s ∈ ps, (s.size : Int) = z) → (∀ x ∈ l, 0 ≤ x.page ∧ x.page < ps.length ∧ (x.data.size : Int) = z) → (hj : j < ps.length) →
    byteAt ((crashP picks z k l ps).getD j ByteArray.empty) i = byteAt ps[j] i ∨ ∃ x ∈ l, x.page = j ∧ byteAt ((crashP picks z k l ps).getD j ByteArray.empty) i = byteAt x.data i
  | [], _, ps, _, _, hj => by left; simp [crashP, List.getD, hj]
  | x :: r, k, ps, hp, hl, hj => by
    obtain ⟨h1, h2, h3⟩ := hl x (by simp)
    have hg := getD_size (i := x.page.toNat) hp (by omega)
    rw [crashP]
    rcases crashP_from (picks := picks) hz j i r (k + 1) (ps.set x.page.toNat (tear (takenI picks k z).toNat x.data (ps.getD x.page.toNat ByteArray.empty))) (mem_set_of hp (by rw [tear_size (taken_le hz h3) (by omega)]; exact hg)) (fun y hy => by have := hl y (by simp [hy]); simpa using this) (by simpa using hj) with h | ⟨y, hy, h⟩
    · rw [h, List.getElem_set]
      by_cases hx : x.page.toNat = j
      · rw [if_pos hx]
        have hbz : (ps.getD x.page.toNat ByteArray.empty).size = x.data.size := by omega
        rcases byteAt_tear (b := ps.getD x.page.toNat ByteArray.empty) (taken_le (picks := picks) (k := k) hz h3) i with h' | h'
        · rw [h']
          split
          · exact .inr ⟨x, by simp, by omega, rfl⟩
          · left
            rw [hx]
            simp [List.getD, hj]
        · exact absurd (taken_le (picks := picks) (k := k) hz h3) (by omega)
      · rw [if_neg hx]; exact .inl rfl
    · exact .inr ⟨y, by simp [hy], h⟩
end Go.Proofs.Ytjbcagijfodfgaa
