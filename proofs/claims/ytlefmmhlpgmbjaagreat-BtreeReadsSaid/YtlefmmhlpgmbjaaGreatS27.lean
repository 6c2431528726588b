/- Plain laws: what a list of operations makes of a valid disk. No function of the program is named here. Plain laws: headers, a loss of power (of PLaw4 .. PLaw6, without the walks that those import). No function of the program is named here. Plain laws of layer 42: a page is read again; the nodes of a tree lie in different pages; a tree in its pages is loaded. No function of the program is named here. Plain laws of layer 42: an index in good order, all of it durable (IxS): it opens as itself; a loss of power; pages that change. No function of the program is named here. -/
import Derived.Test.YtlefmmhlpgmbjaaGreatS26
import Derived.Test.YtlefmmhlpgmbjaaGreatS03
import Derived.Test.YtlefmmhlpgmbjaaGreatS05
import Derived.Test.YtlefmmhlpgmbjaaGreatS24
import Derived.Test.YtlefmmhlpgmbjaaGreatS01
namespace Go.Proofs.YtlefmmhlpgmbjaaGreat
set_option maxRecDepth 100000
open Go.RowKit
def za9 (d : Dsk) : DOp -> Prop
 | .wr i data => 0 <= i /\ i < d.pages.length /\ (data.size : Int) = d.size
 | .fl => True
theorem za9.of {d e : Dsk} {o : DOp} (h : za9 d o) (h1 : e.pages.length = d.pages.length) (h2 : e.size = d.size) : za9 e o := by
 cases o with
 | wr i data => obtain ⟨a, b, c⟩ := h; exact ⟨a, by rw [h1]; exact b, by rw [h2]; exact c⟩
 | fl => exact trivial
def Shape (d e : Dsk) : Prop := chk e = 0 /\ e.size = d.size /\ e.pages.length = d.pages.length
theorem Shape.refl {d : Dsk} (h : chk d = 0) : Shape d d := ⟨h, rfl, rfl⟩
theorem Shape.trans {a b c : Dsk} (h : Shape a b) (k : Shape b c) : Shape a c := ⟨k.1, k.2.1.trans h.2.1, k.2.2.trans h.2.2⟩
theorem zdl {d : Dsk} (h : chk d = 0) {k : Nat} (hk : k < d.pages.length) : pageL d k = (zak d k hk).data.toList := by
 unfold pageL;rw [zfT h hk]
theorem zdm {d : Dsk} {o : DOp} (h : chk d = 0) (g : za9 d o) (hl : d.left = 0) : opP d o = (d, 18) := by
 cases o with
 | wr i data => obtain ⟨a, b, c⟩ := g;unfold opP zbc;simp only;rw [if_neg (by simp [h]), if_neg (by omega), if_neg (by simp [c]), if_pos hl]
 | fl => unfold opP zbi; simp only; rw [if_neg (by simp [h]), if_pos hl]
theorem zd1 {d : Dsk} {i : Int} {data : ByteArray} (h : chk d = 0) (g : za9 d (.wr i data)) (hl : d.left ≠ 0) : opP d (.wr i data) = ({ opD d with cache := d.cache ++ [⟨i, data⟩] }, 0) := by
 obtain ⟨a, b, c⟩ := g;unfold opP zbc;simp only;rw [if_neg (by simp [h]), if_neg (by omega), if_neg (by simp [c]), if_neg hl]
theorem zcJ {d : Dsk} (h : chk d = 0) (hl : d.left ≠ 0) : opP d .fl = (⟨d.size, zaC d, [], (opD d).left⟩, 0) := by
 unfold opP zbi;simp only;rw [if_neg (by simp [h]), if_neg hl]
theorem zbe {d : Dsk} {o : DOp} (h : chk d = 0) (g : za9 d o) : Shape d (opP d o).1 := by
 by_cases hl : d.left = 0
 . rw [zdm h g hl]; exact .refl h
 .
  cases o with
  | wr i data => rw [zd1 h g hl];exact ⟨zkp h g.1 g.2.1 g.2.2, rfl, rfl⟩
  | fl => rw [zcJ h hl];exact ⟨zkB h _ (zia (zaq h).2.2.2), rfl, zbw d⟩
theorem zea {d : Dsk} {o : DOp} (h : chk d = 0) (g : za9 d o) (hl : d.left ≠ 0) {k : Nat} (hk : k < d.pages.length) :
  pageL (opP d o).1 k = match o with | .wr i data => if i = k then data.data.toList else pageL d k | .fl => pageL d k := by
 have hs := zbe h g;have hk' : k < (opP d o).1.pages.length := by rw [hs.2.2]; exact hk
 rw [zdl hs.1 hk', zdl h hk];cases o with
 | wr i data => simp only;rw [zfU hk _ (by rw [zd1 h g hl]) hk'];split <;> rfl
 | fl => simp only;rw [zfQ hk _ (by rw [zcJ h hl]) hk']
theorem zbX {d : Dsk} {ops : List DOp} (h : chk d = 0) (g : ∀ o ∈ ops, za9 d o) (hl : d.left = 0) (hne : ops ≠ []) : perfP d ops = (d, 18) := by
 cases ops with
 | nil => exact absurd rfl hne
 | cons o r => rw [perfP, zdm h (g o (by simp)) hl, if_pos (by simp)]
theorem zbV : ∀ {ops : List DOp} {d : Dsk}, chk d = 0 -> (∀ o ∈ ops, za9 d o) -> Shape d (perfP d ops).1 /\ ((perfP d ops).2 = 0 \/ (perfP d ops).2 = 18)
 | [], d, h, _ => ⟨.refl h, .inl rfl⟩
 | o :: r, d, h, g => by
  rw [perfP];have hs := zbe h (g o (by simp));split
  .
   rename_i he
   refine ⟨hs, .inr ?_⟩
   by_cases hl : d.left = 0
   . rw [zdm h (g o (by simp)) hl]
   .
    exfalso;apply he;cases o with
    | wr i data => rw [zd1 h (g _ (by simp)) hl]
    | fl => rw [zcJ h hl]
  . have := zbV (ops := r) hs.1 (fun o' ho' => (g o' (by simp [ho'])).of hs.2.2 hs.2.1);exact ⟨hs.trans this.1, this.2⟩
theorem zct : ∀ (a b : List DOp) (d : Dsk), perfP d (a ++ b) = if (perfP d a).2 ≠ 0 then perfP d a else perfP (perfP d a).1 b
 | [], b, d => by simp [perfP]
 | o :: r, b, d => by
  rw [List.cons_append, perfP, perfP, zct r b]
  by_cases h : (opP d o).2 ≠ 0
  . rw [if_pos h, if_pos h, if_pos h]
  . rw [if_neg h, if_neg h]
theorem zcq {d : Dsk} {o : DOp} {r : List DOp} (h : (opP d o).2 = 0) : perfP d (o :: r) = perfP (opP d o).1 r := by rw [perfP, if_neg (by simp [h])]
theorem zdc : ∀ {ops : List DOp} {d : Dsk} {k : Nat}, chk d = 0 -> (∀ o ∈ ops, za9 d o) -> k < d.pages.length -> (∀ i data, DOp.wr i data ∈ ops -> i ≠ k) -> pageL (perfP d ops).1 k = pageL d k
 | [], _, _, _, _, _, _ => rfl
 | o :: r, d, k, h, g, hk, hn => by
  have hs := zbe h (g o (by simp));have hp : pageL (opP d o).1 k = pageL d k := by
   by_cases hl : d.left = 0
   . rw [zdm h (g o (by simp)) hl]
   .
    rw [zea h (g o (by simp)) hl hk];cases o with
    | wr i data => exact if_neg (hn i data (by simp))
    | fl => rfl
  rw [perfP];split
  . exact hp
  . rw [zdc (ops := r) hs.1 (fun o' ho' => (g o' (by simp [ho'])).of hs.2.2 hs.2.1) (by rw [hs.2.2]; exact hk) (fun i data hm => hn i data (by simp [hm]))];exact hp
theorem zeb : ∀ {ops : List DOp} {d : Dsk} {k : Nat} {D : List UInt8}, chk d = 0 -> (∀ o ∈ ops, za9 d o) -> k < d.pages.length -> (perfP d ops).2 = 0 -> (∀ i data, DOp.wr i data ∈ ops -> i = k -> data.data.toList = D) ->
  (pageL d k = D \/ ∃ i data, DOp.wr i data ∈ ops /\ i = k) -> pageL (perfP d ops).1 k = D
 | [], d, k, D, _, _, _, _, _, h => by
  rcases h with h | ⟨i, data, h, _⟩
  . exact h
  . cases h
 | o :: r, d, k, D, h, g, hk, he, hn, hh => by
  have hl : d.left ≠ 0 := by intro hl;rw [zbX h g hl (by simp)] at he;cases he
  have hs := zbe h (g o (by simp));have he0 : (opP d o).2 = 0 := by
   cases o with
   | wr i data => rw [zd1 h (g _ (by simp)) hl]
   | fl => rw [zcJ h hl]
  rw [zcq he0] at he |-;refine zeb hs.1 (fun o' ho' => (g o' (by simp [ho'])).of hs.2.2 hs.2.1) (by rw [hs.2.2]; exact hk) he (fun i data hm => hn i data (by simp [hm])) ?_;rw [zea h (g o (by simp)) hl hk];cases o with
  | wr i data =>
   simp only
   by_cases hi : i = k
   . rw [if_pos hi]; exact .inl (hn i data (by simp) hi)
   .
    rw [if_neg hi];refine hh.imp id ?_;rintro ⟨i', data', hm, e⟩;rcases zmC.1 hm with hm | hm
    . exact absurd (by cases hm; exact e) hi
    . exact ⟨i', data', hm, e⟩
  | fl =>
   refine hh.imp id ?_;rintro ⟨i', data', hm, e⟩;rcases zmC.1 hm with hm | hm
   . cases hm
   . exact ⟨i', data', hm, e⟩
abbrev wrO (x : PW) : DOp := .wr x.page x.data
theorem zh0 : ∀ (ws : List PW) {d : Dsk}, chk d = 0 -> (∀ x ∈ ws, za9 d (wrO x)) ->
  (∃ j, j <= ws.length /\ (perfP d (ws.map wrO)).1.cache = d.cache ++ ws.take j /\ (perfP d (ws.map wrO)).1.pages = d.pages /\
   (((perfP d (ws.map wrO)).2 = 0 /\ j = ws.length /\ (d.left = -1 -> (perfP d (ws.map wrO)).1.left = -1)) \/ ((perfP d (ws.map wrO)).2 = 18 /\ (perfP d (ws.map wrO)).1.left = 0 /\ d.left ≠ -1)))
 | [], d, _, _ => ⟨0, by simp, by simp [perfP], rfl, .inl ⟨rfl, rfl, fun h => h⟩⟩
 | x :: r, d, h, g => by
  by_cases hl : d.left = 0
  . rw [zbX h (fun o ho => by obtain ⟨y, hy, rfl⟩ := List.mem_map.1 ho; exact g y hy) hl (by simp)];exact ⟨0, by simp, by simp, rfl, .inr ⟨rfl, hl, by omega⟩⟩
  .
   have hg := g x (by simp);have hs := zbe h hg;have he := zd1 h hg hl;obtain ⟨j, hj, h1, h2, h3⟩ := zh0 r hs.1 (fun y hy => (g y (by simp [hy])).of hs.2.2 hs.2.1);rw [List.map_cons, zcq (by rw [he])];have hc : (opP d (wrO x)).1.cache = d.cache ++ [x] := by rw [he]
   have hp : (opP d (wrO x)).1.pages = d.pages := by rw [he]; rfl
   have hL : (opP d (wrO x)).1.left = (opD d).left := by rw [he]
   refine ⟨j + 1, by simpa using hj, by rw [h1, hc]; simp, h2.trans hp, ?_⟩;rw [hL] at h3;have hl' : d.left = -1 ↔ (opD d).left = -1 := by have := (zaq h).2.2.2;unfold opD;simp only;split <;> omega
   rcases h3 with ⟨a, b, c⟩ | ⟨a, b, c⟩
   . exact .inl ⟨a, by simp [b], fun e => c (hl'.1 e)⟩
   . exact .inr ⟨a, b, fun e => c (hl'.1 e)⟩
theorem zeS {n : Nat} (h : n <= 1099511627776) : be (num8 n) = n := by
 unfold be num8;simp only [List.foldl_cons, List.foldl_nil, UInt8.toNat_ofNat'];omega
theorem zdi (n : Nat) : (num8 n).length = 8 := rfl
theorem zbs {z v n : Nat} (hz : 24 <= z) : (hdrL z v n).length = z := by unfold hdrL; simp [zdi]; omega
theorem zir (z v n : Nat) : (hdrL z v n).take 8 = num8 v := by
 unfold hdrL;rw [List.append_assoc, List.append_assoc];exact List.take_left' (zdi v)
theorem zml (z v n : Nat) : ((hdrL z v n).drop 8).take 8 = num8 n := by
 unfold hdrL;rw [List.append_assoc, List.append_assoc, List.drop_left' (zdi v)];exact List.take_left' (zdi n)
theorem zeQ {z v n : Nat} (hz : 24 <= z) : (hdrL z v n).drop (z - 8) = num8 v := by
 unfold hdrL;exact List.drop_left' (by simp [zdi]; omega)
theorem zmv {z V n k : Nat} {a : Int} (hz : 24 <= z) (h1 : 1 <= V) (h2 : V <= 1099511627776) (h3 : V % 2 = k) (h4 : (n : Int) <= a) (h5 : n <= 1099511627776) : hdrP (hdrL z V n) k a = some (V, n) := by
 unfold hdrP;rw [zir, zml, zeS h2, zeS h5, zbs hz, if_pos ⟨h1, h2, h3, h4, h5, rfl⟩]
def OldH (z V : Nat) (p : List UInt8) : Prop := p.length = z /\ p.take 7 = List.replicate 7 0 /\ (p.drop (z - 8)).take 7 = List.replicate 7 0 /\ (p.getD (z - 1) 0).toNat < V
theorem zdB {v : Nat} (h : v < 256) : num8 v = List.replicate 7 0 ++ [UInt8.ofNat v] := by
 unfold num8;rw [Nat.div_eq_of_lt (by omega), Nat.div_eq_of_lt (by omega), Nat.div_eq_of_lt (by omega), Nat.div_eq_of_lt (by omega), Nat.div_eq_of_lt (by omega), Nat.div_eq_of_lt (by omega), Nat.div_eq_of_lt h];rfl
theorem getD_drop {p : List UInt8} {a j : Nat} : (p.drop a).getD j 0 = p.getD (a + j) 0 := by simp [List.getD]
theorem zlN {z V k v n : Nat} {a : Int} {p : List UInt8} (hz : 24 <= z) (h : OldH z V p) (hp : hdrP p k a = some (v, n)) : v < V := by
 obtain ⟨h1, h2, h3, h4⟩ := h;obtain ⟨q1, q2, q3, q4, q5, q6, q7, q8⟩ := zka hp;have e8 : p.take 8 = num8 v := by rw [q8, zir]
 have e7 : (num8 v).take 7 = List.replicate 7 0 := by rw [<- e8, List.take_take]; exact h2
 have hv : v < 256 := by
  have hb : be (num8 v) = v := zeS q4;have hs : num8 v = (num8 v).take 7 ++ [UInt8.ofNat v] := rfl;rw [hs, e7] at hb;have hc : be (List.replicate 7 0 ++ [UInt8.ofNat v]) = (UInt8.ofNat v).toNat := by simp [be, List.replicate]
  rw [hc, UInt8.toNat_ofNat'] at hb;omega
 have et : p.drop (z - 8) = num8 v := by rw [q8, h1, zeQ hz]
 have : p.getD (z - 1) 0 = UInt8.ofNat v := by have := getD_drop (p := p) (a := z - 8) (j := 7);rw [et, show z - 8 + 7 = z - 1 by omega] at this;rw [<- this];rfl
 rw [this, UInt8.toNat_ofNat'] at h4;omega
theorem zkw {z V n : Nat} (hz : 24 <= z) (hV : V < 256) : OldH z (V + 1) (hdrL z V n) := by
 refine ⟨zbs hz, ?_, ?_, ?_⟩
 .
  have : (hdrL z V n).take 7 = ((hdrL z V n).take 8).take 7 := by rw [List.take_take, Nat.min_eq_left (by omega)]
  rw [this, zir, zdB hV]; rfl
 . rw [zeQ hz, zdB hV]; rfl
 . have := getD_drop (p := hdrL z V n) (a := z - 8) (j := 7);rw [zeQ hz, show z - 8 + 7 = z - 1 by omega, zdB hV] at this;rw [<- this];simp [List.replicate];omega
theorem zli {z V : Nat} (hz : 24 <= z) (hV : 1 <= V) : OldH z V (List.replicate z 0) := by
 refine ⟨by simp, ?_, ?_, ?_⟩
 . rw [List.take_replicate, Nat.min_eq_left (by omega)]
 . rw [List.drop_replicate, List.take_replicate, Nat.min_eq_left (by omega)]
 .
  have : (List.replicate z (0 : UInt8)).getD (z - 1) 0 = 0 := by rw [List.getD, List.getElem?_replicate, if_pos (by omega)]; rfl
  rw [this];exact hV
theorem zl4 {z V n t : Nat} {p : List UInt8} (hz : 24 <= z) (hV : V < 255) (hp : OldH z V p) : OldH z V ((hdrL z (V + 1) n).take t ++ p.drop t) \/ z <= t := by
 rcases Nat.lt_or_ge t z with h | h
 .
  left;obtain ⟨h1, h2, h3, h4⟩ := hp;have hl := zbs (v := V + 1) (n := n) hz;have hq : ∀ j, ((hdrL z (V + 1) n).take t ++ p.drop t)[j]? = if j < t then (hdrL z (V + 1) n)[j]? else p[j]? := by
   intro j;have e1 : ((hdrL z (V + 1) n).take t).length = t := by rw [List.length_take]; omega
   by_cases hj : j < t
   . rw [if_pos hj, List.getElem?_append_left (by omega), List.getElem?_take, if_pos hj]
   . rw [if_neg hj, List.getElem?_append_right (by omega), List.getElem?_drop];congr 1;omega
  obtain ⟨g1, g2, g3, g4⟩ := zkw (n := n) hz (V := V + 1) (by omega);refine ⟨by simp; omega, ?_, ?_, ?_⟩
  .
   apply List.ext_getElem?;intro j;rw [List.getElem?_take]
   by_cases hj : j < 7
   .
    rw [if_pos hj, hq];have a1 := congrArg (fun l : List UInt8 => l[j]?) h2;have a2 := congrArg (fun l : List UInt8 => l[j]?) g2;simp only [List.getElem?_take, if_pos hj] at a1 a2;split
    . exact a2
    . exact a1
   . rw [if_neg hj, List.getElem?_eq_none (by simp; omega)]
  .
   apply List.ext_getElem?;intro j;rw [List.getElem?_take]
   by_cases hj : j < 7
   .
    rw [if_pos hj, List.getElem?_drop, hq];have a1 := congrArg (fun l : List UInt8 => l[j]?) h3;have a2 := congrArg (fun l : List UInt8 => l[j]?) g3;simp only [List.getElem?_take, if_pos hj, List.getElem?_drop] at a1 a2;split
    . exact a2
    . exact a1
   . rw [if_neg hj, List.getElem?_eq_none (by simp; omega)]
  .
   have e : ((hdrL z (V + 1) n).take t ++ p.drop t).getD (z - 1) 0 = p.getD (z - 1) 0 := by unfold List.getD;rw [hq, if_neg (by omega)]
   rw [e];exact h4
 . exact .inr h
theorem ziw {x y : Option (Nat × Nat)} {V n : Nat} (h : (x = some (V, n) /\ ∀ p, y = some p -> p.1 < V) \/ (y = some (V, n) /\ ∀ p, x = some p -> p.1 < V)) : pickH x y = (V, n) := by
 rcases h with ⟨rfl, h⟩ | ⟨rfl, h⟩
 .
  cases y with
  | none => rfl
  | some p => have := h p rfl; simp [pickH]; omega
 .
  cases x with
  | none => rfl
  | some p => have := h p rfl; simp [pickH]; omega
theorem zeg {d : Dsk} (h : chk d = 0) (he : d.cache = []) {k : Nat} (hk : k < d.pages.length) : pageL d k = d.pages[k].data.toList := by
 rw [zdl h hk];unfold zak;rw [he];rfl
theorem zcc {d : Dsk} (h : chk d = 0) (picks : List Int) : Shape d (zaM d picks) := ⟨zjZ h picks, zi8 h picks, zeB h picks⟩
theorem zc4 {d : Dsk} (h : chk d = 0) (picks : List Int) : (zaM d picks).cache = [] := by unfold zaM; rw [if_neg (by simp [h])]
theorem zdE {d : Dsk} (h : chk d = 0) (picks : List Int) {k : Nat} (hk : k < d.pages.length) : pageL (zaM d picks) k = ((zbj picks d.size 0 d.cache d.pages).getD k ByteArray.empty).data.toList := by
 have hs := zcc h picks;have hk' : k < (zaM d picks).pages.length := by rw [hs.2.2]; exact hk
 rw [zdl hs.1 hk', zfL h picks hk'];congr 2;rw [List.getD, List.getElem?_eq_getElem (by rw [zbk]; exact hk)];rfl
theorem zj7 (n : Nat) (a b : ByteArray) : (tear n a b).data.toList = a.data.toList.take n ++ b.data.toList.drop n := by
 unfold tear;rw [ByteArray.data_append, Array.toList_append, zcw, zcw, List.drop_zero, Nat.sub_zero, List.take_of_length_le (l := b.data.toList.drop n) (by rw [List.length_drop, zcx]; exact Nat.le_refl _)]
theorem zfn {s : ByteArray} {b : Nat} (h : b < s.size) : s.data.toList[b]? = some (zch s b) := by
 have hb : b < s.data.size := h;unfold zch;rw [Array.getElem?_toList, Array.getElem?_eq_getElem hb];rfl
theorem zlQ {a b : ByteArray} (hs : a.size = b.size) (h : ∀ i, zch a i = zch b i) : a.data.toList = b.data.toList := by
 apply List.ext_getElem?;intro i
 by_cases hi : i < a.size
 . rw [zfn hi, zfn (by omega), h]
 . rw [List.getElem?_eq_none (by rw [zcx]; omega), List.getElem?_eq_none (by rw [zcx]; omega)]
theorem zfk : ∀ (ops : List DOp) {d : Dsk}, chk d = 0 -> (∀ o ∈ ops, za9 d o) -> d.left = -1 -> (perfP d ops).2 = 0 /\ (perfP d ops).1.left = -1
 | [], _, _, _, hl => ⟨rfl, hl⟩
 | o :: r, d, h, g, hl => by
  have hs := zbe h (g o (by simp));have h1 : (opP d o).2 = 0 /\ (opP d o).1.left = -1 := by
   have h2 : (opD d).left = -1 := by unfold opD; simp only; rw [if_neg (by omega)]; exact hl
   cases o with
   | wr i data => rw [zd1 h (g _ (by simp)) (by omega)]; exact ⟨rfl, h2⟩
   | fl => rw [zcJ h (by omega)]; exact ⟨rfl, h2⟩
  rw [zcq h1.1];exact zfk r hs.1 (fun o' ho' => (g o' (by simp [ho'])).of hs.2.2 hs.2.1) h1.2
theorem znq {p s : Int} (h : zaU p s = true) : (newD p s).2 = 0 /\ (newD p s).1.left = -1 /\ (newD p s).1.cache = [] /\ chk (newD p s).1 = 0 /\ (newD p s).1.size = s /\ ((newD p s).1.pages.length : Int) = p := by
 have hr := zag h;unfold newD;rw [if_pos h];refine ⟨rfl, rfl, rfl, ?_, rfl, by simp; omega⟩;have hp : ((p.toNat : Nat) : Int) = p := by omega
 refine ziN (by simp only [List.length_replicate, hp]; exact h) ?_ (by simp) (by simp);intro x hx;simp only [List.mem_replicate] at hx;rw [hx.2];simp [ByteArray.size];omega
theorem zfF {s : ByteArray} (h : s.size <= 255) (r : List UInt8) : textP (textL s ++ r) = some (s.data.toList, r) := by
 have hs : (UInt8.ofNat s.size).toNat = s.size := by rw [UInt8.toNat_ofNat']; omega
 have hl : s.data.toList.length = s.size := zcx s;unfold textL;rw [List.cons_append, textP, hs, if_neg (by rw [zlA]; omega), List.take_left' hl, List.drop_left' hl]
theorem zlF {p : Kv} (h : KvOk p) (r : List UInt8) : pairP (kvT p ++ r) = some (p, r) := by
 obtain ⟨h1, h2⟩ := h;unfold pairP kvT;rw [List.append_assoc, zfF (by omega)];simp only;rw [zfF (by omega)];simp only;rw [if_neg (by rw [zcx, zcx]; omega), bs_of, bs_of]
theorem zdt : ∀ {ps : List Kv}, (∀ p ∈ ps, KvOk p) -> ∀ r : List UInt8, leafP ps.length ((ps.map kvT).flatten ++ r) = some ps
 | [], _, _ => rfl
 | p :: ps, h, r => by rw [zlC, leafP, List.map_cons, List.flatten_cons, List.append_assoc, zlF (h p (by simp))];simp only;rw [zdt (fun x hx => h x (by simp [hx])) r];rfl
def PgS (p : Int) : Prop := 0 <= p /\ p < 65536
theorem zi5 (a b : UInt8) (s : List UInt8) (i : Nat) : kidPg (a :: b :: s) (i + 1) = kidPg s i := by
 unfold kidPg;rw [show 2 * (i + 1) = 2 * i + 1 + 1 by omega];simp [List.getD]
theorem zjc {p : Int} (h : PgS p) (s : List UInt8) : kidPg (pageB p ++ s) 0 = p := by
 unfold kidPg pageB PgS at *;simp [List.getD];omega
theorem zcI : ∀ {l : List Int}, (∀ p ∈ l, PgS p) -> ∀ r : List UInt8, zar ((l.map pageB).flatten ++ r) l.length = l
 | [], _, _ => rfl
 | p :: l, h, r => by
  unfold zar;rw [zlC, List.range_succ_eq_map, List.map_cons, List.map_map, List.map_cons, List.flatten_cons, List.append_assoc, zjc (h p (by simp))];congr 1;have ih := zcI (fun x hx => h x (by simp [hx])) r (l := l);unfold zar at ih
  conv => rhs; rw [<- ih]
  refine List.map_congr_left fun i _ => ?_;show kidPg (pageB p ++ _) (i + 1) = _;exact zi5 _ _ _ _
theorem ziS (a b : UInt8) (l : List UInt8) : ∃ z, padZ (a :: b :: l) = a :: b :: (l ++ List.replicate z 0) := ⟨_, rfl⟩
theorem zgm {n : Nd} (h : n.kids = []) : ∃ z, encD n = 76 :: UInt8.ofNat n.ps.length :: ((n.ps.map kvT).flatten ++ List.replicate z 0) := by
 unfold encD encL;rw [if_pos h];exact ziS _ _ _
theorem zfW {n : Nd} (h : n.kids ≠ []) : ∃ z, encD n = 78 :: UInt8.ofNat n.kids.length :: (((n.kids.map Nd.page).map pageB).flatten ++ ((n.kids.tail.map fun k => textL k.least).flatten ++ List.replicate z 0)) := by
 unfold encD encL;rw [if_neg h];obtain ⟨z, hz⟩ := ziS 78 (UInt8.ofNat n.kids.length) ((n.kids.map fun k => pageB k.page).flatten ++ (n.kids.tail.map fun k => textL k.least).flatten);refine ⟨z, ?_⟩;show padZ (78 :: UInt8.ofNat n.kids.length :: _) = _;rw [hz, List.append_assoc, List.map_map];rfl
theorem u8n {n : Nat} (h : n <= 255) : (UInt8.ofNat n).toNat = n := by rw [UInt8.toNat_ofNat']; omega
theorem zkv {a b : Nd} (ha : Shp a) (hb : Shp b) (pa : ∀ k ∈ a.kids, PgS k.page) (pb : ∀ k ∈ b.kids, PgS k.page) (h : encD a = encD b) : a.ps = b.ps /\ a.kids.map Nd.page = b.kids.map Nd.page := by
 cases ha with
 | lf ps pg h1 h3 hk =>
  obtain ⟨z, ez⟩ := zgm (n := .mk ps [] pg) rfl;rw [ez] at h;cases hb with
  | lf ps' pg' h1' h3' hk' => obtain ⟨z', ez'⟩ := zgm (n := .mk ps' [] pg') rfl;rw [ez'] at h;simp only [Nd.ps, List.cons.injEq, true_and] at h;obtain ⟨e1, e2⟩ := h;have e3 := congrArg UInt8.toNat e1;rw [u8n (by omega), u8n (by omega)] at e3;have g1 := zdt hk (List.replicate z 0);have g2 := zdt hk' (List.replicate z' 0);rw [e2, e3, g2] at g1;exact ⟨(Option.some.inj g1).symm, rfl⟩
  | inn kids' pg' h2' h8' hk' =>
   have hne : (Nd.mk [] kids' pg').kids ≠ [] := fun e => by rw [show (Nd.mk [] kids' pg').kids = kids' from rfl] at e; rw [e] at h2'; simp at h2'
   obtain ⟨z', ez'⟩ := zfW hne;rw [ez'] at h;simp at h
 | inn kids pg h2 h8 hk =>
  have hne : (Nd.mk [] kids pg).kids ≠ [] := fun e => by rw [show (Nd.mk [] kids pg).kids = kids from rfl] at e; rw [e] at h2; simp at h2
  obtain ⟨z, ez⟩ := zfW hne;rw [ez] at h;cases hb with
  | lf ps' pg' h1' h3' hk' => obtain ⟨z', ez'⟩ := zgm (n := .mk ps' [] pg') rfl;rw [ez'] at h;simp at h
  | inn kids' pg' h2' h8' hk' =>
   have hne' : (Nd.mk [] kids' pg').kids ≠ [] := fun e => by rw [show (Nd.mk [] kids' pg').kids = kids' from rfl] at e; rw [e] at h2'; simp at h2'
   obtain ⟨z', ez'⟩ := zfW hne';rw [ez'] at h;simp only [Nd.kids, List.cons.injEq, true_and] at h pa pb |-;obtain ⟨e1, e2⟩ := h;have e3 := congrArg UInt8.toNat e1;rw [u8n (by omega), u8n (by omega)] at e3;have g1 := zcI (l := kids.map Nd.page) (fun p hp => by obtain ⟨k, hk, rfl⟩ := List.mem_map.1 hp; exact pa k hk) ((kids.tail.map fun k => textL k.least).flatten ++ List.replicate z 0);have g2 := zcI (l := kids'.map Nd.page) (fun p hp => by obtain ⟨k, hk, rfl⟩ := List.mem_map.1 hp; exact pb k hk) ((kids'.tail.map fun k => textL k.least).flatten ++ List.replicate z' 0);rw [List.length_map] at g1 g2;rw [e2, e3, g2] at g1;exact ⟨rfl, g1.symm⟩
theorem zbm (n : Nd) : n ∈ n.pre := by rw [Nd.pre_eq]; simp
theorem zcn {n k m : Nd} (hk : k ∈ n.kids) (hm : m ∈ k.pre) : m ∈ n.pre := by
 rw [Nd.pre_eq];exact List.mem_cons_of_mem _ (List.mem_flatten.2 ⟨_, List.mem_map.2 ⟨k, hk, rfl⟩, hm⟩)
theorem zh8 {n m : Nd} (h : m ∈ n.pre) : m = n \/ ∃ k ∈ n.kids, m ∈ k.pre := by
 rw [Nd.pre_eq] at h;rcases zmC.1 h with h | h
 . exact .inl h
 . obtain ⟨q, hq, hm⟩ := List.mem_flatten.1 h;obtain ⟨k, hk, rfl⟩ := List.mem_map.1 hq;exact .inr ⟨k, hk, hm⟩
theorem zhn : ∀ {n m c : Nd}, m ∈ n.pre -> c ∈ m.pre -> c ∈ n.pre := by
 intro n
 induction n using Nd.ind with
 | h ps kids page ih =>
  intro m c hm hc;rcases zh8 hm with rfl | ⟨k, hk, hm⟩
  . exact hc
  . exact zcn hk (ih k hk hm hc)
theorem zlz : ∀ {n m : Nd}, m ∈ n.pre -> SizeOf.sizeOf m <= SizeOf.sizeOf n := by
 intro n
 induction n using Nd.ind with
 | h ps kids page ih =>
  intro m hm;rcases zh8 hm with rfl | ⟨k, hk, hm⟩
  . exact Nat.le_refl _
  . exact znT (ih k hk hm) (Nat.le_of_lt (Nd.kid_lt hk))
theorem zkL : ∀ {n m : Nd}, m ∈ n.pre -> m.prs.Sublist n.prs := by
 intro n
 induction n using Nd.ind with
 | h ps kids page ih =>
  intro m hm;rcases zh8 hm with rfl | ⟨k, hk, hm⟩
  . exact List.Sublist.refl _
  . have hne : (Nd.mk ps kids page).kids ≠ [] := List.ne_nil_of_mem hk;rw [Nd.prs_inner hne];exact (ih k hk hm).trans (List.sublist_flatten_of_mem (List.mem_map.2 ⟨k, hk, rfl⟩))
theorem zfH : ∀ {n m : Nd}, Shp n -> m ∈ n.pre -> Shp m := by
 intro n
 induction n using Nd.ind with
 | h ps kids page ih =>
  intro m hs hm;rcases zh8 hm with rfl | ⟨k, hk, hm⟩
  . exact hs
  . exact ih k hk (hs.kid k hk) hm
theorem Shp.prs_ne : ∀ {n : Nd}, Shp n -> n.prs ≠ [] := by
 intro n
 induction n using Nd.ind with
 | h ps kids page ih =>
  intro h;cases h with
  | lf _ _ h1 h3 hk => rw [Nd.prs_leaf rfl]; intro e; rw [show Nd.ps (.mk ps [] page) = ps from rfl] at e; rw [e] at h1; simp at h1
  | inn _ _ h2 h8 hk =>
   cases kids with
   | nil => simp at h2
   | cons k r => rw [Nd.prs_inner (by simp [Nd.kids])];simp only [Nd.kids, List.map_cons, List.flatten_cons];intro e;exact ih k (by simp) (hk k (by simp)) (List.append_eq_nil_iff.1 e).1
theorem zk9 {l m : List Kv} (h : Asc (l ++ m)) {p : Kv} (h1 : p ∈ l) (h2 : p ∈ m) : False := by
 have := (Asc.app.1 h).2.2 p h1 p h2;rw [zcy] at this;cases this
theorem zkt : ∀ {n : Nd}, Shp n -> Asc n.prs -> n.pre.Nodup := by
 intro n
 induction n using Nd.ind with
 | h ps kids page ih =>
  intro hs ha;rw [Nd.pre_eq, List.nodup_cons];refine ⟨fun hm => ?_, ?_⟩
  . obtain ⟨q, hq, hm⟩ := List.mem_flatten.1 hm;obtain ⟨k, hk, rfl⟩ := List.mem_map.1 hq;have h1 := zlz hm;have h2 := Nd.kid_lt hk;omega
  .
   by_cases hne : kids = []
   . subst hne; exact List.nodup_nil
   .
    rw [Nd.prs_inner (n := .mk ps kids page) hne] at ha;have key : ∀ l : List Nd, (∀ k ∈ l, k ∈ kids) -> Asc (l.map Nd.prs).flatten -> (l.map Nd.pre).flatten.Nodup := by
     intro l
     induction l with
     | nil => intro _ _; exact List.nodup_nil
     | cons k l ihl => intro hl hal;rw [List.map_cons, List.flatten_cons] at hal |-;have hk := hl k (by simp);have h3 := Asc.app.1 hal;refine List.nodup_append.2 ⟨ih k hk (hs.kid k hk) h3.1, ihl (fun x hx => hl x (by simp [hx])) h3.2.1, fun a ha b hb e => ?_⟩;subst e;obtain ⟨q, hq, hm⟩ := List.mem_flatten.1 hb;obtain ⟨k', hk', rfl⟩ := List.mem_map.1 hq;have hsa := zfH (hs.kid k hk) ha;obtain ⟨p, hp⟩ := List.exists_mem_of_ne_nil _ hsa.prs_ne;exact zk9 hal ((zkL ha).subset hp) (List.mem_flatten.2 ⟨_, List.mem_map.2 ⟨k', hk', rfl⟩, (zkL hm).subset hp⟩)
    exact key kids (fun k hk => hk) ha
def OnC (C : Int -> List UInt8) (n : Nd) : Prop := ∀ m ∈ n.pre, C m.page = encD m /\ PgS m.page
theorem OnC.kid {C : Int -> List UInt8} {n k : Nd} (h : OnC C n) (hk : k ∈ n.kids) : OnC C k := fun m hm => h m (zcn hk hm)
theorem OnC.sub {C : Int -> List UInt8} {n k : Nd} (h : OnC C n) (hk : k ∈ n.pre) : OnC C k := fun m hm => h m (zhn hk hm)
theorem OnC.kids {C : Int -> List UInt8} {n : Nd} (h : OnC C n) : ∀ k ∈ n.kids, PgS k.page := fun k hk => (h k (zcn hk (zbm k))).2
theorem zm8 {C : Int -> List UInt8} : ∀ {a b : Nd}, Shp a -> Shp b -> OnC C a -> OnC C b -> encD a = encD b -> a.ps = b.ps /\ a.kids = b.kids := by
 intro a
 induction a using Nd.ind with
 | h ps kids page ih =>
  intro b ha hb oa ob he;obtain ⟨e1, e2⟩ := zkv ha hb oa.kids ob.kids he;refine ⟨e1, ?_⟩;have key : ∀ l m : List Nd, (∀ k ∈ l, k ∈ kids) -> (∀ k ∈ m, k ∈ b.kids) -> l.map Nd.page = m.map Nd.page -> l = m := by
   intro l
   induction l with
   | nil =>
    intro m _ _ e;cases m with
    | nil => rfl
    | cons x m => simp at e
   | cons k l ihl =>
    intro m hl hm e;cases m with
    | nil => simp at e
    | cons c m =>
     rw [List.map_cons, List.map_cons, List.cons.injEq] at e;have hk := hl k (by simp);have hc := hm c (by simp);have h1 := (oa k (zcn (n := .mk ps kids page) hk (zbm k))).1;have h2 := (ob c (zcn hc (zbm c))).1;rw [e.1] at h1;obtain ⟨g1, g2⟩ := ih k hk (ha.kid k hk) (hb.kid c hc) (oa.kid (n := .mk ps kids page) hk) (ob.kid hc) (h1.symm.trans h2);have : k = c := by rw [<- Nd.eta k, <- Nd.eta c, g1, g2, e.1]
     rw [this, ihl m (fun x hx => hl x (by simp [hx])) (fun x hx => hm x (by simp [hx])) e.2]
  exact key kids b.kids (fun k hk => hk) (fun k hk => hk) e2
theorem zk7 {C : Int -> List UInt8} {a b : Nd} (ha : Shp a) (hb : Shp b) (oa : OnC C a) (ob : OnC C b) (he : a.page = b.page) : a = b := by
 have h1 := (oa a (zbm a)).1;have h2 := (ob b (zbm b)).1;rw [he] at h1;obtain ⟨g1, g2⟩ := zm8 ha hb oa ob (h1.symm.trans h2);rw [<- Nd.eta a, <- Nd.eta b, g1, g2, he]
theorem zcm {α β : Type} {f : α -> β} : ∀ {l : List α}, l.Nodup -> (∀ a ∈ l, ∀ b ∈ l, f a = f b -> a = b) -> (l.map f).Nodup
 | [], _, _ => List.nodup_nil
 | x :: l, h, hi => by obtain ⟨h1, h2⟩ := List.nodup_cons.1 h;rw [List.map_cons, List.nodup_cons];refine ⟨fun hm => ?_, zcm h2 fun a ha b hb e => hi a (by simp [ha]) b (by simp [hb]) e⟩;obtain ⟨y, hy, e⟩ := List.mem_map.1 hm;have := hi y (by simp [hy]) x (by simp) e;subst this;exact h1 hy
theorem zhZ {C : Int -> List UInt8} {n : Nd} (hs : Shp n) (ha : Asc n.prs) (o : OnC C n) : (n.pre.map Nd.page).Nodup :=
 zcm (zkt hs ha) fun _ h1 _ h2 e => zk7 (zfH hs h1) (zfH hs h2) (o.sub h1) (o.sub h2) e
theorem ziP {g : Int -> List Int -> Option (Nd × List Int)} : ∀ {l : List Nd} {u : List Int}, (∀ k ∈ l, ∀ u, (∀ m ∈ k.pre, m.page ∉ u) -> g k.page u = some (k, u ++ k.pre.map Nd.page)) -> ((l.map Nd.pre).flatten.map Nd.page).Nodup -> (∀ m ∈ (l.map Nd.pre).flatten, m.page ∉ u) ->
  kidsW g (l.map Nd.page) u = some (l, u ++ (l.map Nd.pre).flatten.map Nd.page)
 | [], u, _, _, _ => by simp [kidsW]
 | k :: l, u, hg, hn, hd => by
  rw [List.map_cons, List.flatten_cons, List.map_append] at hn;obtain ⟨n1, n2, n3⟩ := List.nodup_append.1 hn;rw [List.map_cons, kidsW, hg k (by simp) u fun m hm => hd m (by simp [hm])];simp only;rw [ziP (fun c hc => hg c (by simp [hc])) n2 fun m hm h => by
   rcases zmA.1 h with h | h
   . exact hd m (by rw [List.map_cons, List.flatten_cons]; exact List.mem_append_right _ hm) h
   . exact n3 _ h _ (List.mem_map.2 ⟨m, hm, rfl⟩) rfl]
  simp
theorem zkV {d : Dsk} {frm til : Int} (h0 : 0 <= frm) (h1 : til <= 65536) : ∀ (f : Nat) {n : Nd} {used : List Int}, n.pre.length <= f -> Shp n -> (∀ m ∈ n.pre, frm + 2 <= m.page /\ m.page < til /\ pageL d m.page = encD m) -> (n.pre.map Nd.page).Nodup -> (∀ m ∈ n.pre, m.page ∉ used) ->
  loadR d frm til f n.page used = some (n, used ++ n.pre.map Nd.page)
 | 0, n, _, hf, _, _, _, _ => by rw [Nd.pre_eq] at hf; simp at hf
 | f + 1, n, used, hf, hs, hp, hn, hu => by
  obtain ⟨p1, p2, p3⟩ := hp n (zbm n);rw [loadR, if_neg (by
   rintro (h | h | h)
   . omega
   . omega
   . exact hu n (zbm n) h), p3]
  cases hs with
  | lf ps pg g1 g3 hk =>
   obtain ⟨z, ez⟩ := zgm (n := .mk ps [] pg) rfl;have e0 : (encD (.mk ps [] pg)).getD 0 0 = 76 := by rw [ez]; rfl
   have e1 : ((encD (.mk ps [] pg)).getD 1 0).toNat = ps.length := by rw [ez]; exact u8n (n := ps.length) (by omega)
   have e2 : leafP ps.length ((encD (.mk ps [] pg)).drop 2) = some ps := by rw [ez]; exact zdt hk _
   rw [if_pos e0, e1, if_neg (by omega), e2];simp only;rw [if_pos (show padZ (encLf ps) = encD (.mk ps [] pg) from rfl), Nd.pre_eq];rfl
  | inn kids pg g2 g8 hk =>
   have hne : (Nd.mk [] kids pg).kids ≠ [] := fun e => by rw [show (Nd.mk [] kids pg).kids = kids from rfl] at e; rw [e] at g2; simp at g2
   obtain ⟨z, ez⟩ := zfW hne;have e0 : (encD (.mk [] kids pg)).getD 0 0 = 78 := by rw [ez]; rfl
   have e1 : ((encD (.mk [] kids pg)).getD 1 0).toNat = kids.length := by rw [ez]; exact u8n (n := kids.length) (by omega)
   have e2 : zar ((encD (.mk [] kids pg)).drop 2) kids.length = kids.map Nd.page := by
    have := zcI (l := kids.map Nd.page) (fun p hp' => by obtain ⟨k, hk', rfl⟩ := List.mem_map.1 hp';have := hp k (zcn (n := .mk [] kids pg) hk' (zbm k));unfold PgS; omega) ((kids.tail.map fun k => textL k.least).flatten ++ List.replicate z 0)
    rw [List.length_map] at this;rw [ez];exact this
   rw [if_neg (by rw [e0]; decide), if_neg (by rw [e0, e1]; simp; omega), e1, e2];have hpre : (Nd.mk [] kids pg).pre = .mk [] kids pg :: (kids.map Nd.pre).flatten := Nd.pre_eq _;rw [hpre] at hn hf hu;rw [List.map_cons, List.nodup_cons] at hn;rw [zlC] at hf;have hlen : ∀ k ∈ kids, k.pre.length <= f := fun k hk' => by have : k.pre.Sublist (kids.map Nd.pre).flatten := List.sublist_flatten_of_mem (List.mem_map.2 ⟨k, hk', rfl⟩);have := this.length_le;omega
   have hkw := ziP (g := loadR d frm til f) (l := kids) (u := used ++ [pg]) (fun k hk' u hu' => zkV h0 h1 f (hlen k hk') (hk k hk') (fun m hm => hp m (zcn (n := .mk [] kids pg) hk' hm)) (by
    have : k.pre.Sublist (kids.map Nd.pre).flatten := List.sublist_flatten_of_mem (List.mem_map.2 ⟨k, hk', rfl⟩);exact List.Nodup.sublist (this.map Nd.page) hn.2) hu') hn.2 fun m hm h => by
     rcases zmA.1 h with h | h
     . exact hu m (by simp [hm]) h
     . refine hn.1 (List.mem_map.2 ⟨m, hm, ?_⟩);show m.page = pg;simpa using h
   show (match kidsW (loadR d frm til f) (kids.map Nd.page) (used ++ [pg]) with
    | none => none
    | some (kids', u) => if padZ (encIn kids') = encD (.mk [] kids pg) then some (Nd.mk [] kids' pg, u) else none) = _
   rw [hkw];simp only;rw [if_pos (show padZ (encIn kids) = encD (.mk [] kids pg) by unfold encD encL; rw [if_neg hne]; rfl), hpre];simp [Nd.page]
theorem zf3 {α β : Type} {f : α -> β} {l : List α} (h : (l.map f).Nodup) {a b : α} (ha : a ∈ l) (hb : b ∈ l) (e : f a = f b) : a = b := by
 induction l with
 | nil => cases ha
 | cons x l ih =>
  rw [List.map_cons, List.nodup_cons] at h;rcases zmC.1 ha with rfl | ha'
  .
   rcases zmC.1 hb with rfl | hb'
   . rfl
   . exact absurd (List.mem_map.2 ⟨b, hb', e.symm⟩) h.1
  .
   rcases zmC.1 hb with rfl | hb'
   . exact absurd (List.mem_map.2 ⟨a, ha', e⟩) h.1
   . exact ih h.2 ha' hb'
theorem zkz (l : List Nd) : Nd.nodesK l = (l.map Nd.nodes).flatten := by
 induction l with
 | nil => rfl
 | cons x l ih => rw [Nd.nodesK, ih]; rfl
theorem zlh (n : Nd) : n.nodes = (n.kids.map Nd.nodes).flatten ++ [n] := by
 cases n; rw [Nd.nodes, zkz]; rfl
theorem zgq : ∀ {n m : Nd}, m ∈ n.nodes ↔ m ∈ n.pre := by
 intro n
 induction n using Nd.ind with
 | h ps kids page ih =>
  intro m;rw [zlh, Nd.pre_eq, zmA, zmS, zmC, List.mem_flatten, List.mem_flatten, Or.comm];refine or_congr Iff.rfl ⟨?_, ?_⟩
  . rintro ⟨q, hq, hm⟩;obtain ⟨k, hk, rfl⟩ := List.mem_map.1 hq;exact ⟨_, List.mem_map.2 ⟨k, hk, rfl⟩, (ih k hk).1 hm⟩
  . rintro ⟨q, hq, hm⟩;obtain ⟨k, hk, rfl⟩ := List.mem_map.1 hq;exact ⟨_, List.mem_map.2 ⟨k, hk, rfl⟩, (ih k hk).2 hm⟩
def preO : Option Nd -> List Nd
 | none => []
 | some n => n.pre
theorem zis {t : Option Nd} {m : Nd} : m ∈ preO t ↔ ∃ n, t = some n /\ m ∈ n.pre := by
 cases t with
 | none => simp [preO]
 | some n => simp [preO]
theorem zhh {t : Option Nd} {p : Int} : p ∈ usedN t ↔ p ∈ (preO t).map Nd.page := by
 cases t with
 | none => simp [usedN, preO]
 | some n => simp only [usedN, preO, List.mem_map];exact ⟨fun ⟨m, hm, e⟩ => ⟨m, zgq.1 hm, e⟩, fun ⟨m, hm, e⟩ => ⟨m, zgq.2 hm, e⟩⟩
theorem zhq {frm til : Int} {u v : List Int} (h : ∀ p, p ∈ u ↔ p ∈ v) : zap frm til u = zap frm til v := by
 unfold zap;refine List.filter_congr fun p _ => ?_;have : u.contains p = v.contains p := by rw [Bool.eq_iff_iff, List.contains_iff_mem, List.contains_iff_mem];exact h p
 rw [this]
theorem zi9 (frm til : Int) : (pgsX frm til).Nodup := by
 unfold pgsX;exact zcm List.nodup_range fun a _ b _ e => by omega
theorem zgu (frm til : Int) (u : List Int) : (zap frm til u).Nodup := (zi9 frm til).sublist List.filter_sublist
theorem zkd {V r : Nat} {frm til : Int} {k : Nat} (h1 : 1 <= V) (h2 : V <= 1099511627776) (h3 : V % 2 = k) (h4 : r = 0 \/ (frm + 2 <= (r : Int) /\ (r : Int) < til)) (h5 : r <= 1099511627776) : hdrX (hdrL 512 V r) frm til k = some (V, r) := by
 unfold hdrX;rw [zir, zml, zeS h2, zeS h5, if_pos ⟨h1, h2, h5, h4, h3, rfl⟩]
theorem ziD {V k v n : Nat} {frm til : Int} {p : List UInt8} (h : OldH 512 V p) (hp : hdrX p frm til k = some (v, n)) : v < V := by
 obtain ⟨_, _, q3, q4, q5, _, q7, q8⟩ := zbg hp;refine zlN (k := k) (v := v) (n := n) (a := n) (z := 512) (by decide) h ?_;rw [q8];exact zmv (by decide) q3 q4 q7 (Int.le_refl _) q5
structure IxS (d : Dsk) (frm til : Int) (V : Nat) (t : Option Nd) : Prop where
 fit : fitX d frm til = 0
 empty : d.cache = []
 ver : 1 <= V
 small : V <= 200
 cur : pageL d (frm + ((V % 2 : Nat) : Int)) = hdrL 512 V (rootN t).toNat
 old : OldH 512 V (pageL d (frm + (((V + 1) % 2 : Nat) : Int)))
 tm : OTm t
 pages : ∀ m ∈ preO t, frm + 2 <= m.page /\ m.page < til /\ pageL d m.page = encD m
def ixOf (d : Dsk) (frm til : Int) (V : Nat) (t : Option Nd) : Ix := ⟨d, frm, til, V, rootN t, zap frm til (usedN t)⟩
theorem zfV {d : Dsk} {frm til : Int} (h : fitX d frm til = 0) : chk d = 0 /\ d.size = 512 /\ 0 <= frm /\ til <= (d.pages.length : Int) /\ 3 <= til /\ frm <= til - 3 /\ d.pages.length <= 2000 := by
 obtain ⟨hc, hf⟩ := zez h;obtain ⟨f1, f2, f3, f4, f5⟩ := zax hf;have hr := zag (zaq hc).1;exact ⟨hc, f1, f2, f3, f4, f5, by omega⟩
theorem zjy {d : Dsk} {frm til : Int} (hc : chk d = 0) (h1 : d.size = 512) (h2 : 0 <= frm) (h3 : til <= (d.pages.length : Int)) (h4 : 3 <= til) (h5 : frm <= til - 3) : fitX d frm til = 0 := by
 unfold fitX;rw [if_neg (by simp [hc]), if_neg (by rw [zf0 h1 h2 h3 h4 h5]; decide)]
theorem zdP {d e : Dsk} {frm til : Int} (hf : fitX d frm til = 0) (hs : Shape d e) : fitX e frm til = 0 := by
 obtain ⟨h1, h2, h3, h4, h5, h6, h7⟩ := zfV hf;exact zjy hs.1 (by rw [hs.2.1]; exact h2) h3 (by rw [hs.2.2]; exact h4) h5 h6
theorem OTm.shp {t : Option Nd} (h : OTm t) {n : Nd} (e : t = some n) : Shp n := by
 obtain ⟨⟨k, h1⟩, h2⟩ := h n e;exact h1.shp (Nat.le_refl _) (Nat.le_refl _)
section
variable {d e : Dsk} {frm til : Int} {V : Nat} {t t' : Option Nd}
theorem IxS.bd (h : IxS d frm til V t) : chk d = 0 /\ d.size = 512 /\ 0 <= frm /\ til <= (d.pages.length : Int) /\ 3 <= til /\ frm <= til - 3 /\ d.pages.length <= 2000 := zfV h.fit
theorem zmB (hp : ∀ m ∈ preO t, frm + 2 <= m.page /\ m.page < til /\ pageL d m.page = encD m) (h0 : 0 <= frm) (hl : til <= 2000) :
  ((rootN t).toNat = 0 /\ t = none \/ (frm + 2 <= ((rootN t).toNat : Int) /\ ((rootN t).toNat : Int) < til)) /\ ((rootN t).toNat : Int) = rootN t /\ (rootN t).toNat <= 2000 := by
 cases t with
 | none => exact ⟨.inl ⟨rfl, rfl⟩, rfl, by simp [rootN]⟩
 | some n => have := hp n (zbm n);simp only [rootN];exact ⟨.inr (by omega), by omega, by omega⟩
theorem IxS.root (h : IxS d frm til V t) : ((rootN t).toNat = 0 /\ t = none \/ (frm + 2 <= ((rootN t).toNat : Int) /\ ((rootN t).toNat : Int) < til)) /\ ((rootN t).toNat : Int) = rootN t /\ (rootN t).toNat <= 2000 :=
 zmB h.pages (by have := h.bd; omega) (by have := h.bd; omega)
theorem IxS.onC (h : IxS d frm til V t) {n : Nd} (hn : t = some n) : OnC (pageL d) n := fun m hm => by
 have hb := h.bd;obtain ⟨a, b, c⟩ := h.pages m (zis.2 ⟨n, hn, hm⟩);exact ⟨c, by unfold PgS; omega⟩
theorem IxS.nodup (h : IxS d frm til V t) {n : Nd} (hn : t = some n) : (n.pre.map Nd.page).Nodup := zhZ (h.tm.shp hn) (h.tm n hn).2 (h.onC hn)
theorem IxS.head (h : IxS d frm til V t) : headX d frm til = (V, (rootN t).toNat) := by
 have hs := h.small;obtain ⟨hr, _, hr2⟩ := h.root;have hr' : (rootN t).toNat = 0 \/ (frm + 2 <= ((rootN t).toNat : Int) /\ ((rootN t).toNat : Int) < til) := hr.imp (fun h => h.1) id;unfold headX;rcases Nat.mod_two_eq_zero_or_one V with h0 | h0
 . have hc := h.cur;have ho := h.old;rw [h0, show (frm + ((0 : Nat) : Int)) = frm by simp] at hc;rw [show (V + 1) % 2 = 1 by omega, show (frm + ((1 : Nat) : Int)) = frm + 1 by simp] at ho;refine ziw (.inl ⟨by rw [hc]; exact zkd h.ver (by omega) h0 hr' (by omega), fun p hp => ziD (v := p.1) (n := p.2) ho hp⟩)
 . have hc := h.cur;have ho := h.old;rw [h0, show (frm + ((1 : Nat) : Int)) = frm + 1 by simp] at hc;rw [show (V + 1) % 2 = 0 by omega, show (frm + ((0 : Nat) : Int)) = frm by simp] at ho;refine ziw (.inr ⟨by rw [hc]; exact zkd h.ver (by omega) h0 hr' (by omega), fun p hp => ziD (v := p.1) (n := p.2) ho hp⟩)
theorem IxS.tree (h : IxS d frm til V t) : treeX d frm til (rootN t).toNat = some (t, (preO t).map Nd.page) := by
 obtain ⟨hr, hr1, _⟩ := h.root;have hb := h.bd;unfold treeX;cases t with
 | none => rfl
 | some n =>
  have hn0 : ¬ (rootN (some n)).toNat = 0 := by
   rcases hr with ⟨_, e⟩ | hr
   . cases e
   . omega
  have hs := h.tm.shp rfl;have hp := fun m hm => h.pages m (zis.2 ⟨n, rfl, hm⟩);have hnd := h.nodup rfl;have hlen : n.pre.length <= fuelX frm til := by
   have := zda (til - frm - 2).toNat (n.pre.map Nd.page) (frm + 2) hnd fun x hx => by obtain ⟨m, hm, rfl⟩ := List.mem_map.1 hx;have := hp m hm;omega
   rw [List.length_map] at this;unfold fuelX;omega
  have hl := zkV (d := d) (frm := frm) (til := til) (by omega) (by omega) (fuelX frm til) (used := []) hlen hs hp hnd (by simp);rw [if_neg hn0, hr1];simp only [rootN];rw [hl];simp only [List.nil_append, preO];rw [if_pos ((zbE hs).2 ⟨(h.tm n rfl).2, (h.tm n rfl).1⟩)]
theorem IxS.read (h : IxS d frm til V t) : readX d frm til = some (ixOf d frm til V t, t) := by
 unfold readX;rw [h.head];simp only;rw [if_neg (by have := h.ver; omega), h.tree];simp only [ixOf];rw [h.root.2.1, zhq fun p => (zhh (t := t) (p := p)).symm]
theorem IxS.opens (h : IxS d frm til V t) : openX d frm til = (ixOf d frm til V t, 0) := by
 unfold openX;rw [if_neg (by simp [h.fit]), h.read]
theorem IxS.valid (h : IxS d frm til V t) : za7 (ixOf d frm til V t) = some t := by
 unfold za7;rw [if_neg (by rw [show fitX (ixOf d frm til V t).disk (ixOf d frm til V t).frm (ixOf d frm til V t).til = 0 from h.fit]; simp), show readX (ixOf d frm til V t).disk (ixOf d frm til V t).frm (ixOf d frm til V t).til = _ from h.read];simp only;simp
theorem IxS.keep (h : IxS d frm til V t) (hs : Shape d e) (he : e.cache = []) (h0 : pageL e (frm + ((V % 2 : Nat) : Int)) = pageL d (frm + ((V % 2 : Nat) : Int))) (h1 : OldH 512 V (pageL e (frm + (((V + 1) % 2 : Nat) : Int)))) (hp : ∀ m ∈ preO t, pageL e m.page = pageL d m.page) : IxS e frm til V t :=
 ⟨zdP h.fit hs, he, h.ver, h.small, by rw [h0]; exact h.cur, h1, h.tm, fun m hm => by obtain ⟨a, b, c⟩ := h.pages m hm; exact ⟨a, b, by rw [hp m hm]; exact c⟩⟩
theorem IxS.next (h : IxS d frm til V t) (hs : Shape d e) (he : e.cache = []) (h0 : pageL e (frm + ((V % 2 : Nat) : Int)) = pageL d (frm + ((V % 2 : Nat) : Int))) (h1 : pageL e (frm + (((V + 1) % 2 : Nat) : Int)) = hdrL 512 (V + 1) (rootN t').toNat)
  (hV : V + 1 <= 200) (ht : OTm t') (hp : ∀ m ∈ preO t', frm + 2 <= m.page /\ m.page < til /\ pageL e m.page = encD m) : IxS e frm til (V + 1) t' := by
 refine ⟨zdP h.fit hs, he, by omega, hV, h1, ?_, ht, hp⟩;rw [show (V + 1 + 1) % 2 = V % 2 by omega, h0, h.cur];exact zkw (by decide) (by omega)
theorem IxS.same (h : IxS d frm til V t) (hs : Shape d e) (he : e.cache = []) (hp : ∀ k : Nat, k < d.pages.length -> pageL e k = pageL d k) : IxS e frm til V t := by
 have hb := h.bd;have hpi : ∀ i : Int, 0 <= i -> i < d.pages.length -> pageL e i = pageL d i := by intro i h0 h1;obtain ⟨k, rfl⟩ : ∃ k : Nat, i = k := ⟨i.toNat, by omega⟩;exact hp k (by omega)
 exact h.keep hs he (hpi _ (by omega) (by omega)) (by rw [hpi _ (by omega) (by omega)]; exact h.old) fun m hm => hpi _ (by have := h.pages m hm; omega) (by have := h.pages m hm; omega)
theorem IxS.crash (h : IxS d frm til V t) (picks : List Int) : IxS (zaM d picks) frm til V t := by
 have hc := h.bd.1;refine h.same (zcc hc picks) (zc4 hc picks) fun k hk => ?_;rw [zdE hc picks hk, zeg hc h.empty hk, h.empty, zjm, List.getD, List.getElem?_eq_getElem hk];rfl
theorem IxS.far (h : IxS d frm til V t) (hs : Shape d e) (hp : e.pages = d.pages) (hw : ∀ x ∈ e.cache, frm + 2 <= x.page /\ x.page < til /\ ∀ m ∈ preO t, m.page ≠ x.page) (picks : List Int) : IxS (zaM e picks) frm til V t := by
 have hb := h.bd;have hc := hb.1;obtain ⟨v1, v2, v3, v4⟩ := zaq hs.1;have hr := zag v1;have hz0 : 0 <= e.size := by omega
 have hsc := hs.trans (zcc hs.1 picks);have hsz : ∀ k : Nat, k < d.pages.length -> (((zbj picks e.size 0 e.cache e.pages).getD k ByteArray.empty).size : Int) = d.size := by intro k hk;have := zeA (i := k) (zce (picks := picks) hz0 e.cache 0 e.pages v2 v3) (by rw [zbk, hp]; exact hk);rw [this, hs.2.1]
 have hpage : ∀ i : Int, 0 <= i -> i < d.pages.length -> (∀ x ∈ e.cache, x.page ≠ i) -> pageL (zaM e picks) i = pageL d i := by
  intro i hi0 hi1 hx;obtain ⟨k, rfl⟩ : ∃ k : Nat, i = k := ⟨i.toNat, by omega⟩;have hk : k < d.pages.length := by omega
  rw [zdE hs.1 picks (by rw [hp]; exact hk), zeg hc h.empty hk];refine zlQ ?_ fun b => ?_
  . have h1 := hsz k hk;have h2 := (zaq hc).2.1 _ (List.getElem_mem hk);omega
  .
   have := zeH (picks := picks) hz0 k b e.cache 0 e.pages v2 v3 (by rw [hp]; exact hk);simp only [hp] at this;rw [hp];rcases this with h1 | ⟨x, hx1, hx2, _⟩
   . exact h1
   . exact absurd hx2 (hx x hx1)
 refine h.keep hsc (zc4 hs.1 picks) (hpage _ (by omega) (by omega) fun x hx => by have := hw x hx; omega) ?_ fun m hm => ?_
 . rw [hpage _ (by omega) (by omega) fun x hx => by have := hw x hx; omega];exact h.old
 . have := h.pages m hm;exact hpage _ (by omega) (by omega) fun x hx e => (hw x hx).2.2 m hm e.symm
end
def OutX (d : Dsk) (frm til : Int) (V : Nat) (t t' : Option Nd) (F : Dsk) (er : Int) : Prop :=
 Shape d F /\ (d.left = -1 -> er = 0 /\ F.left = -1) /\ ((er = 0 /\ IxS F frm til (V + 1) t') \/ (er = 18 /\ F.left = 0 /\ ∀ picks, IxS (zaM F picks) frm til V t \/ IxS (zaM F picks) frm til (V + 1) t'))
theorem zhx {d : Dsk} {frm til : Int} {V : Nat} {t t' : Option Nd} (h : IxS d frm til V t) (hV : V + 1 <= 200) (ht : OTm t') (hp' : ∀ m ∈ preO t', frm + 2 <= m.page /\ m.page < til /\ pageL d m.page = encD m) :
  OutX d frm til V t t' (perfP d [.wr (frm + (((V + 1) % 2 : Nat) : Int)) (bs (hdrL 512 (V + 1) (rootN t').toNat)), .fl]).1 (perfP d [.wr (frm + (((V + 1) % 2 : Nat) : Int)) (bs (hdrL 512 (V + 1) (rootN t').toNat)), .fl]).2 := by
 have hb := h.bd;have hc := hb.1;obtain ⟨q, hq⟩ : ∃ q : Nat, frm + (((V + 1) % 2 : Nat) : Int) = q := ⟨(frm + (((V + 1) % 2 : Nat) : Int)).toNat, by omega⟩;obtain ⟨q0, hq0⟩ : ∃ q0 : Nat, frm + ((V % 2 : Nat) : Int) = q0 := ⟨(frm + ((V % 2 : Nat) : Int)).toNat, by omega⟩;have hqq : q ≠ q0 := by omega
 have hqp : q < d.pages.length := by omega
 have hq0p : q0 < d.pages.length := by omega
 obtain ⟨H, hH⟩ : ∃ H, bs (hdrL 512 (V + 1) (rootN t').toNat) = H := ⟨_, rfl⟩;have hHl : H.data.toList = hdrL 512 (V + 1) (rootN t').toNat := by rw [<- hH, za3]
 have hHs : H.size = 512 := by rw [<- hH, zaj, zbs (by decide)]
 rw [hq, hH];have g1 : za9 d (.wr q H) := ⟨by omega, by omega, by omega⟩;have htree : ∀ (e : Dsk), (∀ k : Nat, k < d.pages.length -> k ≠ q -> pageL e k = pageL d k) -> ∀ p : Int, frm + 2 <= p -> p < til -> pageL e p = pageL d p := by intro e hk p h1 h2;obtain ⟨j, rfl⟩ : ∃ j : Nat, p = j := ⟨p.toNat, by omega⟩;exact hk j (by omega) (by omega)
 have hold : ∀ (e : Dsk), (∀ k : Nat, k < d.pages.length -> k ≠ q -> pageL e k = pageL d k) -> ∀ m ∈ preO t, pageL e m.page = pageL d m.page := fun e hk m hm => htree e hk _ (h.pages m hm).1 (h.pages m hm).2.1;have hnew : ∀ (e : Dsk), (∀ k : Nat, k < d.pages.length -> k ≠ q -> pageL e k = pageL d k) -> ∀ m ∈ preO t', frm + 2 <= m.page /\ m.page < til /\ pageL e m.page = encD m := fun e hk m hm => by obtain ⟨a, b, c⟩ := hp' m hm;exact ⟨a, b, by rw [htree e hk _ a b]; exact c⟩
 by_cases hl : d.left = 0
 . rw [zbX hc (by intro o ho; rcases zmC.1 ho with rfl | ho; exact g1; rw [zmS.1 ho]; trivial) hl (by simp)];exact ⟨.refl hc, fun e => by omega, .inr ⟨rfl, hl, fun picks => .inl (h.crash picks)⟩⟩
 .
  have hw := zd1 hc g1 hl;have hsh1 := zbe hc g1;rw [zcq (by rw [hw]), hw];rw [hw] at hsh1;obtain ⟨e1, he1⟩ : ∃ e1, ({ opD d with cache := d.cache ++ [⟨(q : Int), H⟩] } : Dsk) = e1 := ⟨_, rfl⟩;simp only [he1] at hsh1 |-;have hec : e1.cache = [⟨(q : Int), H⟩] := by rw [<- he1, h.empty]; rfl
  have hep : e1.pages = d.pages := by rw [<- he1]; rfl
  have hel : e1.left = (opD d).left := by rw [<- he1]
  have hpe : ∀ k : Nat, k < d.pages.length -> pageL e1 k = if k = q then H.data.toList else pageL d k := by
   intro k hk;have := zea hc g1 hl hk;rw [hw, he1] at this;simp only at this;rw [this]
   by_cases hkq : k = q
   . rw [if_pos (by omega), if_pos hkq]
   . rw [if_neg (by omega), if_neg hkq]
  by_cases hl1 : e1.left = 0
  .
   rw [zbX hsh1.1 (by intro o ho; rw [zmS.1 ho]; trivial) hl1 (by simp)];refine ⟨hsh1, fun e => ?_, .inr ⟨rfl, hl1, fun picks => ?_⟩⟩
   . rw [hel] at hl1; unfold opD at hl1; simp only at hl1; rw [if_neg (by omega)] at hl1; omega
   .
    have hsc := hsh1.trans (zcc hsh1.1 picks);have hce := zc4 hsh1.1 picks;obtain ⟨n, hn⟩ : ∃ n, (zeL picks 0 e1.size).toNat = n := ⟨_, rfl⟩;have hpc : ∀ k : Nat, k < d.pages.length -> pageL (zaM e1 picks) k = if k = q then H.data.toList.take n ++ (pageL d k).drop n else pageL d k := by
     intro k hk;rw [zdE hsh1.1 picks (by rw [hep]; exact hk), hec, hep];simp only [zbj, Int.toNat_natCast];rw [hn]
     by_cases hkq : k = q
     .
      subst hkq;rw [if_pos rfl, zeg hc h.empty hk];have e3 : d.pages.getD k ByteArray.empty = d.pages[k] := by rw [List.getD, List.getElem?_eq_getElem hk]; rfl
      rw [e3, List.getD, List.getElem?_set_self hk];simp only [Option.getD_some];exact zj7 _ _ _
     . rw [if_neg hkq, List.getD, List.getElem?_set_ne (by omega), List.getElem?_eq_getElem hk, zeg hc h.empty hk];rfl
    have hk' : ∀ k : Nat, k < d.pages.length -> k ≠ q -> pageL (zaM e1 picks) k = pageL d k := fun k hk hkq => by rw [hpc k hk, if_neg hkq]
    have hp0 : pageL (zaM e1 picks) (frm + ((V % 2 : Nat) : Int)) = pageL d (frm + ((V % 2 : Nat) : Int)) := by rw [hq0, hpc q0 hq0p, if_neg (by omega)]
    have ho := h.old;rw [hq] at ho;rcases zl4 (n := (rootN t').toNat) (t := n) (by decide) (by omega) ho with hto | hto
    . left;refine h.keep hsc hce hp0 ?_ (hold _ hk');rw [hq, hpc q hqp, if_pos rfl, hHl];exact hto
    . right;refine h.next hsc hce hp0 ?_ hV ht (hnew _ hk');rw [hq, hpc q hqp, if_pos rfl, hHl, List.take_of_length_le (by rw [zbs (by decide)]; exact hto), List.drop_of_length_le (by rw [ho.1]; exact hto), List.append_nil]
  .
   have hfl := zcJ hsh1.1 hl1;have hsf := zbe hsh1.1 (o := .fl) trivial;rw [zcq (by rw [hfl]), perfP];have hpf : ∀ k : Nat, k < d.pages.length -> pageL (opP e1 .fl).1 k = if k = q then H.data.toList else pageL d k := by intro k hk;rw [zea hsh1.1 (o := .fl) trivial hl1 (by rw [hep]; exact hk)];exact hpe k hk
   have hs2 := hsh1.trans hsf;refine ⟨hs2, fun e => ⟨rfl, ?_⟩, .inl ⟨rfl, ?_⟩⟩
   .
    rw [hfl];simp only;have h1 : (opD d).left = -1 := by unfold opD; simp only; rw [if_neg (by omega)]; exact e
    rw [h1] at hel;unfold opD; simp only; rw [if_neg (by omega)]; exact hel
   .
    refine h.next hs2 (by rw [hfl]) ?_ ?_ hV ht (hnew _ fun k hk hkq => by rw [hpf k hk, if_neg hkq])
    . rw [hq0, hpf q0 hq0p, if_neg (by omega)]
    . rw [hq, hpf q hqp, if_pos rfl, hHl]
theorem zlB {d : Dsk} {frm til : Int} {V : Nat} {t : Option Nd} (h : IxS d frm til V t) {ws : List PW} (hw : ∀ x ∈ ws, frm + 2 <= x.page /\ x.page < til /\ x.data.size = 512 /\ ∀ m ∈ preO t, m.page ≠ x.page) (hn : (ws.map PW.page).Nodup) {ops : List DOp} (ho : ws.map wrO = ops) :
    Shape d (perfP d (ops ++ [.fl])).1 /\ (d.left = -1 -> (perfP d (ops ++ [.fl])).2 = 0 /\ (perfP d (ops ++ [.fl])).1.left = -1) /\
    (((perfP d (ops ++ [.fl])).2 = 0 /\ IxS (perfP d (ops ++ [.fl])).1 frm til V t /\ ∀ x ∈ ws, pageL (perfP d (ops ++ [.fl])).1 x.page = x.data.data.toList) \/
     ((perfP d (ops ++ [.fl])).2 = 18 /\ (perfP d (ops ++ [.fl])).1.left = 0 /\ ∀ picks, IxS (zaM (perfP d (ops ++ [.fl])).1 picks) frm til V t)) /\
    ∀ k : Nat, k < d.pages.length -> (∀ x ∈ ws, x.page ≠ k) -> pageL (perfP d (ops ++ [.fl])).1 k = pageL d k := by
  have hb := h.bd;have hc := hb.1;have hgood : ∀ o ∈ ops, za9 d o := by rw [<- ho];intro o hm;obtain ⟨x, hx, rfl⟩ := List.mem_map.1 hm;have := hw x hx;exact ⟨by omega, by omega, by omega⟩
  have hgood2 : ∀ o ∈ ops ++ [DOp.fl], za9 d o := by
    intro o hm;rcases zmA.1 hm with hm | hm
    · exact hgood o hm
    · rw [zmS.1 hm]; trivial
  have hpws := zh0 ws hc (fun x hx => hgood _ (by rw [<- ho]; exact List.mem_map.2 ⟨x, hx, rfl⟩));rw [ho] at hpws;obtain ⟨j, hj, hca, hpa, hres⟩ := hpws;have hshA := (zbV (ops := ops) hc hgood).1;have hsh := (zbV (ops := ops ++ [.fl]) hc hgood2).1;rw [h.empty, List.nil_append] at hca;have hcr : ∀ e : Dsk, e = (perfP d ops).1 -> ∀ picks, IxS (zaM e picks) frm til V t := by rintro e rfl picks;refine h.far hshA hpa (fun x hx => ?_) picks;rw [hca] at hx;obtain ⟨a, b, c, d'⟩ := hw x (List.mem_of_mem_take hx);exact ⟨a, b, d'⟩
  have hmem : ∀ i data, DOp.wr i data ∈ ops ++ [DOp.fl] -> ∃ x ∈ ws, x.page = i /\ x.data = data := by
    intro i data hm;rcases zmA.1 hm with hm | hm
    · rw [<- ho] at hm
      obtain ⟨x, hx, e⟩ := List.mem_map.1 hm;simp only [wrO, DOp.wr.injEq] at e;exact ⟨x, hx, e.1, e.2⟩
    · rw [zmS] at hm; cases hm
  have helse : ∀ k : Nat, k < d.pages.length -> (∀ x ∈ ws, x.page ≠ k) -> pageL (perfP d (ops ++ [.fl])).1 k = pageL d k := by intro k hk hne;refine zdc hc hgood2 hk fun i data hm e => ?_;obtain ⟨x, hx, e1, _⟩ := hmem i data hm;exact hne x hx (e1.trans e)
  refine ⟨hsh, ?_, ?_, helse⟩
  · intro e
    rcases hres with ⟨h0, hjl, hleft⟩ | ⟨h18, hl0, hlm⟩
    · have hap : perfP d (ops ++ [.fl]) = perfP (perfP d ops).1 [.fl] := by rw [zct, if_neg (by simp [h0])]
      have hl1 := hleft e;have hfl := zcJ hshA.1 (by omega);rw [zcq (by rw [hfl]), perfP] at hap;refine ⟨by rw [hap], ?_⟩;rw [hap, hfl];simp only;unfold opD; simp only; rw [if_neg (by omega)]; exact hl1
    · exact absurd e hlm
  · rcases hres with ⟨h0, hjl, hleft⟩ | ⟨h18, hl0, hlm⟩
    · have hap : perfP d (ops ++ [.fl]) = perfP (perfP d ops).1 [.fl] := by rw [zct, if_neg (by simp [h0])]
      by_cases hl : (perfP d ops).1.left = 0
      · rw [zbX hshA.1 (by intro o hm; rw [zmS.1 hm]; trivial) hl (by simp)] at hap
        exact .inr ⟨by rw [hap], by rw [hap]; exact hl, fun picks => hcr _ (by rw [hap]) picks⟩
      · have hfl := zcJ hshA.1 hl
        rw [zcq (by rw [hfl]), perfP] at hap;have he0 : (perfP d (ops ++ [.fl])).2 = 0 := by rw [hap]
        have hemp : (perfP d (ops ++ [.fl])).1.cache = [] := by rw [hap, hfl]
        have helseI : ∀ i : Int, 0 <= i -> i < d.pages.length -> (∀ x ∈ ws, x.page ≠ i) -> pageL (perfP d (ops ++ [.fl])).1 i = pageL d i := by intro i hi0 hi1 hx;obtain ⟨k, rfl⟩ : ∃ k : Nat, i = k := ⟨i.toNat, by omega⟩;exact helse k (by omega) hx
        refine .inl ⟨he0, ?_, fun x hx => ?_⟩
        · refine h.keep hsh hemp (helseI _ (by omega) (by omega) fun x hx => by have := hw x hx; omega) ?_ fun m hm => ?_
          · rw [helseI _ (by omega) (by omega) fun x hx => by have := hw x hx; omega]
            exact h.old
          · have := h.pages m hm
            exact helseI _ (by omega) (by omega) fun x hx e => (hw x hx).2.2.2 m hm e.symm
        · have hx' := hw x hx
          obtain ⟨q, hq⟩ : ∃ q : Nat, x.page = q := ⟨x.page.toNat, by omega⟩;rw [hq];refine zeb hc hgood2 (by omega) he0 (fun i data hm e => ?_) (.inr ⟨q, x.data, ?_, rfl⟩)
          · obtain ⟨y, hy, e1, e2⟩ := hmem i data hm
            have : y = x := zf3 hn hy hx (by rw [e1, e, hq]);rw [<- this, e2]
          · rw [<- ho, <- hq]
            exact List.mem_append_left _ (List.mem_map.2 ⟨x, hx, rfl⟩)
    · have hap : perfP d (ops ++ [.fl]) = perfP d ops := by rw [zct, if_pos (by rw [h18]; decide)]
      exact .inr ⟨by rw [hap]; exact h18, by rw [hap]; exact hl0, fun picks => hcr _ (by rw [hap]) picks⟩
end Go.Proofs.YtlefmmhlpgmbjaaGreat
