/- law42.Reached: the index after a run. -/
import Derived.Test.YtlefmmhlpgmbjaaGreatQ27
import Derived.Test.YtlefmmhlpgmbjaaGreatQ01
namespace Go.Proofs.YtlefmmhlpgmbjaaGreat
set_option maxRecDepth 100000
open Go.RowKit
theorem kvsC_str (l : List Kv) : ∀ u ∈ kvsC l, ∃ s, u = .string s := by
 intro u hu
 unfold kvsC at hu
 obtain ⟨x, hx, hux⟩ := List.mem_flatten.1 hu
 obtain ⟨y, _, rfl⟩ := List.mem_map.1 hx
 simp only [kvC, zmC, List.not_mem_nil, or_false] at hux
 rcases hux with rfl | rfl <;> exact ⟨_, rfl⟩
theorem KvsAt.only {w w' : World} {o : Option Addr} {l : List Kv} {r : Nat} {cs : Array Value} {t : TypeId} (h : KvsAt w o l) (hx : Bx w r cs t) (hn : NoS cs) (ho : Only r w w') : KvsAt w' o l := by
 intro i hi
 obtain ⟨b, off, e, hc, hs⟩ := h i hi
 have hne : b ≠ r := by
  rintro rfl
  rw [hx.cell] at hc
  have h2 := (kvsC_str l) _ (List.getElem_mem hi)
  obtain ⟨s, hs⟩ := h2
  rw [hs] at hc
  exact hn _ _ hc
 refine ⟨b, off, e, ?_, znL hs ho.1⟩
 rw [<- hc]
 simp [World.cell?, ho.2 b hne]
theorem RSnd.chgs {d0 : Dsk} {frm til : Int} {s : RS} {V : Nat} (h : RSnd d0 frm til s V) (hV : V + 1 <= 200) {a : ActB} (hn : ¬ (s.lost = true /\ a.kind ≠ 3)) (hd : (doX s.y a s.l).2 = 18 \/ ((a.kind = 0 \/ a.kind = 1) /\ (doX s.y a s.l).2 = 0)) : ((chgsOf a s.l).map Chg.key).Nodup := by
 obtain ⟨y, l, doubt, lost⟩ := s
 rcases h.st with ⟨h0, U, t, hU, hy, hI, hl⟩ | ⟨h0, hleft, hf, ht, U, t, t', hU, e1, e2, hp⟩
 .
  simp only at h0 hy hI hl hd |-
  subst h0 hl
  obtain ⟨d, hdd⟩ : ∃ d, y.disk = d := ⟨_, rfl⟩
  rw [hdd] at hy hI
  subst hy
  by_cases hk : a.kind = 0 \/ a.kind = 1
  .
   rcases good_act hI (by omega) hk with ⟨er, g1, g2, _, g3⟩ | ⟨g1, _⟩ | ⟨g1, _⟩
   .
    rw [g3] at hd
    rcases hd with e | ⟨_, e⟩
    .
     exact absurd e g2
    .
     exact absurd e g1
   .
    exact (chgsE_asc g1).1.nodup
   .
    exact (chgsE_asc g1).1.nodup
  .
   rcases hd with e | ⟨hk', _⟩
   .
    exfalso
    have : ∃ R : Ix × Int, actX (ixOf d frm til U t) a (pairsO t) = R /\ R.2 = 0 := by
     refine ⟨_, rfl, ?_⟩
     unfold actX
     rw [if_neg hk]
     split
     .
      rfl
     .
      split
      .
       have := (hI.crash a.picks).openP
       show (openP (crashD d a.picks) frm til).2 = 0
       rw [this]
      .
       rfl
    obtain ⟨R, hA, hR⟩ := this
    rw [doX_of hA (.inl hR), hR] at e
    exact absurd e (by decide)
   .
    exact absurd hk' hk
 .
  simp only at h0 hleft hf ht e1 e2 hp hd |-
  subst h0
  have k3 : a.kind = 3 := by
   by_cases k : a.kind = 3
   .
    exact k
   .
    exact absurd ⟨rfl, k⟩ hn
  exfalso
  have hA : actX y a l = openP (crashD y.disk a.picks) frm til := by unfold actX; rw [if_neg (by omega), if_neg (by omega), if_pos k3, hf, ht]
  have : (openP (crashD y.disk a.picks) frm til).2 = 0 := by
   rcases hp a.picks with g | g <;> rw [g.openP]
  rw [doX_of hA (.inl this), this] at hd
  rcases hd with e | ⟨e, _⟩
  .
   exact absurd e (by decide)
  .
   omega
theorem RSnd.woke {d0 : Dsk} {frm til : Int} {s : RS} {V : Nat} (h : RSnd d0 frm til s V) {a : ActB} (hl : s.lost = true) (k3 : a.kind = 3) : (doX s.y a s.l).2 = 0 := by
 rcases h.st with ⟨h0, _⟩ | ⟨h0, hleft, hf, ht, U, t, t', hU, e1, e2, hp⟩
 .
  rw [hl] at h0; cases h0
 .
  have hA : actX s.y a s.l = openP (crashD s.y.disk a.picks) frm til := by unfold actX; rw [if_neg (by omega), if_neg (by omega), if_pos k3, hf, ht]
  have : (openP (crashD s.y.disk a.picks) frm til).2 = 0 := by
   rcases hp a.picks with g | g <;> rw [g.openP]
  rw [doX_of hA (.inl this), this]
theorem RSnd.valid {d0 : Dsk} {frm til : Int} {s : RS} {V : Nat} (h : RSnd d0 frm til s V) (hn : s.lost = false) : ∀ t, validP s.y = some t -> pairsO t = s.l := by
 intro t ht
 rcases h.st with ⟨_, U, t', hU, hy, hI, hl⟩ | ⟨h0, _⟩
 .
  rw [hy, validP_X, hI.valid] at ht
  cases ht
  exact hl.symm
 .
  rw [hn] at h0; cases h0
structure RchS (w : World) (N yb : Nat) (s : RS) (po co fo lo do_ : Option Addr) (pc cc fc lc dc : Nat) (W : World) : Prop where
 res : Bx W (N + 1) ixZ 33
 box : Bx W yb (ixC s.y.disk po co pc cc s.y.frm s.y.til s.y.ver s.y.root fo s.y.free.length fc) 33
 val : IxT W (.agg (ixC s.y.disk po co pc cc s.y.frm s.y.til s.y.ver s.y.root fo s.y.free.length fc)) s.y
 kl : KvsAt W lo s.l
 sl : SlW lo s.l.length lc
 kd : KvsAt W do_ s.doubt
 sd : SlW do_ s.doubt.length dc
 below : Below w.heap.size w W
 hyb : N + 2 <= yb
 hw : w.heap.size = N
section
variable {w : World} {N yb : Nat} {s : RS} {po co fo lo do_ gp gc gf : Option Addr} {pc cc fc lc dc hp hc hf : Nat} {W W' : World} {F : Ix}
theorem RchS.next (h : RchS w N yb s po co fo lo do_ pc cc fc lc dc W) (hb : Below W.heap.size W W') : RchS w N yb s po co fo lo do_ pc cc fc lc dc W' :=
 ⟨h.res.belowAll hb, h.box.belowAll hb, h.val.below hb, h.kl.below hb, h.sl, h.kd.below hb, h.sd, btr h.below hb, h.hyb, h.hw⟩
theorem RchS.put (h : RchS w N yb s po co fo lo do_ pc cc fc lc dc W) (hF : IxT W (.agg (ixC F.disk gp gc hp hc F.frm F.til F.ver F.root gf F.free.length hf)) F)
  (hW : st9 W yb (.int .i64 F.disk.size) (.slice gp F.disk.pages.length hp) (.slice gc F.disk.cache.length hc) (.int .i64 F.disk.left) (.int .i64 F.frm) (.int .i64 F.til) (.int .i64 F.ver) (.int .i64 F.root) (.slice gf F.free.length hf) = W') :
  RchS w N yb { s with y := F } gp gc gf lo do_ hp hc hf lc dc W' := by
 have ho : Only yb W W' := by subst hW; exact Only.nine
 have hn := noS9 s.y.disk.size s.y.disk.left s.y.frm s.y.til s.y.ver s.y.root po co fo s.y.disk.pages.length s.y.disk.cache.length s.y.free.length pc cc fc
 have := h.hyb
 have := h.hw
 exact ⟨h.res.only ho (by omega), by subst hW; exact h.box.set9, hF.only h.box hn (by decide) ho, h.kl.only h.box hn ho, h.sl, h.kd.only h.box hn ho, h.sd, by subst hW; exact below_set9 h.below (by omega), h.hyb, h.hw⟩
end
theorem RchS.lists {w : World} {N yb : Nat} {s : RS} {po co fo lo do_ lo' do' : Option Addr} {pc cc fc lc dc lc' dc' : Nat} {W : World} {l' d' : List Kv} (h : RchS w N yb s po co fo lo do_ pc cc fc lc dc W) (b : Bool) (kl : KvsAt W lo' l') (sl : SlW lo' l'.length lc') (kd : KvsAt W do' d') (sd : SlW do' d'.length dc') : RchS w N yb ⟨s.y, l', d', b⟩ po co fo lo' do' pc cc fc lc' dc' W :=
 ⟨h.res, h.box, h.val, kl, sl, kd, sd, h.below, h.hyb, h.hw⟩
def RetRch (w : World) (r : Ix × List Kv × Bool) (e : Ending) (w' : World) : Prop := ∃ v lo lc, e = .returned (.tuple #[v, .slice lo r.2.1.length lc, .bool r.2.2]) /\ IxT w' v r.1 /\ KvsAt w' lo r.2.1 /\ SlW lo r.2.1.length lc /\ Below w.heap.size w w'
set_option maxRecDepth 100000 in
set_option maxHeartbeats 1600000 in
theorem rn_Reached42 (p frm til : Int) (acts : List ActB) (o : Option Addr) (c : Nat) (w : World) (hA : ActsB w o acts) (hsl : SlW o acts.length c) :
  Calls Tryz.prog 32 #[.agg (runC p frm til o acts.length c)] w (RetRch w (reachX p frm til acts)) := by
 obtain ⟨R, hR⟩ : ∃ R, reachX p frm til acts = R := ⟨_, rfl⟩
 rw [hR]
 have hlen := slw_len hsl
 obtain ⟨B, hB⟩ : ∃ B, beginX p frm til acts = B := ⟨_, rfl⟩
 obtain ⟨y0, ok⟩ := B
 have hbg := fun W (hb : Below w.heap.size w W) => rn_begin42 p frm til acts o c W (hA.below hb) hsl
 have hbo := beginX_ok (p := p) (frm := frm) (til := til) (acts := acts)
 unfold reachX at hR
 rw [hB] at hbg hbo hR
 simp only at hbg hbo hR
 obtain ⟨N, hN⟩ : ∃ N, w.heap.size = N := ⟨_, rfl⟩
 obtain ⟨n, hn⟩ : ∃ n, acts.length = n := ⟨_, rfl⟩
 rw [hn] at hbg hlen
 rw [hn]
 obtain ⟨W2, hW2⟩ : ∃ W2, (w.alloc (.cells (runC p frm til o n c) 49)).alloc (.cells ixZ 33) = W2 := ⟨_, rfl⟩
 have x0 : Bx W2 N (runC p frm til o n c) 49 := by subst hW2 hN; exact (Bx.new w _ _).alloc _
 have x1 : Bx W2 (N + 1) ixZ 33 := by subst hW2 hN; exact Bx.newAt _ _ _ _ (by simp)
 have hB2 : Below w.heap.size w W2 := by subst hW2; exact (Below.one w _).alloc (by simp) _
 have hs2 : N + 2 <= W2.heap.size := by subst hW2 hN; simp
 have c0 := x0.cell
 have l0 := x0.lt
 have Hbg := zhI (hbg W2 hB2)
 have Hbo := zhI hbo
 have HR := zhI hR
 have HA := zhI hA
 have Hn := zhI hn
 have HN := zhI hN
 clear hbg hbo hR hA hn hB hsl
 go_enter Tryz.func32, Tryz.ntmps32
 go_wp2_with fail
 refine Hbg.out.mono ?_
 rintro e w3 ⟨v3, rfl, hX3, hb3⟩
 have hX := hX3
 obtain ⟨po, pc, co, cc, fo, fc, rfl, -, -, -⟩ := hX3
 have hbo := Below.one w3 (.cells (ixC y0.disk po co pc cc y0.frm y0.til y0.ver y0.root fo y0.free.length fc) 33)
 have xy := Bx.new w3 (ixC y0.disk po co pc cc y0.frm y0.til y0.ver y0.root fo y0.free.length fc) 33
 obtain ⟨yb, hyb⟩ : ∃ yb, w3.heap.size = yb := ⟨_, rfl⟩
 have hyN : N + 2 <= yb := by have := hb3.size; omega
 have z0 := (x0.belowAll hb3).belowAll hbo
 have z1 := (x1.belowAll hb3).belowAll hbo
 have hX4 := hX.below hbo
 have hB4 := btr (btr hB2 hb3) hbo
 obtain ⟨W4, hW4⟩ : ∃ W4, w3.alloc (.cells (ixC y0.disk po co pc cc y0.frm y0.til y0.ver y0.root fo y0.free.length fc) 33) = W4 := ⟨_, rfl⟩
 rw [hW4] at z0 z1 hX4 hB4
 rw [hW4, hyb] at xy
 clear c0 l0 x0 x1 hB2 hs2 hW2 hb3 hX hbo Hbg
 have s4 : RchS w N yb ⟨y0, [], [], false⟩ po co fo none none pc cc fc 0 0 W4 := ⟨z1, xy, hX4, KvsAt.nil _ _, .inl ⟨rfl, rfl, rfl⟩, KvsAt.nil _ _, .inl ⟨rfl, rfl, rfl⟩, hB4, hyN, hN⟩
 clear z1 xy hX4 hB4 hyN
 cases hok : ok with
 | false =>
  subst hok
  have HRf : Hid (R = (y0, [], false)) := zhI (by rw [<- HR.out]; rfl)
  obtain ⟨W7, hW7⟩ : ∃ W7, W7 = W4 := ⟨_, rfl⟩
  rw [<- hW7] at s4 hW4
  have z1 := s4.res
  have z2 := s4.box
  have hF7 := s4.val
  have hB7 := s4.below
  simp only at z2 hF7
  have hK7 := KvsAt.nil W7 none
  have hS7 : True := trivial
  clear s4 hW7 HR Hbo HA z0
  obtain ⟨Wf, hWf⟩ : ∃ Wf, st9 W7 (N + 1) (.int .i64 y0.disk.size) (.slice po y0.disk.pages.length pc) (.slice co y0.disk.cache.length cc) (.int .i64 y0.disk.left) (.int .i64 y0.frm) (.int .i64 y0.til) (.int .i64 y0.ver) (.int .i64 y0.root) (.slice fo y0.free.length fc) = Wf := ⟨_, rfl⟩
  have zR : Bx Wf (N + 1) (ixC y0.disk po co pc cc y0.frm y0.til y0.ver y0.root fo y0.free.length fc) 33 := by subst hWf; exact z1.set9
  have zB : Below w.heap.size w Wf := by subst hWf; exact below_set9 hB7 (by omega)
  have ho : Only (N + 1) W7 Wf := by subst hWf; exact Only.nine
  have zL := hF7.only z1 (noS9 _ _ _ _ _ _ _ _ _ _ _ _ _ _ _) (by decide) ho
  have zK := hK7.only z1 (noS9 _ _ _ _ _ _ _ _ _ _ _ _ _ _ _) ho
  have HWf := zhI hWf
  have HB := zhI zB
  have HL := zhI zL
  have HK := zhI zK
  have HS := zhI hS7
  have c1 := z1.cell
  have l1 := z1.lt
  have f1 := z1.free
  have cy := z2.cell
  have ly := z2.lt
  unfold ixZ at c1
  unfold ixC at cy
  clear hWf zB ho zL zK hF7 hK7 hS7 hB7
  go_wp2
  have HW := HWf.out
  unfold st9 st8 at HW
  rw [HW]
  have cZ := zR.cell
  unfold ixC at cZ
  refine bodyPost_ret (v := .tuple #[.agg (ixC y0.disk po co pc cc y0.frm y0.til y0.ver y0.root fo y0.free.length fc), .slice none 0 0, .bool false]) (by simp [results, Tryz.results32, go_sem, cZ, ixC]) rfl ?_
  rw [HRf.out]
  exact ⟨_, none, 0, rfl, HL.out, HK.out, .inl ⟨rfl, rfl, rfl⟩, by have := HB.out; rwa [HN.out] at this⟩
 | true =>
  subst hok
  obtain ⟨hfine, hS0, -⟩ := Hbo.out rfl
  obtain ⟨hal, -, hfa⟩ := fine_acts hfine
  rw [Hn.out] at hal
  have HRf : Hid (R = ((rsAt ⟨y0, [], [], false⟩ acts).y, (rsAt ⟨y0, [], [], false⟩ acts).l, (rsAt ⟨y0, [], [], false⟩ acts).y.disk.left == -1)) := zhI (by rw [<- HR.out]; rfl)
  have hsnd : ∀ k, k <= n -> RSnd y0.disk frm til (rsAt ⟨y0, [], [], false⟩ (acts.take k)) 9 := fun k hk => by
   have hle : (acts.take k).length <= 8 := by rw [List.length_take]; omega
   exact (hS0.run (acts := acts.take k) (by omega) fun x hx => hfa x (List.mem_of_mem_take hx)).mono (by omega)
  have Hsnd := zhI hsnd
  have Hfa := zhI hfa
  clear HR Hbo hfine hS0 hsnd hfa
  have c0 := z0.cell
  have l0 := z0.lt
  go_wp2
  clear c0 l0 z0 hW4
  have hacts := HA.out
  go_loopw [7, 8, 9, 27] (fun vl vd vb i wr => ∃ (k : Nat) (po co fo lo do_ : Option Addr) (pc cc fc lc dc : Nat), k <= n /\ i = .int .i64 k /\ vl = .slice lo (rsAt ⟨y0, [], [], false⟩ (acts.take k)).l.length lc /\ vd = .slice do_ (rsAt ⟨y0, [], [], false⟩ (acts.take k)).doubt.length dc /\ vb = .bool (rsAt ⟨y0, [], [], false⟩ (acts.take k)).lost /\ RchS w N yb (rsAt ⟨y0, [], [], false⟩ (acts.take k)) po co fo lo do_ pc cc fc lc dc wr) (fun _ _ _ i _ => n - (intOf i).toNat)
  case atStart => exact ⟨0, po, co, fo, none, none, pc, cc, fc, 0, 0, Nat.zero_le _, rfl, rfl, rfl, rfl, s4⟩
  case round =>
   clear s4
   obtain ⟨k, po, co, fo, lo, do_, pc, cc, fc, lc, dc, hk, rfl, rfl, rfl, rfl, s5⟩ := hrel
   have hsn := Hsnd.out k hk
   by_cases hlt : k < n
   .
    have hlt2 : k < acts.length := by rw [Hn.out]; exact hlt
    obtain ⟨b, off, ao, bo, eo, qo, ac, bc, ec, qc, rfl, k0, k1, k2, k3, k4, k5, hok⟩ := hacts k hlt2
    have hb : b < w.heap.size := World.block_lt_of_cell? w _ k0
    have c0 := (s5.below.cell hb).trans k0
    have c1 := (s5.below.cell hb).trans k1
    have c2 := (s5.below.cell hb).trans k2
    have c3 := (s5.below.cell hb).trans k3
    have c4 := (s5.below.cell hb).trans k4
    have c5 := (s5.below.cell hb).trans k5
    have lB : b < wr.heap.size := znL hb s5.below.size
    have hst := rsAt_take (s := ⟨y0, [], [], false⟩) hlt2
    have hfa := Hfa.out acts[k] (List.getElem_mem hlt2)
    have hsn1 := Hsnd.out (k + 1) (by omega)
    rw [hst] at hsn1
    obtain ⟨a, hae⟩ : ∃ a, acts[k] = a := ⟨_, rfl⟩
    obtain ⟨s, hse⟩ : ∃ s, rsAt ⟨y0, [], [], false⟩ (acts.take k) = s := ⟨_, rfl⟩
    rw [hae] at c0 c1 c2 c3 c4 c5 hok hst hfa hsn1
    rw [hse] at hst hsn s5 hsn1 |-
    have Hst := zhI hst
    have Hsn := zhI hsn
    have Hsn1 := zhI hsn1
    have Hok := zhI hok
    have Hfit := zhI hfa
    clear k0 k1 k2 k3 k4 k5 hok hst hsn hfa hae hse hlt2 hsn1 hacts
    obtain ⟨y, l, doubt, lost⟩ := s
    simp only at s5 |-
    obtain ⟨ab, habe⟩ : ∃ ab, wr.heap.size = ab := ⟨_, rfl⟩
    have hbo := Below.one wr (.cells (actBC a ao bo eo qo ac bc ec qc) 54)
    have xa : Bx (wr.alloc (.cells (actBC a ao bo eo qo ac bc ec qc) 54)) ab (actBC a ao bo eo qo ac bc ec qc) 54 := Bx.newAt _ _ _ _ habe.symm
    have s6 := s5.next hbo
    have Hab := zhI (show ab ≠ yb /\ yb < ab from by have := s5.box.lt; omega)
    have hdo := fun W (hb : Below w.heap.size w W) (v : Value) (hv : IxT W v y) (hl : KvsAt W lo l) => rn_Do42 y v a ao bo eo qo ac bc ec qc l lo lc W hv (Hok.out.below hb) Hfit.out hl s5.sl (by have := Hsn.out.few; simp only at this; omega)
    obtain ⟨F, er, hF⟩ : ∃ F er, doX y a l = (F, er) := ⟨_, _, rfl⟩
    rw [hF] at hdo
    have Hdo := zhI (hdo _ s6.below _ s6.val s6.kl)
    have HF := zhI hF
    clear hdo hF hbo s5
    have cy := s6.box.cell
    have ly := s6.box.lt
    have S6 := zhI s6
    have Xa := zhI xa
    simp only at cy
    unfold ixC at cy
    clear s6 xa
    cases lost with
    | true =>
     cases g3 : (a.kind != 3)
     rotate_left
     .
      have HE : Hid (rstep ⟨y, l, doubt, true⟩ a = ⟨y, l, doubt, true⟩) := zhI (by unfold rstep; rw [if_pos ⟨rfl, by simpa using g3⟩])
      have S9 := S6
      clear Hdo cy ly
      go_wp2
      go_roundw
      case rel =>
       refine ⟨k + 1, _, _, _, _, _, _, _, _, _, _, by omega, by go_num, ?_, ?_, ?_, by rw [Hst.out, HE.out]; exact S9.out⟩
       .
        rw [Hst.out, HE.out]
       .
        rw [Hst.out, HE.out]
       .
        rw [Hst.out, HE.out]
      case measure => simp [intOf]; omega
     .
      have k3 : a.kind = 3 := by simpa using g3
      have her : er = 0 := by
       have := Hsn.out.woke (a := a) rfl k3
       simp only at this
       rw [HF.out] at this
       exact this
      subst her
      obtain ⟨m, f, hmf⟩ : ∃ m f, scanPP F ByteArray.empty ByteArray.empty = (m, f) := ⟨_, _, rfl⟩
      have hE0 : rstep ⟨y, l, doubt, true⟩ a = ⟨F, if f = 0 /\ m = doubt then doubt else l, doubt, false⟩ := by
       unfold rstep
       rw [if_neg (by simp [k3])]
       simp only [HF.out]
       rw [if_neg (by simp), if_neg (by decide), if_neg (by omega), if_pos ⟨k3, trivial⟩, hmf]
      have hpl : ∀ t, validP F = some t -> (pairsO t).length <= 1000000 := fun t ht => by
       have h1 := Hsn1.out
       rw [hE0] at h1
       have h2 := h1.valid rfl t ht
       have h3 := h1.len.1
       rw [h2]
       omega
      have kd0 : (a.kind == 0) = false := by rw [k3]; rfl
      have kd1 : (a.kind == 1) = false := by rw [k3]; rfl
      have kd3 : (a.kind == 3) = true := by rw [k3]; rfl
      have HE0 := zhI (zaI hE0 (zaI hpl hmf))
      clear k3 hE0 hpl hmf
      go_wp2_with fail
      refine Hdo.out.mono ?_
      rintro e w5 ⟨v5, rfl, hF5, hb5⟩
      have hF6 := hF5
      obtain ⟨gp, hp, gc, hc, gf, hf, rfl, -, -, -⟩ := hF5
      have s7 := S6.out.next hb5
      have xa7 := Xa.out.belowAll hb5
      have hbo := Below.one w5 (.cells (ixC F.disk gp gc hp hc F.frm F.til F.ver F.root gf F.free.length hf) 33)
      have xn := Bx.new w5 (ixC F.disk gp gc hp hc F.frm F.til F.ver F.root gf F.free.length hf) 33
      have s8 := s7.next hbo
      have xa8 := xa7.belowAll hbo
      have hF8 := hF6.below hbo
      obtain ⟨W8, hW8⟩ : ∃ W8, w5.alloc (.cells (ixC F.disk gp gc hp hc F.frm F.til F.ver F.root gf F.free.length hf) 33) = W8 := ⟨_, rfl⟩
      rw [hW8] at xn s8 xa8 hF8
      obtain ⟨W9, hW9⟩ : ∃ W9, st9 W8 yb (.int .i64 F.disk.size) (.slice gp F.disk.pages.length hp) (.slice gc F.disk.cache.length hc) (.int .i64 F.disk.left) (.int .i64 F.frm) (.int .i64 F.til) (.int .i64 F.ver) (.int .i64 F.root) (.slice gf F.free.length hf) = W9 := ⟨_, rfl⟩
      have s9 := s8.put hF8 hW9
      have ho : Only yb W8 W9 := by subst hW9; exact Only.nine
      have xa9 := xa8.only ho Hab.out.1
      have S8 := zhI s8
      have S9 := zhI s9
      have Xa9 := zhI xa9
      have HW9 := zhI hW9
      clear cy ly Hdo S6 Xa
      have cn := xn.cell
      have ln := xn.lt
      have cy := s8.box.cell
      have ly := s8.box.lt
      have fy := s8.box.free
      have ca := xa8.cell
      have la := xa8.lt
      have hna : ab ≠ yb := Hab.out.1
      have hnb : yb ≠ ab := fun e => hna e.symm
      simp only at cy
      unfold ixC at cn cy
      clear hF6 hb5 s7 xa7 hbo xn s8 xa8 hF8 hW9 s9 ho xa9
      have hsc := bt_Scan F _ ByteArray.empty ByteArray.empty W9 S9.out.val.v HE0.out.2.1
      rw [HE0.out.2.2] at hsc
      have Hsc := zhI hsc
      clear hsc
      go_wp2_with fail
      have HW := HW9.out
      unfold st9 st8 at HW
      rw [HW]
      refine Hsc.out.mono ?_
      rintro e w10 ⟨hb10, v10, rfl, hP⟩
      obtain ⟨mo, mc, rfl, hms, hmr⟩ := PairsR.at hP
      have s10 := S9.out.next hb10
      have S10 := zhI s10
      clear Hsc HW cn ln cy ly fy ca la hna hnb hW8 hP hb10 s10
      cases gf : (f == 0)
      .
       have HE : Hid (rstep ⟨y, l, doubt, true⟩ a = ⟨F, l, doubt, false⟩) := zhI (by rw [HE0.out.1, if_neg (fun h => by simp [h.1] at gf)])
       have S9 := zhI (S10.out.lists false S10.out.kl S10.out.sl S10.out.kd S10.out.sd)
       clear hms hmr
       go_wp2
       go_roundw
       case rel =>
        refine ⟨k + 1, _, _, _, _, _, _, _, _, _, _, by omega, by go_num, ?_, ?_, ?_, by rw [Hst.out, HE.out]; exact S9.out⟩
        .
         rw [Hst.out, HE.out]
        .
         rw [Hst.out, HE.out]
        .
         rw [Hst.out, HE.out]
       case measure => simp [intOf]; omega
      .
       have hsp := rb_SamePairs m doubt mo do_ mc dc w10 hmr S10.out.kd (slw_len hms) (slw_len S10.out.sd)
       obtain ⟨eqb, heq⟩ : ∃ b, decide (m = doubt) = b := ⟨_, rfl⟩
       rw [heq] at hsp
       have Hsp := zhI hsp
       have Heq := zhI heq
       have hf0 : f = 0 := by simpa using gf
       have Hf0 := zhI hf0
       clear hsp heq hf0 hms hmr
       go_wp2_with fail
       refine Hsp.out.mono ?_
       rintro e w11 ⟨rfl, hb11⟩
       have s11 := S10.out.next hb11
       have S11 := zhI s11
       clear Hsp s11 hb11
       cases eqb with
       | true =>
        have HE : Hid (rstep ⟨y, l, doubt, true⟩ a = ⟨F, doubt, doubt, false⟩) := zhI (by rw [HE0.out.1, if_pos ⟨Hf0.out, of_decide_eq_true Heq.out⟩])
        have S9 := zhI (S11.out.lists false S11.out.kd S11.out.sd S11.out.kd S11.out.sd)
        go_wp2
        go_roundw
        case rel =>
         refine ⟨k + 1, _, _, _, _, _, _, _, _, _, _, by omega, by go_num, ?_, ?_, ?_, by rw [Hst.out, HE.out]; exact S9.out⟩
         .
          rw [Hst.out, HE.out]
         .
          rw [Hst.out, HE.out]
         .
          rw [Hst.out, HE.out]
        case measure => simp [intOf]; omega
       | false =>
        have HE : Hid (rstep ⟨y, l, doubt, true⟩ a = ⟨F, l, doubt, false⟩) := zhI (by rw [HE0.out.1, if_neg (fun h => of_decide_eq_false Heq.out h.2)])
        have S9 := zhI (S11.out.lists false S11.out.kl S11.out.sl S11.out.kd S11.out.sd)
        go_wp2
        go_roundw
        case rel =>
         refine ⟨k + 1, _, _, _, _, _, _, _, _, _, _, by omega, by go_num, ?_, ?_, ?_, by rw [Hst.out, HE.out]; exact S9.out⟩
         .
          rw [Hst.out, HE.out]
         .
          rw [Hst.out, HE.out]
         .
          rw [Hst.out, HE.out]
        case measure => simp [intOf]; omega
    | false =>
     go_wp2_with fail
     refine Hdo.out.mono ?_
     rintro e w5 ⟨v5, rfl, hF5, hb5⟩
     have hF6 := hF5
     obtain ⟨gp, hp, gc, hc, gf, hf, rfl, -, -, -⟩ := hF5
     have s7 := S6.out.next hb5
     have xa7 := Xa.out.belowAll hb5
     have hbo := Below.one w5 (.cells (ixC F.disk gp gc hp hc F.frm F.til F.ver F.root gf F.free.length hf) 33)
     have xn := Bx.new w5 (ixC F.disk gp gc hp hc F.frm F.til F.ver F.root gf F.free.length hf) 33
     have s8 := s7.next hbo
     have xa8 := xa7.belowAll hbo
     have hF8 := hF6.below hbo
     obtain ⟨W8, hW8⟩ : ∃ W8, w5.alloc (.cells (ixC F.disk gp gc hp hc F.frm F.til F.ver F.root gf F.free.length hf) 33) = W8 := ⟨_, rfl⟩
     rw [hW8] at xn s8 xa8 hF8
     obtain ⟨W9, hW9⟩ : ∃ W9, st9 W8 yb (.int .i64 F.disk.size) (.slice gp F.disk.pages.length hp) (.slice gc F.disk.cache.length hc) (.int .i64 F.disk.left) (.int .i64 F.frm) (.int .i64 F.til) (.int .i64 F.ver) (.int .i64 F.root) (.slice gf F.free.length hf) = W9 := ⟨_, rfl⟩
     have s9 := s8.put hF8 hW9
     have ho : Only yb W8 W9 := by subst hW9; exact Only.nine
     have xa9 := xa8.only ho Hab.out.1
     have S8 := zhI s8
     have S9 := zhI s9
     have Xa9 := zhI xa9
     have HW9 := zhI hW9
     clear cy ly Hdo S6 Xa
     have cn := xn.cell
     have ln := xn.lt
     have cy := s8.box.cell
     have ly := s8.box.lt
     have fy := s8.box.free
     have ca := xa8.cell
     have la := xa8.lt
     have hna : ab ≠ yb := Hab.out.1
     have hnb : yb ≠ ab := fun e => hna e.symm
     simp only at cy
     unfold ixC at cn cy
     clear hF6 hb5 s7 xa7 hbo xn s8 xa8 hF8 hW9 s9 ho xa9
     cases e1 : (er != 0)
     rotate_left
     .
      cases e2 : (er != 18)
      rotate_left
      .
       have HE : Hid (rstep ⟨y, l, doubt, false⟩ a = ⟨y, l, doubt, false⟩) := zhI (by
        unfold rstep
        rw [if_neg (by simp)]
        simp only [HF.out]
        rw [if_pos ⟨by simpa using e1, by simpa using e2⟩])
       have S9 := S8
       clear HW9 Xa9
       go_wp2
       go_roundw
       case rel =>
        refine ⟨k + 1, _, _, _, _, _, _, _, _, _, _, by omega, by go_num, ?_, ?_, ?_, by rw [Hst.out, HE.out]; exact S9.out⟩
        .
         rw [Hst.out, HE.out]
        .
         rw [Hst.out, HE.out]
        .
         rw [Hst.out, HE.out]
       case measure => simp [intOf]; omega
      .
       obtain rfl : er = 18 := by simpa using e2
       have hnd := Hsn.out.chgs (by omega) (a := a) (by simp) (.inl (by simp only; rw [HF.out]))
       simp only at hnd
       have hfew := chgs_few Hfit.out l
       have hlen := Hsn.out.len
       have hasc := Hsn.out.asc
       simp only at hlen hasc
       have hch := rn_Changes a ao bo eo qo ac bc ec qc l lo lc W9 (Hok.out.below S9.out.below) Hfit.out S9.out.kl S9.out.sl
       obtain ⟨cs, hcs⟩ : ∃ cs, chgsOf a l = cs := ⟨_, rfl⟩
       rw [hcs] at hch hnd hfew
       have Hch := zhI hch
       have Hcs := zhI (zaI hcs (zaI hnd (zaI hfew (zaI hlen hasc))))
       clear hch hcs hnd hfew hlen hasc
       go_wp2_with fail
       have HW := HW9.out
       unfold st9 st8 at HW
       rw [HW]
       refine Hch.out.mono ?_
       rintro e w10 ⟨oc, kc, rfl, hsc, hrc, hb10⟩
       have s10 := S9.out.next hb10
       have haf := rn_After l lo lc cs oc kc w10 s10.kl s10.sl hrc hsc (by have := Hcs.out.2.2.2.1; omega) (by have := Hcs.out.2.2.1; omega) Hcs.out.2.2.2.2 Hcs.out.2.1
       have Haf := zhI haf
       have S10 := zhI s10
       clear haf s10 hsc hrc hb10 Hch HW cn ln cy ly fy ca la hna hnb hW8
       go_wp2_with fail
       refine Haf.out.mono ?_
       rintro e w11 ⟨v11, rfl, hP, hb11⟩
       obtain ⟨mo, mc, rfl, hms, hmr⟩ := PairsR.at hP
       have s11 := S10.out.next hb11
       clear Haf S10 hP hb11
       have HE : Hid (rstep ⟨y, l, doubt, false⟩ a = ⟨F, l, applyL l cs, true⟩) := zhI (by
        unfold rstep
        rw [if_neg (by simp)]
        simp only [HF.out]
        rw [if_neg (by simp), if_pos trivial, Hcs.out.1])
       have S9 := zhI (s11.lists true s11.kl s11.sl hmr hms)
       clear s11 hms hmr
       go_wp2
       go_roundw
       case rel =>
        refine ⟨k + 1, _, _, _, _, _, _, _, _, _, _, by omega, by go_num, ?_, ?_, ?_, by rw [Hst.out, HE.out]; exact S9.out⟩
        .
         rw [Hst.out, HE.out]
        .
         rw [Hst.out, HE.out]
        .
         rw [Hst.out, HE.out]
       case measure => simp [intOf]; omega
     .
      obtain rfl : er = 0 := by simpa using e1
      cases kd0 : (a.kind == 0)
      case' false =>
       cases kd1 : (a.kind == 1)
       case' false =>
        have HE : Hid (rstep ⟨y, l, doubt, false⟩ a = ⟨F, l, doubt, false⟩) := zhI (by
         have n0 : a.kind ≠ 0 := by simpa using kd0
         have n1 : a.kind ≠ 1 := by simpa using kd1
         unfold rstep
         rw [if_neg (by simp)]
         simp only [HF.out]
         rw [if_neg (by simp), if_neg (by decide), if_neg (by omega), if_neg (by simp)])
        clear S8
        cases kd3 : (a.kind == 3)
        .
         go_wp2
         have HW := HW9.out
         unfold st9 st8 at HW
         rw [HW]
         go_roundw
         case rel =>
          refine ⟨k + 1, _, _, _, _, _, _, _, _, _, _, by omega, by go_num, ?_, ?_, ?_, by rw [Hst.out, HE.out]; exact S9.out⟩
          .
           rw [Hst.out, HE.out]
          .
           rw [Hst.out, HE.out]
          .
           rw [Hst.out, HE.out]
         case measure => simp [intOf]; omega
        .
         go_wp2
         have HW := HW9.out
         unfold st9 st8 at HW
         rw [HW]
         go_roundw
         case rel =>
          refine ⟨k + 1, _, _, _, _, _, _, _, _, _, _, by omega, by go_num, ?_, ?_, ?_, by rw [Hst.out, HE.out]; exact S9.out⟩
          .
           rw [Hst.out, HE.out]
          .
           rw [Hst.out, HE.out]
          .
           rw [Hst.out, HE.out]
         case measure => simp [intOf]; omega
       case' true => have Hkk : Hid (a.kind = 0 \/ a.kind = 1) := zhI (.inr (by simpa using kd1))
      case' true => have Hkk : Hid (a.kind = 0 \/ a.kind = 1) := zhI (.inl (by simpa using kd0))
      all_goals
       have hnd := Hsn.out.chgs (by omega) (a := a) (by simp) (.inr ⟨Hkk.out, by simp only; rw [HF.out]⟩)
       simp only at hnd
       have hfew := chgs_few Hfit.out l
       have hlen := Hsn.out.len
       have hasc := Hsn.out.asc
       simp only at hlen hasc
       have hch := rn_Changes a ao bo eo qo ac bc ec qc l lo lc W9 (Hok.out.below S9.out.below) Hfit.out S9.out.kl S9.out.sl
       obtain ⟨cs, hcs⟩ : ∃ cs, chgsOf a l = cs := ⟨_, rfl⟩
       rw [hcs] at hch hnd hfew
       have Hch := zhI hch
       have Hcs := zhI (zaI hcs (zaI hnd (zaI hfew (zaI hlen hasc))))
       clear hch hcs hnd hfew hlen hasc
       go_wp2_with fail
       have HW := HW9.out
       unfold st9 st8 at HW
       rw [HW]
       refine Hch.out.mono ?_
       rintro e w10 ⟨oc, kc, rfl, hsc, hrc, hb10⟩
       have s10 := S9.out.next hb10
       have haf := rn_After l lo lc cs oc kc w10 s10.kl s10.sl hrc hsc (by have := Hcs.out.2.2.2.1; omega) (by have := Hcs.out.2.2.1; omega) Hcs.out.2.2.2.2 Hcs.out.2.1
       have Haf := zhI haf
       have S10 := zhI s10
       clear haf s10 hsc hrc hb10 Hch HW cn ln cy ly fy ca la hna hnb hW8
       go_wp2_with fail
       refine Haf.out.mono ?_
       rintro e w11 ⟨v11, rfl, hP, hb11⟩
       obtain ⟨mo, mc, rfl, hms, hmr⟩ := PairsR.at hP
       have s11 := S10.out.next hb11
       clear Haf S10 hP hb11
       have HE : Hid (rstep ⟨y, l, doubt, false⟩ a = ⟨F, applyL l cs, doubt, false⟩) := zhI (by
        unfold rstep
        rw [if_neg (by simp)]
        simp only [HF.out]
        rw [if_neg (by simp), if_neg (by decide), if_pos Hkk.out, Hcs.out.1])
       have S9 := zhI (s11.lists false hmr hms s11.kd s11.sd)
       clear s11 hms hmr
       go_wp2
       go_roundw
       case rel =>
        refine ⟨k + 1, _, _, _, _, _, _, _, _, _, _, by omega, by go_num, ?_, ?_, ?_, by rw [Hst.out, HE.out]; exact S9.out⟩
        .
         rw [Hst.out, HE.out]
        .
         rw [Hst.out, HE.out]
        .
         rw [Hst.out, HE.out]
       case measure => simp [intOf]; omega
   .
    have hfull : rsAt ⟨y0, [], [], false⟩ (acts.take k) = rsAt ⟨y0, [], [], false⟩ acts := by rw [List.take_of_length_le (by rw [Hn.out]; omega)]
    rw [hfull] at s5 |-
    obtain ⟨s, hse⟩ : ∃ s, rsAt ⟨y0, [], [], false⟩ acts = s := ⟨_, rfl⟩
    have hRs : R = (s.y, s.l, s.y.disk.left == -1) := by rw [HRf.out, hse]
    rw [hse] at s5 |-
    have HRs := zhI hRs
    obtain ⟨y, l, doubt, lost⟩ := s
    simp only at HRs s5 |-
    clear hRs hse hfull Hsnd Hfa hsn HRf hacts
    have z1 := s5.res
    have z2 := s5.box
    have hF7 := s5.val
    have hB7 := s5.below
    have hK7 := s5.kl
    have hS7 := s5.sl
    simp only at z2 hF7 hK7 hS7
    have hyb2 := s5.hyb
    have hne1 : yb ≠ N + 1 := by omega
    have hne2 : N + 1 ≠ yb := by omega
    obtain ⟨W7, hW7⟩ : ∃ W7, W7 = wr := ⟨_, rfl⟩
    rw [<- hW7] at z1 z2 hF7 hB7 hK7 |-
    clear s5 hW7 hyb2
    obtain ⟨lb, gl⟩ : ∃ b, (y.disk.left == -1) = b := ⟨_, rfl⟩
    go_upto_region 23 with fail
    obtain ⟨Wf, hWf⟩ : ∃ Wf, st9 W7 (N + 1) (.int .i64 y.disk.size) (.slice po y.disk.pages.length pc) (.slice co y.disk.cache.length cc) (.int .i64 y.disk.left) (.int .i64 y.frm) (.int .i64 y.til) (.int .i64 y.ver) (.int .i64 y.root) (.slice fo y.free.length fc) = Wf := ⟨_, rfl⟩
    have zR : Bx Wf (N + 1) (ixC y.disk po co pc cc y.frm y.til y.ver y.root fo y.free.length fc) 33 := by subst hWf; exact z1.set9
    have zB : Below w.heap.size w Wf := by subst hWf; exact below_set9 hB7 (by omega)
    have ho : Only (N + 1) W7 Wf := by subst hWf; exact Only.nine
    have zL := hF7.only z1 (noS9 _ _ _ _ _ _ _ _ _ _ _ _ _ _ _) (by decide) ho
    have zK := hK7.only z1 (noS9 _ _ _ _ _ _ _ _ _ _ _ _ _ _ _) ho
    have HWf := zhI hWf
    have HB := zhI zB
    have HL := zhI zL
    have HK := zhI zK
    have HS := zhI hS7
    have c1 := z1.cell
    have l1 := z1.lt
    have f1 := z1.free
    have cy := z2.cell
    have ly := z2.lt
    unfold ixZ at c1
    unfold ixC at cy
    clear hWf zB ho zL zK hF7 hK7 hS7 hB7
    go_region
    all_goals
     go_wp2
     have HW := HWf.out
     unfold st9 st8 at HW
     rw [HW]
     have hbd : Below Wf.heap.size Wf Wf.drew := Below.drew (Below.refl _ Wf)
     have cZ := (zR.belowAll hbd).cell
     unfold ixC at cZ
     refine bodyPost_ret (v := .tuple #[.agg (ixC y.disk po co pc cc y.frm y.til y.ver y.root fo y.free.length fc), .slice lo l.length lc, .bool lb]) (by simp [results, Tryz.results32, go_sem, cZ, ixC]) rfl ?_
     rw [HRs.out, gl]
     exact ⟨_, lo, lc, rfl, HL.out.below hbd, HK.out.below hbd, HS.out, btr (by have := HB.out; rwa [HN.out] at this) hbd⟩
end Go.Proofs.YtlefmmhlpgmbjaaGreat
