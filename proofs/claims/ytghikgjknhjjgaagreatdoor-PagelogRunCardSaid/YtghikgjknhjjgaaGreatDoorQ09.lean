/- csexp.Read: its deferred closure, and whole. quiltref01's reader: atom. -/
import Derived.Test.YtghikgjknhjjgaaGreatDoorQ08
namespace Go.Proofs.YtghikgjknhjjgaaGreatDoor
set_option maxRecDepth 100000
open Go.RowKit
def CatchesS (X Nn E : Nat) (er : Int) (older : List PanicEntry) (w : World) (e : Ending) (u' : FrameMode) (w' : World) : Prop :=
 e = .returned (.tuple #[]) ∧ u' = .panicking ({ v := failV er, recovered := true } :: older) ∧ Bx w' X #[.bool false, .string ⟨#[]⟩, .slice none 0 0] 123 ∧ Bx w' Nn #[.int .i64 0] 3 ∧ Bx w' E #[.int .i64 er] 37 ∧ ∀ B, B ≤ X → B ≤ Nn → B ≤ E → B ≤ w.heap.size → Below B w w'
theorem cs_catch (X Nn E : Nat) (er : Int) (older : List PanicEntry) (w : World) (b i l n z : Value)
  (hX : Bx w X #[b, i, l] 123) (hN : Bx w Nn #[n] 3) (hE : Bx w E #[z] 37) (n1 : X ≠ Nn) (n2 : X ≠ E) (n3 : Nn ≠ E) :
  CallsD Tryz.prog 103 #[.pointer (some ⟨X, 0, none⟩), .pointer (some ⟨Nn, 0, none⟩), .pointer (some ⟨E, 0, none⟩)] (.panicking ({ v := failV er, recovered := false } :: older)) w (CatchesS X Nn E er older w) := by
 refine callsD_of_wpS Tryz.func103 rfl fun c₀ cs hu => ?_
 have hAs : ∀ W, (Instr.typeAssert (failV er) 20 144 true).run Tryz.prog W = .ok (.tuple #[.agg #[.int .i64 er], .bool true]) W := by
  intro W
  simp [failV, Instr.typeAssert, go_sem]
 apply wpS_seq
 apply wpS_region
 simp only [Tryz.ntmps103, List.size_toArray, List.length_cons, List.length_nil, Nat.reduceAdd, Nat.reduceSub, Array.replicate_succ, Array.replicate_zero, List.push_toArray, List.append_toArray, List.nil_append, List.cons_append]
 simp [wpOpsS, go_sem, recoverD, hu, Exit.thenS]
 refine wpS_of_wp ?_
 go_wp2
 have xX := hX.alloc (.cells #[.int .i64 er] 144)
 have xN := hN.alloc (.cells #[.int .i64 er] 144)
 have xE := hE.alloc (.cells #[.int .i64 er] 144)
 have xF := Bx.new w #[.int .i64 er] 144
 have hz : ∀ B, B ≤ w.heap.size → Below B w (w.alloc (.cells #[.int .i64 er] 144)) := fun B hB => (Below.refl B w).alloc hB _
 have hlX := hX.lt
 have hlN := hN.lt
 have hlE := hE.lt
 obtain ⟨F, hF⟩ : ∃ F, w.heap.size = F := ⟨_, rfl⟩
 generalize w.alloc (.cells #[.int .i64 er] 144) = W at *
 rw [hF] at xF hlX hlN hlE hz ⊢
 have cX := xX.cell
 have fX := xX.free
 have lX := xX.lt
 have cN := xN.cell
 have fN := xN.free
 have lN := xN.lt
 have cE := xE.cell
 have fE := xE.free
 have lE := xE.lt
 have cF := xF.cell
 have nX : ¬ (X = F) := by omega
 have nN : ¬ (Nn = F) := by omega
 have nE : ¬ (E = F) := by omega
 have n1' : ¬ (Nn = X) := fun h => n1 h.symm
 have n2' : ¬ (E = X) := fun h => n2 h.symm
 have n3' : ¬ (E = Nn) := fun h => n3 h.symm
 go_region
 have zX := ((((xX.set 0 (.bool false)).set 1 (.string ⟨#[]⟩)).set 2 (.slice none 0 0)).setO (a := ⟨Nn, 0, none⟩) n1 (.int .i64 0)).setO (a := ⟨E, 0, none⟩) n2 (.int .i64 er)
 have zN := ((((xN.setO (a := ⟨X, 0, none⟩) n1' (.bool false)).setO (a := ⟨X, 1, none⟩) n1' (.string ⟨#[]⟩)).setO (a := ⟨X, 2, none⟩) n1' (.slice none 0 0)).set 0 (.int .i64 0)).setO (a := ⟨E, 0, none⟩) n3 (.int .i64 er)
 have zE := ((((xE.setO (a := ⟨X, 0, none⟩) n2' (.bool false)).setO (a := ⟨X, 1, none⟩) n2' (.string ⟨#[]⟩)).setO (a := ⟨X, 2, none⟩) n2' (.slice none 0 0)).setO (a := ⟨Nn, 0, none⟩) n3' (.int .i64 0)).set 0 (.int .i64 er)
 refine ⟨rfl, _, rfl, .tuple #[], results_none rfl _ _ _, rfl, rfl, by simpa using zX.drew, by simpa using zN.drew, by simpa using zE.drew, fun B h1 h2 h3 h4 => ?_⟩
 exact (((((((hz B (by omega)).setCell (p := ⟨X, 0, none⟩) h1 _).setCell (p := ⟨X, 1, none⟩) h1 _).setCell (p := ⟨X, 2, none⟩) h1 _).setCell (p := ⟨Nn, 0, none⟩) h2 _).setCell (p := ⟨E, 0, none⟩) h3 _)).drew
theorem cs_idle (X Nn E : Nat) (w : World) :
  CallsD Tryz.prog 103 #[.pointer (some ⟨X, 0, none⟩), .pointer (some ⟨Nn, 0, none⟩), .pointer (some ⟨E, 0, none⟩)] .returning w fun e u' w' => e = .returned (.tuple #[]) ∧ u' = .returning ∧ Below w.heap.size w w' := by
 refine callsD_of_wpS Tryz.func103 rfl fun c₀ cs hu => ?_
 have hAs : ∀ W, (Instr.typeAssert .nilIface 20 144 true).run Tryz.prog W = .ok (.tuple #[.agg #[.int .i64 0], .bool false]) W := by
  intro W
  simp [Instr.typeAssert, go_sem]
 apply wpS_seq
 apply wpS_region
 simp only [Tryz.ntmps103, List.size_toArray, List.length_cons, List.length_nil, Nat.reduceAdd, Nat.reduceSub, Array.replicate_succ, Array.replicate_zero, List.push_toArray, List.append_toArray, List.nil_append, List.cons_append]
 simp [wpOpsS, go_sem, recoverD, hu, Exit.thenS]
 refine wpS_of_wp ?_
 go_wp2
 exact ⟨rfl, .returning, by cases c₀; simp_all, .tuple #[], results_none rfl _ _ _, rfl, rfl, Below.one _ _⟩
def ReadBad (w : World) (e : Ending) (w' : World) : Prop := ∃ (isl : Bool) (atom : ByteArray) (o : Option Addr) (m c : Nat) (n er : Int), e = .returned (.tuple #[.agg #[.bool isl, .string atom, .slice o m c], .int .i64 n, .int .i64 er]) ∧ (er ≠ 0 ∨ isl = true) ∧ Below w.heap.size w w'
theorem recP_some {s : ByteArray} {q : List UInt8 × Nat} (h : recP s.data.toList = some q) : ∃ h0 : 0 < s.size, s[0] ≠ 40 ∧ atomP (s.data.toList.drop 0) = some q := by
 unfold recP at h
 split at h
 ·
  cases h
 ·
  rename_i c r he
  have h0 : 0 < s.size := by rw [← len_size, he]; simp
  have hd := drop_cons s 0 h0
  rw [List.drop_zero, he] at hd
  have hc : s[0] = c := (List.cons.inj hd).1.symm
  split at h
  ·
   cases h
  ·
   rename_i hne
   exact ⟨h0, by rw [hc]; exact hne, by rw [List.drop_zero]; exact h⟩
set_option maxHeartbeats 4000000 in
theorem cs_Read_some (s : ByteArray) (a : List UInt8) (n : Nat) (w : World) (hs : s.size ≤ 1000000000) (h : recP s.data.toList = some (a, n)) :
  Calls Tryz.prog 89 #[.string s] w fun e w' => e = .returned (.tuple #[.agg #[.bool false, .string (bs a), .slice none 0 0], .int .i64 n, .int .i64 0]) ∧ Below w.heap.size w w' := by
 have hmf : ∀ (fn : Fn) (first cap : Array Value) (w : World), (Instr.makeFunc fn first cap).run Tryz.prog w = .ok (.func fn first cap) w := fun _ _ _ _ => rfl
 obtain ⟨h0, hc, ha⟩ := recP_some h
 go_enter_defers Tryz.func89, Tryz.ntmps89
 go_wp2_with fail
 have X0 := ((((Bx.new w #[.bool false, .string ⟨#[]⟩, .slice none 0 0] 123).alloc (.cells #[.int .i64 0] 3)).alloc (.cells #[.int .i64 0] 37)).alloc (.cells #[.string s, .int .i64 0, .int .i64 0] 148))
 have X1 := (((Bx.newAt (w.alloc (.cells #[.bool false, .string ⟨#[]⟩, .slice none 0 0] 123)) #[.int .i64 0] 3 (w.heap.size + 1) (by simp)).alloc (.cells #[.int .i64 0] 37)).alloc (.cells #[.string s, .int .i64 0, .int .i64 0] 148))
 have X2 := ((Bx.newAt ((w.alloc (.cells #[.bool false, .string ⟨#[]⟩, .slice none 0 0] 123)).alloc (.cells #[.int .i64 0] 3)) #[.int .i64 0] 37 (w.heap.size + 1 + 1) (by simp)).alloc (.cells #[.string s, .int .i64 0, .int .i64 0] 148))
 have X3 : RdB _ (w.heap.size + 1 + 1 + 1) s ((0 : Nat) : Int) 0 := Bx.newAt (((w.alloc (.cells #[.bool false, .string ⟨#[]⟩, .slice none 0 0] 123)).alloc (.cells #[.int .i64 0] 3)).alloc (.cells #[.int .i64 0] 37)) #[.string s, .int .i64 0, .int .i64 0] 148 (w.heap.size + 1 + 1 + 1) (by simp)
 have HB : Below w.heap.size w ((((w.alloc (.cells #[.bool false, .string ⟨#[]⟩, .slice none 0 0] 123)).alloc (.cells #[.int .i64 0] 3)).alloc (.cells #[.int .i64 0] 37)).alloc (.cells #[.string s, .int .i64 0, .int .i64 0] 148)) := (((Below.one w _).alloc (by simp) _).alloc (by simp; omega) _).alloc (by simp; omega) _
 obtain ⟨N, hN⟩ : ∃ N, w.heap.size = N := ⟨_, rfl⟩
 rw [hN] at X0 X1 X2 X3 HB ⊢
 generalize (((w.alloc (.cells #[.bool false, .string ⟨#[]⟩, .slice none 0 0] 123)).alloc (.cells #[.int .i64 0] 3)).alloc (.cells #[.int .i64 0] 37)).alloc (.cells #[.string s, .int .i64 0, .int .i64 0] 148) = W0 at *
 have z0 := X3.lt
 refine (cs_atom W0 (N + 1 + 1 + 1) s 0 0 1 X3 h0 (by omega) (by omega) (by omega) (by omega) hc).mono ?_
 intro e w1 hA
 rw [ha] at hA
 obtain ⟨rfl, hg, hr⟩ := hA
 rw [Nat.zero_add, Int.zero_add] at hr
 have Y0 := X0.grown hg (fun e => by injection e with e; omega)
 have Y1 := X1.grown hg (fun e => by injection e with e; omega)
 have Y2 := X2.grown hg (fun e => by injection e with e; omega)
 have HB1 : Below N w w1 := HB.grown hg (by omega) (fun k e => by cases e; omega)
 have hz1 := hg.size
 clear X0 X1 X2 X3 HB hg ha h
 have c0 := Y0.cell
 have f0 := Y0.free
 have l0 := Y0.lt
 go_wp2_with fail
 have y0 := Bx.set (Bx.set (Bx.set Y0 0 (.bool false)) 1 (.string (bs a))) 2 (.slice none 0 0)
 have y1 := Bx.setO (Bx.setO (Bx.setO Y1 (a := ⟨N, 0, none⟩) (by simp) (.bool false)) (a := ⟨N, 1, none⟩) (by simp) (.string (bs a))) (a := ⟨N, 2, none⟩) (by simp) (.slice none 0 0)
 have y2 := Bx.setO (Bx.setO (Bx.setO Y2 (a := ⟨N, 0, none⟩) (by simp; omega) (.bool false)) (a := ⟨N, 1, none⟩) (by simp; omega) (.string (bs a))) (a := ⟨N, 2, none⟩) (by simp; omega) (.slice none 0 0)
 have y3 := Bx.setO (Bx.setO (Bx.setO hr (a := ⟨N, 0, none⟩) (by simp; omega) (.bool false)) (a := ⟨N, 1, none⟩) (by simp; omega) (.string (bs a))) (a := ⟨N, 2, none⟩) (by simp; omega) (.slice none 0 0)
 have HB2 := ((HB1.setCell (p := ⟨N, 0, none⟩) (Nat.le_refl _) (.bool false)).setCell (p := ⟨N, 1, none⟩) (Nat.le_refl _) (.string (bs a))).setCell (p := ⟨N, 2, none⟩) (Nat.le_refl _) (.slice none 0 0)
 simp only [List.setIfInBounds_toArray, List.set_cons_zero, List.set_cons_succ] at y0
 clear c0 f0 l0 Y0 Y1 Y2 HB1 hr hz1
 generalize ((w1.setCell ⟨N, 0, none⟩ (.bool false)).setCell ⟨N, 1, none⟩ (.string (bs a))).setCell ⟨N, 2, none⟩ (.slice none 0 0) = w2 at *
 have c0 := y0.cell
 have f0 := y0.free
 have l0 := y0.lt
 have c1 := y1.cell
 have f1 := y1.free
 have l1 := y1.lt
 have c2 := y2.cell
 have f2 := y2.free
 have l2 := y2.lt
 have c3 := y3.cell
 go_region
 go_wp2
 have z0 := (((((y0.set 0 (.bool false)).set 1 (.string (bs a))).set 2 (.slice none 0 0)).setO (a := ⟨N + 1, 0, none⟩) (by simp) (.int .i64 n)).setO (a := ⟨N + 1 + 1, 0, none⟩) (by simp; omega) (.int .i64 0)).drew
 have z1 := (((((y1.setO (a := ⟨N, 0, none⟩) (by simp) (.bool false)).setO (a := ⟨N, 1, none⟩) (by simp) (.string (bs a))).setO (a := ⟨N, 2, none⟩) (by simp) (.slice none 0 0)).set 0 (.int .i64 n)).setO (a := ⟨N + 1 + 1, 0, none⟩) (by simp) (.int .i64 0)).drew
 have z2 := (((((y2.setO (a := ⟨N, 0, none⟩) (by simp; omega) (.bool false)).setO (a := ⟨N, 1, none⟩) (by simp; omega) (.string (bs a))).setO (a := ⟨N, 2, none⟩) (by simp; omega) (.slice none 0 0)).setO (a := ⟨N + 1, 0, none⟩) (by simp) (.int .i64 n)).set 0 (.int .i64 0)).drew
 have HB3 := (((((HB2.setCell (p := ⟨N, 0, none⟩) (Nat.le_refl _) (.bool false)).setCell (p := ⟨N, 1, none⟩) (Nat.le_refl _) (.string (bs a))).setCell (p := ⟨N, 2, none⟩) (Nat.le_refl _) (.slice none 0 0)).setCell (p := ⟨N + 1, 0, none⟩) (Nat.le_succ _) (.int .i64 n)).setCell (p := ⟨N + 1 + 1, 0, none⟩) (by show N ≤ N + 1 + 1; omega) (.int .i64 0)).drew
 simp only [List.setIfInBounds_toArray, List.set_cons_zero, List.set_cons_succ] at z0 z1 z2
 generalize (((((w2.setCell ⟨N, 0, none⟩ (.bool false)).setCell ⟨N, 1, none⟩ (.string (bs a))).setCell ⟨N, 2, none⟩ (.slice none 0 0)).setCell ⟨N + 1, 0, none⟩ (.int .i64 n)).setCell ⟨N + 1 + 1, 0, none⟩ (.int .i64 0)).drew = w3 at *
 clear c0 f0 l0 c1 f1 l1 c2 f2 l2 c3 y0 y1 y2 y3 HB2
 refine leaves_cons (f := 103) (args := #[.pointer (some ⟨N, 0, none⟩), .pointer (some ⟨N + 1, 0, none⟩), .pointer (some ⟨N + 1 + 1, 0, none⟩)]) (by simp) (by simp [go_sem]) ?_
 refine (cs_idle N (N + 1) (N + 1 + 1) _).mono ?_
 rintro e u' w4 ⟨rfl, rfl, hb⟩
 have c0 := (z0.belowAll hb).cell
 have c1 := (z1.belowAll hb).cell
 have c2 := (z2.belowAll hb).cell
 refine ⟨.tuple #[.agg #[.bool false, .string (bs a), .slice none 0 0], .int .i64 n, .int .i64 0], by simp [results, Tryz.results89, go_sem, c0, c1, c2], rfl, ?_⟩
 rw [hN]
 exact HB3.trans (hb.mono (by have := z0.lt; omega))
set_option maxHeartbeats 4000000 in
theorem cs_Read_none (s : ByteArray) (w : World) (hs : s.size ≤ 1000000000) (h0 : 0 < s.size) (h : recP s.data.toList = none) :
  Calls Tryz.prog 89 #[.string s] w (ReadBad w) := by
 have hmf : ∀ (fn : Fn) (first cap : Array Value) (w : World), (Instr.makeFunc fn first cap).run Tryz.prog w = .ok (.func fn first cap) w := fun _ _ _ _ => rfl
 go_enter_defers Tryz.func89, Tryz.ntmps89
 go_wp2_with fail
 have X0 := ((((Bx.new w #[.bool false, .string ⟨#[]⟩, .slice none 0 0] 123).alloc (.cells #[.int .i64 0] 3)).alloc (.cells #[.int .i64 0] 37)).alloc (.cells #[.string s, .int .i64 0, .int .i64 0] 148))
 have X1 := (((Bx.newAt (w.alloc (.cells #[.bool false, .string ⟨#[]⟩, .slice none 0 0] 123)) #[.int .i64 0] 3 (w.heap.size + 1) (by simp)).alloc (.cells #[.int .i64 0] 37)).alloc (.cells #[.string s, .int .i64 0, .int .i64 0] 148))
 have X2 := ((Bx.newAt ((w.alloc (.cells #[.bool false, .string ⟨#[]⟩, .slice none 0 0] 123)).alloc (.cells #[.int .i64 0] 3)) #[.int .i64 0] 37 (w.heap.size + 1 + 1) (by simp)).alloc (.cells #[.string s, .int .i64 0, .int .i64 0] 148))
 have X3 : RdB _ (w.heap.size + 1 + 1 + 1) s ((0 : Nat) : Int) 0 := Bx.newAt (((w.alloc (.cells #[.bool false, .string ⟨#[]⟩, .slice none 0 0] 123)).alloc (.cells #[.int .i64 0] 3)).alloc (.cells #[.int .i64 0] 37)) #[.string s, .int .i64 0, .int .i64 0] 148 (w.heap.size + 1 + 1 + 1) (by simp)
 have HB : Below w.heap.size w ((((w.alloc (.cells #[.bool false, .string ⟨#[]⟩, .slice none 0 0] 123)).alloc (.cells #[.int .i64 0] 3)).alloc (.cells #[.int .i64 0] 37)).alloc (.cells #[.string s, .int .i64 0, .int .i64 0] 148)) := (((Below.one w _).alloc (by simp) _).alloc (by simp; omega) _).alloc (by simp; omega) _
 obtain ⟨N, hN⟩ : ∃ N, w.heap.size = N := ⟨_, rfl⟩
 rw [hN] at X0 X1 X2 X3 HB ⊢
 generalize (((w.alloc (.cells #[.bool false, .string ⟨#[]⟩, .slice none 0 0] 123)).alloc (.cells #[.int .i64 0] 3)).alloc (.cells #[.int .i64 0] 37)).alloc (.cells #[.string s, .int .i64 0, .int .i64 0] 148) = W0 at *
 have z0 := X3.lt
 have hany : Calls Tryz.prog 104 #[.pointer (some ⟨N + 1 + 1 + 1, 0, none⟩), .int .i64 1] W0 (fun e w' => FailsB (N + 1 + 1 + 1) W0 e w' ∨ (∃ (atom : ByteArray) (o : Option Addr) (m c k' : Nat) (nodes' : Int), e = .returned (.agg #[.bool true, .string atom, .slice o m c]) ∧ W0.grownBy w' (some (N + 1 + 1 + 1)) ∧ RdB w' (N + 1 + 1 + 1) s k' nodes')) := by
  by_cases hc : s[0] = 40
  ·
   refine (cs_any s.size W0 (N + 1 + 1 + 1) s 0 0 1 X3 (by omega) (by omega) hs (by omega) (by omega) (by omega) (by omega)).mono ?_
   rintro e w' (hF | ⟨isl, at2, o, m, c, k', n', rfl, hg, hr, _, _, _, _, hl⟩)
   ·
    exact .inl hF
   ·
    obtain rfl := hl h0 hc
    exact .inr ⟨at2, o, m, c, k', n', rfl, hg, hr⟩
  ·
   refine (cs_atom W0 (N + 1 + 1 + 1) s 0 0 1 X3 h0 (by omega) (by omega) (by omega) (by omega) hc).mono ?_
   intro e w' hA
   have hn : atomP (s.data.toList.drop 0) = none := by
    rw [List.drop_zero]
    have hd := drop_cons s 0 h0
    rw [List.drop_zero] at hd
    unfold recP at h
    rw [hd] at h ⊢
    simpa [hc] using h
   rw [hn] at hA
   exact .inl hA
 refine hany.mono ?_
 rintro e w1 (⟨er, her, rfl, hg⟩ | ⟨at2, o, m, c, k', n', rfl, hg, hr⟩)
 ·
  have Y0 := X0.grown hg (fun e => by injection e with e; omega)
  have Y1 := X1.grown hg (fun e => by injection e with e; omega)
  have Y2 := X2.grown hg (fun e => by injection e with e; omega)
  have HB1 : Below N w w1 := HB.grown hg (by omega) (fun k e => by cases e; omega)
  refine leaves_cons (f := 103) (args := #[.pointer (some ⟨N, 0, none⟩), .pointer (some ⟨N + 1, 0, none⟩), .pointer (some ⟨N + 1 + 1, 0, none⟩)]) (by simp) (by simp [go_sem]) ?_
  refine (cs_catch N (N + 1) (N + 1 + 1) er [] w1 _ _ _ _ _ Y0 Y1 Y2 (by omega) (by omega) (by omega)).mono ?_
  rintro e u' w4 ⟨rfl, rfl, z0, z1, z2, hb⟩
  have c0 := z0.cell
  have c1 := z1.cell
  have c2 := z2.cell
  refine ⟨.tuple #[.agg #[.bool false, .string ⟨#[]⟩, .slice none 0 0], .int .i64 0, .int .i64 er], by simp [results, Tryz.results89, go_sem, c0, c1, c2], false, _, _, _, _, _, _, rfl, .inl her, ?_⟩
  rw [hN]
  exact HB1.trans (hb N (Nat.le_refl _) (by omega) (by omega) (by have := hg.size; omega))
 ·
  have Y0 := X0.grown hg (fun e => by injection e with e; omega)
  have Y1 := X1.grown hg (fun e => by injection e with e; omega)
  have Y2 := X2.grown hg (fun e => by injection e with e; omega)
  have HB1 : Below N w w1 := HB.grown hg (by omega) (fun k e => by cases e; omega)
  have hz1 := hg.size
  clear X0 X1 X2 X3 HB hg h
  have c0 := Y0.cell
  have f0 := Y0.free
  have l0 := Y0.lt
  go_wp2_with fail
  have y0 := Bx.set (Bx.set (Bx.set Y0 0 (.bool true)) 1 (.string at2)) 2 (.slice o m c)
  have y1 := Bx.setO (Bx.setO (Bx.setO Y1 (a := ⟨N, 0, none⟩) (by simp) (.bool true)) (a := ⟨N, 1, none⟩) (by simp) (.string at2)) (a := ⟨N, 2, none⟩) (by simp) (.slice o m c)
  have y2 := Bx.setO (Bx.setO (Bx.setO Y2 (a := ⟨N, 0, none⟩) (by simp; omega) (.bool true)) (a := ⟨N, 1, none⟩) (by simp; omega) (.string at2)) (a := ⟨N, 2, none⟩) (by simp; omega) (.slice o m c)
  have y3 := Bx.setO (Bx.setO (Bx.setO hr (a := ⟨N, 0, none⟩) (by simp; omega) (.bool true)) (a := ⟨N, 1, none⟩) (by simp; omega) (.string at2)) (a := ⟨N, 2, none⟩) (by simp; omega) (.slice o m c)
  have HB2 := ((HB1.setCell (p := ⟨N, 0, none⟩) (Nat.le_refl _) (.bool true)).setCell (p := ⟨N, 1, none⟩) (Nat.le_refl _) (.string at2)).setCell (p := ⟨N, 2, none⟩) (Nat.le_refl _) (.slice o m c)
  simp only [List.setIfInBounds_toArray, List.set_cons_zero, List.set_cons_succ] at y0
  clear c0 f0 l0 Y0 Y1 Y2 HB1 hr hz1
  generalize ((w1.setCell ⟨N, 0, none⟩ (.bool true)).setCell ⟨N, 1, none⟩ (.string at2)).setCell ⟨N, 2, none⟩ (.slice o m c) = w2 at *
  have c0 := y0.cell
  have f0 := y0.free
  have l0 := y0.lt
  have c1 := y1.cell
  have f1 := y1.free
  have l1 := y1.lt
  have c2 := y2.cell
  have f2 := y2.free
  have l2 := y2.lt
  have c3 := y3.cell
  go_region
  go_wp2
  have z0 := (((((y0.set 0 (.bool true)).set 1 (.string at2)).set 2 (.slice o m c)).setO (a := ⟨N + 1, 0, none⟩) (by simp) (.int .i64 k')).setO (a := ⟨N + 1 + 1, 0, none⟩) (by simp; omega) (.int .i64 0)).drew
  have z1 := (((((y1.setO (a := ⟨N, 0, none⟩) (by simp) (.bool true)).setO (a := ⟨N, 1, none⟩) (by simp) (.string at2)).setO (a := ⟨N, 2, none⟩) (by simp) (.slice o m c)).set 0 (.int .i64 k')).setO (a := ⟨N + 1 + 1, 0, none⟩) (by simp) (.int .i64 0)).drew
  have z2 := (((((y2.setO (a := ⟨N, 0, none⟩) (by simp; omega) (.bool true)).setO (a := ⟨N, 1, none⟩) (by simp; omega) (.string at2)).setO (a := ⟨N, 2, none⟩) (by simp; omega) (.slice o m c)).setO (a := ⟨N + 1, 0, none⟩) (by simp) (.int .i64 k')).set 0 (.int .i64 0)).drew
  have HB3 := (((((HB2.setCell (p := ⟨N, 0, none⟩) (Nat.le_refl _) (.bool true)).setCell (p := ⟨N, 1, none⟩) (Nat.le_refl _) (.string at2)).setCell (p := ⟨N, 2, none⟩) (Nat.le_refl _) (.slice o m c)).setCell (p := ⟨N + 1, 0, none⟩) (Nat.le_succ _) (.int .i64 k')).setCell (p := ⟨N + 1 + 1, 0, none⟩) (by show N ≤ N + 1 + 1; omega) (.int .i64 0)).drew
  simp only [List.setIfInBounds_toArray, List.set_cons_zero, List.set_cons_succ] at z0 z1 z2
  generalize (((((w2.setCell ⟨N, 0, none⟩ (.bool true)).setCell ⟨N, 1, none⟩ (.string at2)).setCell ⟨N, 2, none⟩ (.slice o m c)).setCell ⟨N + 1, 0, none⟩ (.int .i64 k')).setCell ⟨N + 1 + 1, 0, none⟩ (.int .i64 0)).drew = w3 at *
  clear c0 f0 l0 c1 f1 l1 c2 f2 l2 c3 y0 y1 y2 y3 HB2
  refine leaves_cons (f := 103) (args := #[.pointer (some ⟨N, 0, none⟩), .pointer (some ⟨N + 1, 0, none⟩), .pointer (some ⟨N + 1 + 1, 0, none⟩)]) (by simp) (by simp [go_sem]) ?_
  refine (cs_idle N (N + 1) (N + 1 + 1) _).mono ?_
  rintro e u' w4 ⟨rfl, rfl, hb⟩
  have c0 := (z0.belowAll hb).cell
  have c1 := (z1.belowAll hb).cell
  have c2 := (z2.belowAll hb).cell
  refine ⟨.tuple #[.agg #[.bool true, .string at2, .slice o m c], .int .i64 k', .int .i64 0], by simp [results, Tryz.results89, go_sem, c0, c1, c2], true, _, _, _, _, _, _, rfl, .inr rfl, ?_⟩
  rw [hN]
  exact HB3.trans (hb.mono (by have := z0.lt; omega))
end Go.Proofs.YtghikgjknhjjgaaGreatDoor
namespace Go.Proofs.YtghikgjknhjjgaaGreatDoor
set_option maxRecDepth 100000
open Go.RowKit
def rdV (s : ByteArray) (k left e : Int) : Value := .agg #[.string s, .int .i64 k, .int .i64 left, .int .i64 e]
abbrev rdC (s : ByteArray) (k left e : Int) : Array Value := #[.string s, .int .i64 k, .int .i64 left, .int .i64 e]
theorem atomP_len {L : List UInt8} (h : lenP L true 0 = none) : atomP L = none := by unfold atomP; rw [h]
theorem lenP_digit {c : UInt8} (r : List UInt8) (f : Bool) (m : Nat) (h1 : 48 ≤ c.toNat) (h2 : c.toNat ≤ 57) : lenP (c :: r) f m = if f = false ∧ m = 0 then none else if 65536 < 10 * m + (c.toNat - 48) then none else lenP r false (10 * m + (c.toNat - 48)) := by
 have h58 : ¬ c = 58 := fun e => by rw [e] at h2; exact absurd h2 (by decide)
 rw [lenP, if_neg (fun h => h58 h.1)]
 by_cases h : f = false ∧ m = 0
 ·
  rw [if_pos h, if_pos (Or.inr (Or.inr h))]
 ·
  rw [if_neg h, if_neg (fun h' => by rcases h' with h' | h' | h'; omega; omega; exact h h')]
theorem lenP_other {c : UInt8} (r : List UInt8) (f : Bool) (m : Nat) (h : c.toNat < 48 ∨ 57 < c.toNat) : lenP (c :: r) f m = if c = 58 ∧ f = false then some (m, r) else none := by
 rw [lenP]
 split
 ·
  rfl
 ·
  rw [if_pos (by omega)]
/-- what atom hands back -/
def AtomR (s : ByteArray) (k : Nat) (left : Int) (w : World) : Option (List UInt8 × Nat) → Ending → World → Prop
 | some (a, n), e, w' => e = .returned (.tuple #[.string (bs a), rdV s ((k + n : Nat) : Int) left 0]) ∧ Below w.heap.size w w'
 | none, e, w' => ∃ (a : ByteArray) (p : Nat) (er : Int), e = .returned (.tuple #[.string a, rdV s p left er]) ∧ er ≠ 0 ∧ p ≤ s.size ∧ Below w.heap.size w w'
set_option maxHeartbeats 40000000 in
theorem rf_atom (w : World) (s : ByteArray) (k : Nat) (left : Int) (hk : k ≤ s.size) (hs : s.size ≤ 1000000000) :
  Calls Tryz.prog 118 #[rdV s k left 0] w (AtomR s k left w (atomP (s.data.toList.drop k))) := by
 obtain ⟨R, hR⟩ : ∃ R, atomP (s.data.toList.drop k) = R := ⟨_, rfl⟩
 have HR := Lib.hid hR
 rw [hR]
 clear hR
 unfold rdV
 have X0 := (Bx.new w (rdC s k left 0) 156).alloc (.cells #[.string ⟨#[]⟩, .int .i64 0, .int .i64 0, .int .i64 0] 156)
 have X1 := Bx.newAt (w.alloc (.cells (rdC s k left 0) 156)) #[.string ⟨#[]⟩, .int .i64 0, .int .i64 0, .int .i64 0] 156 (w.heap.size + 1) (by simp)
 have HB := (Below.one w (.cells (rdC s k left 0) 156)).alloc (by simp) (.cells #[.string ⟨#[]⟩, .int .i64 0, .int .i64 0, .int .i64 0] 156)
 go_enter Tryz.func118, Tryz.ntmps118
 obtain ⟨N, hN⟩ : ∃ N, w.heap.size = N := ⟨_, rfl⟩
 have c0 := X0.cell 1
 simp only [List.getElem?_toArray, List.getElem?_cons_succ, List.getElem?_cons_zero] at c0
 go_wp2_with fail
 go_quiet (fail)
 have Z0 := X0.drewN nq
 have Z1 := X1.drewN nq
 have ZB := Below.drewN HB nq
 rw [hN] at Z0 Z1 ZB
 clear c0 X0 X1 HB
 go_wp2_with fail
 generalize ((w.alloc (.cells (rdC s k left 0) 156)).alloc (.cells #[.string ⟨#[]⟩, .int .i64 0, .int .i64 0, .int .i64 0] 156)).drewN nq = W0 at *
 go_loopw [4, 10] (fun n _ wr => ∃ (p m : Nat), k ≤ p ∧ p ≤ s.size ∧ n = .int .i64 m ∧ m ≤ 65536 ∧ Bx wr N (rdC s p left 0) 156 ∧ Bx wr (N + 1) #[.string ⟨#[]⟩, .int .i64 0, .int .i64 0, .int .i64 0] 156 ∧ Below N w wr ∧ Hid (lenP (s.data.toList.drop k) true 0 = lenP (s.data.toList.drop p) (decide (p = k)) m) ∧
  Hid ((p = k ∧ m = 0) ∨ (k < p ∧ ∃ h : k < s.size, (m = 0 ∧ s[k] = 48 ∧ p = k + 1) ∨ (1 ≤ m ∧ s[k] ≠ 48)))) (fun _ _ wr => s.size - atW wr N)
 case atStart => exact ⟨k, 0, Nat.le_refl _, hk, rfl, by omega, Z0, Z1, ZB, Lib.hid (by simp), Lib.hid (.inl ⟨rfl, rfl⟩)⟩
 case round =>
  clear Z0 Z1 ZB
  obtain ⟨p, m, hkp, hps, rfl, hm, X0, X1, HB, hv, hz⟩ := hrel
  have g0 : wr.cell? ⟨N, 0, none⟩ = some (.string s) := X0.cell 0
  have g1 : wr.cell? ⟨N, 1, none⟩ = some (.int .i64 p) := X0.cell 1
  have g2 : wr.cell? ⟨N, 2, none⟩ = some (.int .i64 left) := X0.cell 2
  have g3 : wr.cell? ⟨N, 3, none⟩ = some (.int .i64 0) := X0.cell 3
  have f0 := X0.free
  have l0 := X0.lt
  have q0 : wr.cell? ⟨N + 1, 0, none⟩ = some (.string ⟨#[]⟩) := X1.cell 0
  have q1 : wr.cell? ⟨N + 1, 1, none⟩ = some (.int .i64 0) := X1.cell 1
  have q2 : wr.cell? ⟨N + 1, 2, none⟩ = some (.int .i64 0) := X1.cell 2
  have q3 : wr.cell? ⟨N + 1, 3, none⟩ = some (.int .i64 0) := X1.cell 3
  have f1 := X1.free
  have l1 := X1.lt
  by_cases hlt : p < s.size
  ·
   have hpi : (p : Int) < (s.size : Int) := by omega
   have hdr := Lib.hid (drop_cons s p hlt)
   obtain ⟨c, hc⟩ : ∃ c, s[p] = c := ⟨_, rfl⟩
   have hcb := c.toNat_lt
   rw [hc] at hdr
   cases e48 : decide ((c.toNat : Int) < 48)
   ·
    have n48 := of_decide_eq_false e48
    cases e57 : decide (57 < (c.toNat : Int))
    ·
     have n57 := of_decide_eq_false e57
     have n48' : 48 ≤ (c.toNat : Int) := by omega
     have n57' : (c.toNat : Int) ≤ 57 := by omega
     have hD : ∃ D : Nat, c.toNat = 48 + D := ⟨c.toNat - 48, by omega⟩
     obtain ⟨D, hD⟩ := hD
     have hD9 : D ≤ 9 := by omega
     have hv' := hv.out
     rw [hdr.out, lenP_digit _ _ _ (by omega) (by omega), show c.toNat - 48 = D by omega] at hv'
     have hv' := Lib.hid hv'
     have hcD : (c.toNat : Int) - 48 = (D : Int) := by omega
     have HD := Lib.hid hD
     clear hD
     by_cases hbig : 65536 < m * 10 + D
     ·
      have t1 : 65536 < (m : Int) * 10 + (D : Int) := by omega
      have hRn : R = none := by
       rw [← HR.out]; refine atomP_len ?_; rw [hv'.out]
       split
       ·
        rfl
       ·
        rw [if_pos (by omega)]
      have HRn := Lib.hid hRn
      clear hRn
      go_wp2_with fail
      obtain ⟨P, hP⟩ : ∃ P, p + 1 = P := ⟨_, rfl⟩
      obtain ⟨E, hE0⟩ : ∃ E : Int, 12 = E := ⟨_, rfl⟩
      have hPi : (p : Int) + 1 = (P : Int) := by omega
      have hE : E ≠ 0 := by omega
      have Y0 := Bx.set (Bx.set X0 1 (.int .i64 ((p : Int) + 1))) 3 (.int .i64 12)
      have Y1 := Bx.setO (Bx.setO X1 (a := ⟨N, 1, none⟩) (by simp) (.int .i64 ((p : Int) + 1))) (a := ⟨N, 3, none⟩) (by simp) (.int .i64 12)
      have HB1 := below_set1 (b := N) (k := 3) (v := .int .i64 12) (below_set1 (b := N) (k := 1) (v := .int .i64 ((p : Int) + 1)) HB (Nat.le_refl _)) (Nat.le_refl _)
      simp only [rdC, List.setIfInBounds_toArray, List.set_cons_zero, List.set_cons_succ] at Y0
      generalize (wr.setCell ⟨N, 1, none⟩ (.int .i64 ((p : Int) + 1))).setCell ⟨N, 3, none⟩ (.int .i64 12) = W1 at *
      rw [hPi, hE0] at Y0
      clear g0 g1 g2 g3 f0 l0 q0 q1 q2 q3 f1 l1 hPi hE0
      have hP : P ≤ s.size := by omega
      have z0 := Y0.cell
      have zd := Y1.cell
      have zf := Y1.free
      have zl := Y1.lt
      go_region
      have Z1 := (Bx.set4 Y1 (v0 := .string s) (v1 := .int .i64 (P : Int)) (v2 := .int .i64 left) (v3 := .int .i64 (E : Int))).drew
      have HB2 := (below_set4 (b := N + 1) HB1 (by omega) (v0 := .string s) (v1 := .int .i64 (P : Int)) (v2 := .int .i64 left) (v3 := .int .i64 (E : Int))).drew
      generalize World.drew _ = W2 at *
      clear z0 zd zf zl
      have zc := Z1.cell
      go_wp2
      rw [HRn.out]
      refine bodyPost_ret (v := .tuple #[.string ⟨#[]⟩, .agg (rdC s P left E)]) (by simp [results, Tryz.results118, go_sem, zc]) rfl ⟨_, P, E, rfl, hE, hP, ?_⟩
      rw [hN]
      exact HB2
     ·
      have t1 : ¬ 65536 < (m : Int) * 10 + (D : Int) := by omega
      have hX' : Bx (wr.setCell ⟨N, 1, none⟩ (.int .i64 ((p : Int) + 1))) N (rdC s ((p + 1 : Nat) : Int) left 0) 156 := Bx.set X0 1 (.int .i64 ((p : Int) + 1))
      have hX' := Lib.hid hX'
      have X0h := Lib.hid X0
      have X1h := Lib.hid X1
      by_cases hpk : p = k
      ·
       have t2 : ¬ (1 : Int) < (p : Int) + 1 - (k : Int) := by omega
       have hm0 : m = 0 := by rcases hz.out with h | h <;> omega
       have hv2 : Hid (lenP (s.data.toList.drop k) true 0 = lenP (s.data.toList.drop (p + 1)) (decide (p + 1 = k)) (m * 10 + D)) := Lib.hid (by
        rw [hv'.out, if_neg (by simp [hpk]), if_neg (by omega), show decide (p + 1 = k) = false by simp; omega, Nat.mul_comm])
       have hz2 : Hid ((p + 1 = k ∧ m * 10 + D = 0) ∨ (k < p + 1 ∧ ∃ h : k < s.size, (m * 10 + D = 0 ∧ s[k] = 48 ∧ p + 1 = k + 1) ∨ (1 ≤ m * 10 + D ∧ s[k] ≠ 48))) := Lib.hid (by
        subst hpk
        refine .inr ⟨by omega, hlt, ?_⟩
        rw [hc]
        have := HD.out
        by_cases hD0 : D = 0
        ·
         exact .inl ⟨by omega, UInt8.toNat_inj.1 (by show c.toNat = 48; omega), rfl⟩
        ·
         exact .inr ⟨by omega, fun e => by rw [e] at this; exact hD0 (by have h48 : (48 : UInt8).toNat = 48 := rfl; omega)⟩)
       clear hpk
       go_wp2
       go_roundw
       case rel => exact ⟨p + 1, m * 10 + D, by omega, by omega, by go_num, by omega, hX'.out, Bx.setO X1h.out (a := ⟨N, 1, none⟩) (by simp) _, below_set1 HB (Nat.le_refl _), hv2, hz2⟩
       case measure =>
        have ha : atW (wr.setCell ⟨N, 1, none⟩ (.int .i64 ((p : Int) + 1))) N = p + 1 := by
         have : (wr.setCell ⟨N, 1, none⟩ (.int .i64 ((p : Int) + 1))).cell? ⟨N, 1, none⟩ = some (.int .i64 ((p : Int) + 1)) := hX'.out.cell 1
         unfold atW; rw [this]; show ((p : Int) + 1).toNat = p + 1; omega
        have hb : atW wr N = p := by
         have : wr.cell? ⟨N, 1, none⟩ = some (.int .i64 p) := X0h.out.cell 1
         unfold atW; rw [this]; show ((p : Int)).toNat = p; omega
        rw [ha, hb]; omega
      ·
       have t2 : (1 : Int) < (p : Int) + 1 - (k : Int) := by omega
       obtain ⟨hks, hzz⟩ : ∃ h : k < s.size, (m = 0 ∧ s[k] = 48 ∧ p = k + 1) ∨ (1 ≤ m ∧ s[k] ≠ 48) := by
        rcases hz.out with h | h
        ·
         omega
        ·
         exact h.2
       have hki : (k : Int) < (s.size : Int) := by omega
       obtain ⟨z, hzc⟩ : ∃ z, s[k] = z := ⟨_, rfl⟩
       rw [hzc] at hzz
       rcases hzz with ⟨h1, h2, h3⟩ | ⟨h1, h2⟩
       ·
        have t3 : ((z.toNat : Int) == 48) = true := by rw [h2]; rfl
        have hRn : R = none := by
         rw [← HR.out]; refine atomP_len ?_; rw [hv'.out, if_pos ⟨by simpa using hpk, h1⟩]
        have HRn := Lib.hid hRn
        clear hRn h1 h2 h3 hpk
        go_wp2_with fail
        obtain ⟨P, hP⟩ : ∃ P, p + 1 = P := ⟨_, rfl⟩
        obtain ⟨E, hE0⟩ : ∃ E : Int, 12 = E := ⟨_, rfl⟩
        have hPi : (p : Int) + 1 = (P : Int) := by omega
        have hE : E ≠ 0 := by omega
        have Y0 := Bx.set (Bx.set X0 1 (.int .i64 ((p : Int) + 1))) 3 (.int .i64 12)
        have Y1 := Bx.setO (Bx.setO X1 (a := ⟨N, 1, none⟩) (by simp) (.int .i64 ((p : Int) + 1))) (a := ⟨N, 3, none⟩) (by simp) (.int .i64 12)
        have HB1 := below_set1 (b := N) (k := 3) (v := .int .i64 12) (below_set1 (b := N) (k := 1) (v := .int .i64 ((p : Int) + 1)) HB (Nat.le_refl _)) (Nat.le_refl _)
        simp only [rdC, List.setIfInBounds_toArray, List.set_cons_zero, List.set_cons_succ] at Y0
        generalize (wr.setCell ⟨N, 1, none⟩ (.int .i64 ((p : Int) + 1))).setCell ⟨N, 3, none⟩ (.int .i64 12) = W1 at *
        rw [hPi, hE0] at Y0
        clear g0 g1 g2 g3 f0 l0 q0 q1 q2 q3 f1 l1 hPi hE0
        have hP : P ≤ s.size := by omega
        have z0 := Y0.cell
        have zd := Y1.cell
        have zf := Y1.free
        have zl := Y1.lt
        go_region
        have Z1 := (Bx.set4 Y1 (v0 := .string s) (v1 := .int .i64 (P : Int)) (v2 := .int .i64 left) (v3 := .int .i64 (E : Int))).drew
        have HB2 := (below_set4 (b := N + 1) HB1 (by omega) (v0 := .string s) (v1 := .int .i64 (P : Int)) (v2 := .int .i64 left) (v3 := .int .i64 (E : Int))).drew
        generalize World.drew _ = W2 at *
        clear z0 zd zf zl
        have zc := Z1.cell
        go_wp2
        rw [HRn.out]
        refine bodyPost_ret (v := .tuple #[.string ⟨#[]⟩, .agg (rdC s P left E)]) (by simp [results, Tryz.results118, go_sem, zc]) rfl ⟨_, P, E, rfl, hE, hP, ?_⟩
        rw [hN]
        exact HB2
       ·
        have t3 : ((z.toNat : Int) == 48) = false := by
         rw [beq_eq_false_iff_ne]
         intro e
         exact h2 (UInt8.toNat_inj.1 (by show z.toNat = 48; omega))
        have hv2 : Hid (lenP (s.data.toList.drop k) true 0 = lenP (s.data.toList.drop (p + 1)) (decide (p + 1 = k)) (m * 10 + D)) := Lib.hid (by
         rw [hv'.out, if_neg (by omega), if_neg (by omega), show decide (p + 1 = k) = false by simp; omega, Nat.mul_comm])
        have hz2 : Hid ((p + 1 = k ∧ m * 10 + D = 0) ∨ (k < p + 1 ∧ ∃ h : k < s.size, (m * 10 + D = 0 ∧ s[k] = 48 ∧ p + 1 = k + 1) ∨ (1 ≤ m * 10 + D ∧ s[k] ≠ 48))) := Lib.hid (.inr ⟨by omega, hks, .inr ⟨by omega, by rw [hzc]; exact h2⟩⟩)
        clear h1 h2 hpk
        go_wp2
        go_roundw
        case rel => exact ⟨p + 1, m * 10 + D, by omega, by omega, by go_num, by omega, hX'.out, Bx.setO X1h.out (a := ⟨N, 1, none⟩) (by simp) _, below_set1 HB (Nat.le_refl _), hv2, hz2⟩
        case measure =>
         have ha : atW (wr.setCell ⟨N, 1, none⟩ (.int .i64 ((p : Int) + 1))) N = p + 1 := by
          have : (wr.setCell ⟨N, 1, none⟩ (.int .i64 ((p : Int) + 1))).cell? ⟨N, 1, none⟩ = some (.int .i64 ((p : Int) + 1)) := hX'.out.cell 1
          unfold atW; rw [this]; show ((p : Int) + 1).toNat = p + 1; omega
         have hb : atW wr N = p := by
          have : wr.cell? ⟨N, 1, none⟩ = some (.int .i64 p) := X0h.out.cell 1
          unfold atW; rw [this]; show ((p : Int)).toNat = p; omega
         rw [ha, hb]; omega
    ·
     have n57 := of_decide_eq_true e57
     have hv' := hv.out
     rw [hdr.out, lenP_other _ _ _ (by omega)] at hv'
     have hv' := Lib.hid hv'
     have hpe : ¬ ((p : Int) = (s.size : Int)) := by omega
     by_cases hpk : p = k
     ·
      have t2 : ((p : Int) == (k : Int)) = true := by rw [beq_iff_eq]; omega
      have hRn : R = none := by
       rw [← HR.out]; refine atomP_len ?_; rw [hv'.out, if_neg (by simp [hpk])]
      have HRn := Lib.hid hRn
      clear hRn hpk
      go_wp2_with fail
      obtain ⟨P, hP⟩ : ∃ P, p = P := ⟨_, rfl⟩
      obtain ⟨E, hE0⟩ : ∃ E : Int, 12 = E := ⟨_, rfl⟩
      have hE : E ≠ 0 := by omega
      have Y0 := Bx.set X0 3 (.int .i64 12)
      have Y1 := Bx.setO X1 (a := ⟨N, 3, none⟩) (by simp) (.int .i64 12)
      have HB1 := below_set1 (b := N) (k := 3) (v := .int .i64 12) HB (Nat.le_refl _)
      simp only [rdC, List.setIfInBounds_toArray, List.set_cons_zero, List.set_cons_succ] at Y0
      generalize wr.setCell ⟨N, 3, none⟩ (.int .i64 12) = W1 at *
      rw [hP, hE0] at Y0
      clear g0 g1 g2 g3 f0 l0 q0 q1 q2 q3 f1 l1 hE0
      have hP : P ≤ s.size := by omega
      have z0 := Y0.cell
      have zd := Y1.cell
      have zf := Y1.free
      have zl := Y1.lt
      go_region
      have Z1 := (Bx.set4 Y1 (v0 := .string s) (v1 := .int .i64 (P : Int)) (v2 := .int .i64 left) (v3 := .int .i64 (E : Int))).drew
      have HB2 := (below_set4 (b := N + 1) HB1 (by omega) (v0 := .string s) (v1 := .int .i64 (P : Int)) (v2 := .int .i64 left) (v3 := .int .i64 (E : Int))).drew
      generalize World.drew _ = W2 at *
      clear z0 zd zf zl
      have zc := Z1.cell
      go_wp2
      rw [HRn.out]
      refine bodyPost_ret (v := .tuple #[.string ⟨#[]⟩, .agg (rdC s P left E)]) (by simp [results, Tryz.results118, go_sem, zc]) rfl ⟨_, P, E, rfl, hE, hP, ?_⟩
      rw [hN]
      exact HB2
     ·
      have t2 : ((p : Int) == (k : Int)) = false := by rw [beq_eq_false_iff_ne]; omega
      by_cases h58 : c = 58
      ·
       have t3 : ((c.toNat : Int) != 58) = false := by rw [h58]; rfl
       have hl : Hid (lenP (s.data.toList.drop k) true 0 = some (m, s.data.toList.drop (p + 1))) := Lib.hid (by rw [hv'.out, if_pos ⟨h58, by simpa using hpk⟩])
       have hRv : R = if s.size - (p + 1) < m then none else some ((s.data.toList.drop (p + 1)).take m, p + 1 - k + m) := by
        rw [← HR.out]; unfold atomP; rw [hl.out]
        simp only [List.length_drop, len_size]
        rw [show s.size - k - (s.size - (p + 1)) + m = p + 1 - k + m by omega]
       have HRv := Lib.hid hRv
       clear hRv h58
       by_cases hsh : s.size - (p + 1) < m
       ·
        have HRn : Hid (R = none) := Lib.hid (by rw [HRv.out, if_pos hsh])
        clear hpk
        go_wp2_with fail
        obtain ⟨P, hP⟩ : ∃ P, p + 1 = P := ⟨_, rfl⟩
        obtain ⟨E, hE0⟩ : ∃ E : Int, 11 = E := ⟨_, rfl⟩
        have hPi : (p : Int) + 1 = (P : Int) := by omega
        have hE : E ≠ 0 := by omega
        have Y0 := Bx.set (Bx.set X0 1 (.int .i64 ((p : Int) + 1))) 3 (.int .i64 11)
        have Y1 := Bx.setO (Bx.setO X1 (a := ⟨N, 1, none⟩) (by simp) (.int .i64 ((p : Int) + 1))) (a := ⟨N, 3, none⟩) (by simp) (.int .i64 11)
        have HB1 := below_set1 (b := N) (k := 3) (v := .int .i64 11) (below_set1 (b := N) (k := 1) (v := .int .i64 ((p : Int) + 1)) HB (Nat.le_refl _)) (Nat.le_refl _)
        simp only [rdC, List.setIfInBounds_toArray, List.set_cons_zero, List.set_cons_succ] at Y0
        generalize (wr.setCell ⟨N, 1, none⟩ (.int .i64 ((p : Int) + 1))).setCell ⟨N, 3, none⟩ (.int .i64 11) = W1 at *
        rw [hPi, hE0] at Y0
        clear g0 g1 g2 g3 f0 l0 q0 q1 q2 q3 f1 l1 hPi hE0
        have hP : P ≤ s.size := by omega
        have z0 := Y0.cell
        have zd := Y1.cell
        have zf := Y1.free
        have zl := Y1.lt
        go_region
        have Z1 := (Bx.set4 Y1 (v0 := .string s) (v1 := .int .i64 (P : Int)) (v2 := .int .i64 left) (v3 := .int .i64 (E : Int))).drew
        have HB2 := (below_set4 (b := N + 1) HB1 (by omega) (v0 := .string s) (v1 := .int .i64 (P : Int)) (v2 := .int .i64 left) (v3 := .int .i64 (E : Int))).drew
        generalize World.drew _ = W2 at *
        clear z0 zd zf zl
        have zc := Z1.cell
        go_wp2
        rw [HRn.out]
        refine bodyPost_ret (v := .tuple #[.string ⟨#[]⟩, .agg (rdC s P left E)]) (by simp [results, Tryz.results118, go_sem, zc]) rfl ⟨_, P, E, rfl, hE, hP, ?_⟩
        rw [hN]
        exact HB2
       ·
        have t4 : ¬ (s.size : Int) - ((p : Int) + 1) < (m : Int) := by omega
        have HRs : Hid (R = some ((s.data.toList.drop (p + 1)).take m, p + 1 - k + m)) := Lib.hid (by rw [HRv.out, if_neg hsh])
        clear hpk
        obtain ⟨q, hq⟩ : ∃ q : Nat, p + 1 = q := ⟨_, rfl⟩
        have hqi : (p : Int) + 1 = (q : Int) := by omega
        have hqs : q + m ≤ s.size := by omega
        obtain ⟨P, hP⟩ : ∃ P : Nat, q + m = P := ⟨_, rfl⟩
        have hPi : (q : Int) + (m : Int) = (P : Int) := by omega
        have hqP : q ≤ P := by omega
        have hPs : P ≤ s.size := by omega
        have Y0 := Bx.set (Bx.set X0 1 (.int .i64 (q : Int))) 1 (.int .i64 (P : Int))
        have Y1 := Bx.setO (Bx.setO X1 (a := ⟨N, 1, none⟩) (by simp) (.int .i64 (q : Int))) (a := ⟨N, 1, none⟩) (by simp) (.int .i64 (P : Int))
        have HB1 := below_set1 (b := N) (k := 1) (v := .int .i64 (P : Int)) (below_set1 (b := N) (k := 1) (v := .int .i64 (q : Int)) HB (Nat.le_refl _)) (Nat.le_refl _)
        simp only [rdC, List.setIfInBounds_toArray, List.set_cons_zero, List.set_cons_succ] at Y0
        go_wp2_with fail
        generalize (wr.setCell ⟨N, 1, none⟩ (.int .i64 (q : Int))).setCell ⟨N, 1, none⟩ (.int .i64 (P : Int)) = W1 at *
        clear g0 g1 g2 g3 f0 l0 q0 q1 q2 q3 f1 l1
        have z0 := Y0.cell
        have zd := Y1.cell
        have zf := Y1.free
        have zl := Y1.lt
        go_region
        have Z1 := (Bx.set4 Y1 (v0 := .string s) (v1 := .int .i64 (P : Int)) (v2 := .int .i64 left) (v3 := .int .i64 0)).drew
        have HB2 := (below_set4 (b := N + 1) HB1 (by omega) (v0 := .string s) (v1 := .int .i64 (P : Int)) (v2 := .int .i64 left) (v3 := .int .i64 0)).drew
        generalize World.drew _ = W2 at *
        clear z0 zd zf zl
        have zc := Z1.cell
        go_wp2
        rw [HRs.out]
        refine bodyPost_ret (v := .tuple #[.string (s.extract q P), .agg (rdC s P left 0)]) (by simp [results, Tryz.results118, go_sem, zc]) rfl ⟨?_, by rw [hN]; exact HB2⟩
        rw [show s.extract q P = bs ((s.data.toList.drop (p + 1)).take m) by rw [hq, show m = P - q by omega, ← bs_cut, bs_of], show k + (p + 1 - k + m) = P by omega]
        rfl
      ·
       have t3 : ((c.toNat : Int) != 58) = true := by
        rw [bne_iff_ne]
        intro e
        exact h58 (UInt8.toNat_inj.1 (by show c.toNat = 58; omega))
       have hRn : R = none := by
        rw [← HR.out]; refine atomP_len ?_; rw [hv'.out, if_neg (fun h => h58 h.1)]
       have HRn := Lib.hid hRn
       clear hRn hpk h58
       go_wp2_with fail
       obtain ⟨P, hP⟩ : ∃ P, p = P := ⟨_, rfl⟩
       obtain ⟨E, hE0⟩ : ∃ E : Int, 12 = E := ⟨_, rfl⟩
       have hE : E ≠ 0 := by omega
       have Y0 := Bx.set X0 3 (.int .i64 12)
       have Y1 := Bx.setO X1 (a := ⟨N, 3, none⟩) (by simp) (.int .i64 12)
       have HB1 := below_set1 (b := N) (k := 3) (v := .int .i64 12) HB (Nat.le_refl _)
       simp only [rdC, List.setIfInBounds_toArray, List.set_cons_zero, List.set_cons_succ] at Y0
       generalize wr.setCell ⟨N, 3, none⟩ (.int .i64 12) = W1 at *
       rw [hP, hE0] at Y0
       clear g0 g1 g2 g3 f0 l0 q0 q1 q2 q3 f1 l1 hE0
       have hP : P ≤ s.size := by omega
       have z0 := Y0.cell
       have zd := Y1.cell
       have zf := Y1.free
       have zl := Y1.lt
       go_region
       have Z1 := (Bx.set4 Y1 (v0 := .string s) (v1 := .int .i64 (P : Int)) (v2 := .int .i64 left) (v3 := .int .i64 (E : Int))).drew
       have HB2 := (below_set4 (b := N + 1) HB1 (by omega) (v0 := .string s) (v1 := .int .i64 (P : Int)) (v2 := .int .i64 left) (v3 := .int .i64 (E : Int))).drew
       generalize World.drew _ = W2 at *
       clear z0 zd zf zl
       have zc := Z1.cell
       go_wp2
       rw [HRn.out]
       refine bodyPost_ret (v := .tuple #[.string ⟨#[]⟩, .agg (rdC s P left E)]) (by simp [results, Tryz.results118, go_sem, zc]) rfl ⟨_, P, E, rfl, hE, hP, ?_⟩
       rw [hN]
       exact HB2
   ·
    have n48 := of_decide_eq_true e48
    have h58 : ¬ c = 58 := fun e => by rw [e] at n48; exact absurd n48 (by decide)
    have hpe : ¬ ((p : Int) = (s.size : Int)) := by omega
    have hRn : R = none := by
     rw [← HR.out]; refine atomP_len ?_; rw [hv.out, hdr.out, lenP_other _ _ _ (by omega), if_neg (fun h => h58 h.1)]
    have HRn := Lib.hid hRn
    have t3 : ((c.toNat : Int) != 58) = true := by
     rw [bne_iff_ne]
     intro e
     exact h58 (UInt8.toNat_inj.1 (by show c.toNat = 58; omega))
    clear hRn h58
    by_cases hpk : p = k
    ·
     have t2 : ((p : Int) == (k : Int)) = true := by rw [beq_iff_eq]; omega
     clear hpk
     go_wp2_with fail
     obtain ⟨P, hP⟩ : ∃ P, p = P := ⟨_, rfl⟩
     obtain ⟨E, hE0⟩ : ∃ E : Int, 12 = E := ⟨_, rfl⟩
     have hE : E ≠ 0 := by omega
     have Y0 := Bx.set X0 3 (.int .i64 12)
     have Y1 := Bx.setO X1 (a := ⟨N, 3, none⟩) (by simp) (.int .i64 12)
     have HB1 := below_set1 (b := N) (k := 3) (v := .int .i64 12) HB (Nat.le_refl _)
     simp only [rdC, List.setIfInBounds_toArray, List.set_cons_zero, List.set_cons_succ] at Y0
     generalize wr.setCell ⟨N, 3, none⟩ (.int .i64 12) = W1 at *
     rw [hP, hE0] at Y0
     clear g0 g1 g2 g3 f0 l0 q0 q1 q2 q3 f1 l1 hE0
     have hP : P ≤ s.size := by omega
     have z0 := Y0.cell
     have zd := Y1.cell
     have zf := Y1.free
     have zl := Y1.lt
     go_region
     have Z1 := (Bx.set4 Y1 (v0 := .string s) (v1 := .int .i64 (P : Int)) (v2 := .int .i64 left) (v3 := .int .i64 (E : Int))).drew
     have HB2 := (below_set4 (b := N + 1) HB1 (by omega) (v0 := .string s) (v1 := .int .i64 (P : Int)) (v2 := .int .i64 left) (v3 := .int .i64 (E : Int))).drew
     generalize World.drew _ = W2 at *
     clear z0 zd zf zl
     have zc := Z1.cell
     go_wp2
     rw [HRn.out]
     refine bodyPost_ret (v := .tuple #[.string ⟨#[]⟩, .agg (rdC s P left E)]) (by simp [results, Tryz.results118, go_sem, zc]) rfl ⟨_, P, E, rfl, hE, hP, ?_⟩
     rw [hN]
     exact HB2
    ·
     have t2 : ((p : Int) == (k : Int)) = false := by rw [beq_eq_false_iff_ne]; omega
     clear hpk
     go_wp2_with fail
     obtain ⟨P, hP⟩ : ∃ P, p = P := ⟨_, rfl⟩
     obtain ⟨E, hE0⟩ : ∃ E : Int, 12 = E := ⟨_, rfl⟩
     have hE : E ≠ 0 := by omega
     have Y0 := Bx.set X0 3 (.int .i64 12)
     have Y1 := Bx.setO X1 (a := ⟨N, 3, none⟩) (by simp) (.int .i64 12)
     have HB1 := below_set1 (b := N) (k := 3) (v := .int .i64 12) HB (Nat.le_refl _)
     simp only [rdC, List.setIfInBounds_toArray, List.set_cons_zero, List.set_cons_succ] at Y0
     generalize wr.setCell ⟨N, 3, none⟩ (.int .i64 12) = W1 at *
     rw [hP, hE0] at Y0
     clear g0 g1 g2 g3 f0 l0 q0 q1 q2 q3 f1 l1 hE0
     have hP : P ≤ s.size := by omega
     have z0 := Y0.cell
     have zd := Y1.cell
     have zf := Y1.free
     have zl := Y1.lt
     go_region
     have Z1 := (Bx.set4 Y1 (v0 := .string s) (v1 := .int .i64 (P : Int)) (v2 := .int .i64 left) (v3 := .int .i64 (E : Int))).drew
     have HB2 := (below_set4 (b := N + 1) HB1 (by omega) (v0 := .string s) (v1 := .int .i64 (P : Int)) (v2 := .int .i64 left) (v3 := .int .i64 (E : Int))).drew
     generalize World.drew _ = W2 at *
     clear z0 zd zf zl
     have zc := Z1.cell
     go_wp2
     rw [HRn.out]
     refine bodyPost_ret (v := .tuple #[.string ⟨#[]⟩, .agg (rdC s P left E)]) (by simp [results, Tryz.results118, go_sem, zc]) rfl ⟨_, P, E, rfl, hE, hP, ?_⟩
     rw [hN]
     exact HB2
  ·
   obtain rfl : p = s.size := by omega
   have hRn : R = none := by
    rw [← HR.out]; refine atomP_len ?_; rw [hv.out, show s.data.toList.drop s.size = [] by rw [List.drop_eq_nil_iff, len_size]; exact Nat.le_refl _, lenP]
   have HRn := Lib.hid hRn
   clear hRn
   obtain ⟨p, hp⟩ : ∃ p, s.size = p := ⟨_, rfl⟩
   have hps : (s.size : Int) = (p : Int) := by omega
   rw [hp] at X0 g1
   go_wp2_with fail
   obtain ⟨P, hP⟩ : ∃ P, p = P := ⟨_, rfl⟩
   obtain ⟨E, hE0⟩ : ∃ E : Int, 11 = E := ⟨_, rfl⟩
   have hE : E ≠ 0 := by omega
   have Y0 := Bx.set X0 3 (.int .i64 11)
   have Y1 := Bx.setO X1 (a := ⟨N, 3, none⟩) (by simp) (.int .i64 11)
   have HB1 := below_set1 (b := N) (k := 3) (v := .int .i64 11) HB (Nat.le_refl _)
   simp only [rdC, List.setIfInBounds_toArray, List.set_cons_zero, List.set_cons_succ] at Y0
   generalize wr.setCell ⟨N, 3, none⟩ (.int .i64 11) = W1 at *
   rw [hP, hE0] at Y0
   clear g0 g1 g2 g3 f0 l0 q0 q1 q2 q3 f1 l1 hE0
   have hP : P ≤ s.size := by omega
   have z0 := Y0.cell
   have zd := Y1.cell
   have zf := Y1.free
   have zl := Y1.lt
   go_region
   have Z1 := (Bx.set4 Y1 (v0 := .string s) (v1 := .int .i64 (P : Int)) (v2 := .int .i64 left) (v3 := .int .i64 (E : Int))).drew
   have HB2 := (below_set4 (b := N + 1) HB1 (by omega) (v0 := .string s) (v1 := .int .i64 (P : Int)) (v2 := .int .i64 left) (v3 := .int .i64 (E : Int))).drew
   generalize World.drew _ = W2 at *
   clear z0 zd zf zl
   have zc := Z1.cell
   go_wp2
   rw [HRn.out]
   refine bodyPost_ret (v := .tuple #[.string ⟨#[]⟩, .agg (rdC s P left E)]) (by simp [results, Tryz.results118, go_sem, zc]) rfl ⟨_, P, E, rfl, hE, hP, ?_⟩
   rw [hN]
   exact HB2
end Go.Proofs.YtghikgjknhjjgaaGreatDoor
