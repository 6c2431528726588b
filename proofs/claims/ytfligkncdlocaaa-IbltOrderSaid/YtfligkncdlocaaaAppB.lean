/- Appending a digest to a list of one's own, with the block told; an operation of one value. -/
import Derived.Test.YtfligkncdlocaaaRowsOp
import Derived.Test.YtfligkncdlocaaaTab
namespace Go.Proofs.Ytfligkncdlocaaa
open Go.RowKit
section
variable {P : Program} {ops : Array Oper} {rest : List Oper} {o : Oper} {a : Act} {Q : Exit → Act → World → Prop} {w : World}
theorem wpList_value (hgd : o.guard = none) (v : Value) (hr : (execOp a.eval o).run P w = .ok (.value v) w) (hK : wpList P ops Q rest (a.put o.dst v) w) : wpList P ops Q (o :: rest) a w := by
  refine wpList_plain hgd fun K hK' => ?_
  unfold Oper.wp
  rw [hr]
  exact hK' _ _ hK
theorem run_append_ownB (w : World) (base : Nat) (t ty e : TypeId) (i : TypeInfo) (z : Value) (size bytes : Nat) (ht : P.underlying t = some (.slice e)) (hi : P.info? e = some i) (hz : i.zero = some z)
    (hsize : i.size = size) (hby : i.bytes = bytes) (hzs : z.cells.size = size) (hsz : 0 < size)
    (v : Value) (n : Nat) (xs : List Value) (hown : w.ownsRow base e size v n xs)
    (a : Addr) (m c : Nat) (hm : 0 < m) (news : List Value) (hl : news.length = m * size) (hnews : ∀ j u, news[j]? = some u → w.cell? (a.add j) = some u) (h1 : ∀ u ∈ news, u.oneCell' = true)
    (h63 : n + m ≤ maxLen) (hbytes : (n + m) * bytes ≤ 140737488355328) (hbase : base ≤ w.heap.size) :
    ∃ v' w', (Builtin.append_ #[t, t] ty #[v, .slice (some a) m c]).run P w = .ok v' w' ∧ w'.ownsRow base e size v' (n + m) (xs ++ news) ∧ w.grownBy w' v.ownBlock ∧
      (∀ k, v'.ownBlock = some k → v.ownBlock = some k ∨ k = w.heap.size) := by
  obtain ⟨v', w', hr, h2, h3, _⟩ := run_append_own (P := P) w base t ty e i z size bytes ht hi hz hsize hby hzs hsz v n xs hown a m c news hl hnews h1 h63 hbytes hbase
  refine ⟨v', w', hr, h2, h3, ?_⟩
  subst hsize
  subst hby
  have hsmall : n + m ≤ 9223372036854775807 := by simp only [maxLen] at h63; omega
  rcases hown.2 with ⟨rfl, rfl⟩ | ⟨g, cap, cur, rfl, hbg, hg, hnc, hcm, hcs, htake⟩
  · have hr2 := run_append_nil (P := P) w t ty e i z ht hi hz a m c news hl hnews hm (by omega) (by have hb := hbytes; simp only [Nat.zero_add] at hb; omega)
    rw [hr2] at hr
    injection hr with e1 e2
    subst e1
    intro k hk
    exact .inr (Option.some.inj hk).symm
  · by_cases hroom : n + m ≤ cap
    · have hfit : n * i.size + news.length ≤ cur.size := by rw [hl, hcs, ← Nat.add_mul]; exact Nat.mul_le_mul_right _ hroom
      have hr2 := run_append_room (P := P) w t ty e i ht hi g n cap cur hg a m c news hl hnews h1 hroom hfit
      rw [hr2] at hr
      injection hr with e1 e2
      subst e1
      exact fun k hk => .inl hk
    · have holds : ∀ j u, xs[j]? = some u → w.cell? ((⟨g, 0, none⟩ : Addr).add j) = some u := hown.cells (g := g) rfl
      have hr2 := run_append_grow (P := P) w t ty e i z ht hi hz ⟨g, 0, none⟩ n cap xs hown.1 holds a m c news hl hnews (by omega) (by omega) (growslice_fits (by omega) hbytes)
      rw [hr2] at hr
      injection hr with e1 e2
      subst e1
      intro k hk
      exact .inr (Option.some.inj hk).symm
end
section
variable {ops : Array Oper} {rest : List Oper} {o : Oper} {a : Act} {Q : Exit → Act → World → Prop} {w : World}
theorem digC_snoc (l : List (List UInt8)) (d : List UInt8) : (digC (l ++ [d])).flatten = (digC l).flatten ++ bytesV d := by simp [digC]
/-- 'append(s, T{d}...)' of a digest -/
theorem wpList_appD (hgd : o.guard = none) (s x : Operand) (ho : o.op = .call { callee := .builtin .append, args := #[s, x], argTypes := #[25, 25] })
    (base : Nat) (v : Value) (l : List (List UInt8)) (hs : a.eval s = v) (hown : w.ownsRow base 31 32 v l.length (digC l).flatten)
    (b : Nat) (d : List UInt8) (hd : d.length = 32) (hx : a.eval x = .slice (some ⟨b, 0, none⟩) 1 1) (hb : Bx w b (bytesV d).toArray 31) (hbig : l.length ≤ 1000000) (hbase : base ≤ w.heap.size)
    (h : ∀ v' w', w'.ownsRow base 31 32 v' (l ++ [d]).length (digC (l ++ [d])).flatten → w.grownBy w' v.ownBlock → (∀ k, v'.ownBlock = some k → v.ownBlock = some k ∨ k = w.heap.size) → wpList Try.prog ops Q rest (a.put o.dst v') w') : wpList Try.prog ops Q (o :: rest) a w := by
  refine wpList_plain hgd fun K hK => ?_
  obtain ⟨ic, hic, hz, hsz, hby⟩ := info_parts infoDg
  obtain ⟨v', w', hr, h2, h3, h4⟩ := run_append_ownB (P := Try.prog) w base 25 o.type 31 ic _ 32 32 Try.underlying25 hic hz hsz hby (by simp [Value.cells]) (by decide) v l.length _ hown ⟨b, 0, none⟩ 1 1 (by decide) (bytesV d) (by rw [bytesV_len, hd]) (by
      intro j u hu
      have := hb.range j u (by simpa using hu)
      rw [Addr.add_mid]; exact this) (bytesV_one d) (by unfold maxLen; omega) (by omega) hbase
  unfold Oper.wp execOp
  simp only [ho, resolve, invoke, builtin, Sem.run_bind, Sem.run_pure, Result.andThen_ok, List.map_toArray, List.map_cons, List.map_nil, hs, hx, hr]
  refine hK _ _ (h v' w' ?_ h3 h4)
  rw [digC_snoc, List.length_append]
  exact h2
end
theorem DigR.owns {w : World} {base : Nat} {v : Value} {l : List (List UInt8)} (h : w.ownsRow base 31 32 v l.length (digC l).flatten) (hok : Dok l) : DigR (fun b => base ≤ b ∧ b < w.heap.size) w v l := ⟨RowsR.owns (by rw [digC_size]; exact h), hok⟩
theorem DigR.nil0 (S : Nat → Prop) (w : World) : DigR S w (.slice none 0 0) [] := ⟨RowsR.nil S w, fun _ h => by cases h⟩
end Go.Proofs.Ytfligkncdlocaaa
