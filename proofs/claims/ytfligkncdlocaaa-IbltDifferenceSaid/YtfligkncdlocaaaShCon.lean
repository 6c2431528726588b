/- The constants of the steps and the first state. -/
import Derived.Test.YtfligkncdlocaaaShSch
namespace Go.Proofs.Ytfligkncdlocaaa
open Go.RowKit

def shaK : List UInt32 := [1116352408, 1899447441, 3049323471, 3921009573, 961987163, 1508970993, 2453635748, 2870763221, 3624381080, 310598401, 607225278, 1426881987, 1925078388, 2162078206, 2614888103, 3248222580, 3835390401, 4022224774, 264347078, 604807628, 770255983, 1249150122, 1555081692, 1996064986, 2554220882, 2821834349, 2952996808, 3210313671, 3336571891, 3584528711, 113926993, 338241895, 666307205, 773529912, 1294757372, 1396182291, 1695183700, 1986661051, 2177026350, 2456956037, 2730485921, 2820302411, 3259730800, 3345764771, 3516065817, 3600352804, 4094571909, 275423344, 430227734, 506948616, 659060556, 883997877, 958139571, 1322822218, 1537002063, 1747873779, 1955562222, 2024104815, 2227730452, 2361852424, 2428436474, 2756734187, 3204031479, 3329325298]
def shaI : List UInt32 := [1779033703, 3144134277, 1013904242, 2773480762, 1359893119, 2600822924, 528734635, 1541459225]
theorem shaK_len : shaK.length = 64 := rfl
theorem shaI_len : shaI.length = 8 := rfl

section
variable {P : Program} {ops : Array Oper} {rest : List Oper} {o : Oper} {a : Act} {Q : Exit → Act → World → Prop} {w : World}
/-- a composite literal of an array of words, its run known -/
theorem wpList_build_run (hgd : o.guard = none) (t : TypeId) (parts : Array (Nat × Operand)) (hop : o.op = .build t parts) (vs : Array (Nat × Value)) (hv : parts.map (fun (i, x) => (i, a.eval x)) = vs) (cs : Array Value) (hr : ∀ w, (Instr.build t vs).run P w = .ok (.agg cs) w)
    (hK : wpList P ops Q rest (a.put o.dst (.agg cs)) w) : wpList P ops Q (o :: rest) a w := by
  refine wpList_plain hgd fun K hK' => ?_
  unfold Oper.wp
  simp only [execOp, hop, hv]
  rw [Sem.run_bind, hr]
  exact hK' _ _ hK
end
def partsOf (l : List UInt32) : Array (Nat × Value) := (l.zipIdx.map fun (x, i) => (i, u32V x)).toArray
theorem run_buildK (w : World) : (Instr.build 103 (partsOf shaK)).run Try.prog w = .ok (.agg (u32s shaK).toArray) w := by kernel_rfl
theorem run_buildI (w : World) : (Instr.build 89 (partsOf shaI)).run Try.prog w = .ok (.agg (u32s shaI).toArray) w := by kernel_rfl
theorem sizeH : (Try.prog.info? 89).map (·.size) = some 8 := by kernel_rfl
theorem zeroH : (Try.prog.info? 89).map (·.zero) = some (some (.agg (Array.replicate 8 (.int .u32 0)))) := by kernel_rfl
theorem u32s_one (l : List UInt32) : (u32s l).toArray.all (·.oneCell') = true := all_oneCell_toArray (fun v hv => by obtain ⟨_, _, rfl⟩ := List.mem_map.1 hv; rfl)
set_option maxRecDepth 100000 in
set_option maxHeartbeats 2000000 in
theorem sha_initial (w : World) : Calls Try.prog 69 #[] w fun e w' => e = .returned (.agg (u32s shaI).toArray) ∧ Below w.heap.size w w' := by
  obtain ⟨z, hz⟩ : ∃ z : Array Value, Array.replicate 8 (Value.int .u32 0) = z := ⟨_, rfl⟩
  have hz0 := zeroH
  rw [hz] at hz0
  have hzs : z.size = 8 := by rw [← hz]; simp
  have Z0 := Lib.hid hz0
  have Zs := Lib.hid hzs
  obtain ⟨cx, hcx⟩ : ∃ cx, (u32s shaI).toArray = cx := ⟨_, rfl⟩
  have hsz : cx.size = 8 := by rw [← hcx]; rfl
  have h1 : cx.all (·.oneCell') = true := by rw [← hcx]; exact u32s_one _
  have hr := run_buildI
  rw [hcx] at hr
  have R := Lib.hid hr
  have Hcx := Lib.hid hcx
  have H1 := Lib.hid h1
  have Hs := Lib.hid hsz
  clear h1 hsz hcx hr hz hz0 hzs
  have xr := Bx.new w z 89
  go_enter Try.func69, Try.ntmps69
  go_wp2_with (first
    | (refine wpList_alloc_row rfl 89 rfl z Z0.out ?_)
    | (refine wpList_build_run rfl 89 _ rfl (partsOf shaI) (by kernel_rfl) cx R.out ?_)
    | (refine wpList_store_mid rfl 89 (.tmp 0) (.tmp 1) rfl w.heap.size 0 cx rfl rfl (there_bx xr (by rw [Hs.out, Zs.out]; exact Nat.le_refl _)) (by rw [sizeH, Hs.out]) H1.out ?_))
  have xr2 := xr.setAll (cx := cx) (by rw [Hs.out, Zs.out])
  refine bodyPost_ret (v := .agg cx) (results_cell_row (d := .array 8 86) Try.results69 _ _ w.heap.size _ _ _ rfl xr2 Try.underlying89 rfl (by rw [sizeH, Hs.out])) rfl ?_
  exact ⟨by rw [Hcx.out], below_setCells (Nat.le_refl _) _ _ _ (Below.one _ _)⟩
set_option maxRecDepth 100000 in
set_option maxHeartbeats 2000000 in
theorem sha_constants (w : World) : Calls Try.prog 81 #[] w fun e w' => e = .returned (.agg (u32s shaK).toArray) ∧ Below w.heap.size w w' := by
  obtain ⟨z, hz⟩ : ∃ z : Array Value, Array.replicate 64 (Value.int .u32 0) = z := ⟨_, rfl⟩
  have hz0 := zeroW
  rw [hz] at hz0
  have hzs : z.size = 64 := by rw [← hz]; simp
  have Z0 := Lib.hid hz0
  have Zs := Lib.hid hzs
  obtain ⟨cx, hcx⟩ : ∃ cx, (u32s shaK).toArray = cx := ⟨_, rfl⟩
  have hsz : cx.size = 64 := by rw [← hcx]; rfl
  have h1 : cx.all (·.oneCell') = true := by rw [← hcx]; exact u32s_one _
  have hr := run_buildK
  rw [hcx] at hr
  have R := Lib.hid hr
  have Hcx := Lib.hid hcx
  have H1 := Lib.hid h1
  have Hs := Lib.hid hsz
  clear h1 hsz hcx hr hz hz0 hzs
  have xr := Bx.new w z 103
  go_enter Try.func81, Try.ntmps81
  go_wp2_with (first
    | (refine wpList_alloc_row rfl 103 rfl z Z0.out ?_)
    | (refine wpList_build_run rfl 103 _ rfl (partsOf shaK) (by kernel_rfl) cx R.out ?_)
    | (refine wpList_store_mid rfl 103 (.tmp 0) (.tmp 1) rfl w.heap.size 0 cx rfl rfl (there_bx xr (by rw [Hs.out, Zs.out]; exact Nat.le_refl _)) (by rw [sizeW, Hs.out]) H1.out ?_))
  have xr2 := xr.setAll (cx := cx) (by rw [Hs.out, Zs.out])
  refine bodyPost_ret (v := .agg cx) (results_cell_row (d := .array 64 86) Try.results81 _ _ w.heap.size _ _ _ rfl xr2 Try.underlying103 rfl (by rw [sizeW, Hs.out])) rfl ?_
  exact ⟨by rw [Hcx.out], below_setCells (Nat.le_refl _) _ _ _ (Below.one _ _)⟩
set_option maxRecDepth 100000 in
set_option maxHeartbeats 2000000 in
theorem ref02_constants (w : World) : Calls Try.prog 86 #[] w fun e w' => e = .returned (.agg (u32s shaK).toArray) ∧ Below w.heap.size w w' := by
  obtain ⟨z, hz⟩ : ∃ z : Array Value, Array.replicate 64 (Value.int .u32 0) = z := ⟨_, rfl⟩
  have hz0 := zeroW
  rw [hz] at hz0
  have hzs : z.size = 64 := by rw [← hz]; simp
  have Z0 := Lib.hid hz0
  have Zs := Lib.hid hzs
  obtain ⟨cx, hcx⟩ : ∃ cx, (u32s shaK).toArray = cx := ⟨_, rfl⟩
  have hsz : cx.size = 64 := by rw [← hcx]; rfl
  have h1 : cx.all (·.oneCell') = true := by rw [← hcx]; exact u32s_one _
  have hr := run_buildK
  rw [hcx] at hr
  have R := Lib.hid hr
  have Hcx := Lib.hid hcx
  have H1 := Lib.hid h1
  have Hs := Lib.hid hsz
  clear h1 hsz hcx hr hz hz0 hzs
  have xr := Bx.new w z 103
  go_enter Try.func86, Try.ntmps86
  go_wp2_with (first
    | (refine wpList_alloc_row rfl 103 rfl z Z0.out ?_)
    | (refine wpList_build_run rfl 103 _ rfl (partsOf shaK) (by kernel_rfl) cx R.out ?_)
    | (refine wpList_store_mid rfl 103 (.tmp 0) (.tmp 1) rfl w.heap.size 0 cx rfl rfl (there_bx xr (by rw [Hs.out, Zs.out]; exact Nat.le_refl _)) (by rw [sizeW, Hs.out]) H1.out ?_))
  have xr2 := xr.setAll (cx := cx) (by rw [Hs.out, Zs.out])
  refine bodyPost_ret (v := .agg cx) (results_cell_row (d := .array 64 86) Try.results86 _ _ w.heap.size _ _ _ rfl xr2 Try.underlying103 rfl (by rw [sizeW, Hs.out])) rfl ?_
  exact ⟨by rw [Hcx.out], below_setCells (Nat.le_refl _) _ _ _ (Below.one _ _)⟩
end Go.Proofs.Ytfligkncdlocaaa
