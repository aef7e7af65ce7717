/-
  WHAT IS PROVED HERE: what digest's rounds and beginning hand back.
-/
import Derived.Test.YtngaeencnklbdaaSha0
import Derived.Deep.WholeRow
namespace Go.Proofs.Ytngaeencnklbdaa
open Go.RowKit

def v32 (x : Int) : Value := .int .u32 x
def kK : List Int := [1116352408, 1899447441, 3049323471, 3921009573, 961987163, 1508970993, 2453635748, 2870763221, 3624381080, 310598401, 607225278, 1426881987, 1925078388, 2162078206, 2614888103, 3248222580, 3835390401, 4022224774, 264347078, 604807628, 770255983, 1249150122, 1555081692, 1996064986, 2554220882, 2821834349, 2952996808, 3210313671, 3336571891, 3584528711, 113926993, 338241895, 666307205, 773529912, 1294757372, 1396182291, 1695183700, 1986661051, 2177026350, 2456956037, 2730485921, 2820302411, 3259730800, 3345764771, 3516065817, 3600352804, 4094571909, 275423344, 430227734, 506948616, 659060556, 883997877, 958139571, 1322822218, 1537002063, 1747873779, 1955562222, 2024104815, 2227730452, 2361852424, 2428436474, 2756734187, 3204031479, 3329325298]
def kH : List Int := [1779033703, 3144134277, 1013904242, 2773480762, 1359893119, 2600822924, 528734635, 1541459225]
def kKV : Value := .agg (kK.map v32).toArray
def kHV : Value := .agg (kH.map v32).toArray
theorem wpList_store_new {P : Program} {ops : Array Oper} {rest : List Oper} {o : Oper} {a : Act} {w w0 : World} {Q : Exit → Act → World → Prop} (hgd : o.guard = none) (ty : TypeId) (x y : Operand) (ho : o.op = .store ty x y)
    (c c' : Array Value) (hw : w = w0.alloc (.cells c ty)) (hx : a.eval x = .pointer (some ⟨w0.heap.size, 0, none⟩)) (hy : a.eval y = .agg c')
    (hi : (P.info? ty).map (·.size) = some c'.size) (hs : c.size = c'.size) (h1 : c'.all (·.oneCell') = true)
    (h : wpList P ops Q rest (a.put o.dst undef) (w0.alloc (.cells c' ty))) : wpList P ops Q (o :: rest) a w :=
  wpList_plain hgd fun _ hK => by
    subst hw
    unfold Oper.wp execOp
    simp only [ho, hx, hy, Instr.storeAt, Instr.sureAddr, Sem.run_bind, Sem.run_pure, Result.andThen_ok, run_storeVar_new w0 ty c c' hi hs h1]
    exact hK _ _ h
set_option maxRecDepth 100000 in
set_option maxHeartbeats 1000000 in
theorem rounds_any (w : World) : Calls Try.prog 50 #[] w fun e w' => e = .returned kKV ∧ Below w.heap.size w w' := by
  refine calls_of_wpQ Try.func50 rfl ?_
  intro Q hQ
  simp only [Try.ntmps50, List.size_toArray, List.length_nil, Nat.reduceSub, Array.replicate_succ, Array.replicate_zero, List.push_toArray, List.append_toArray, List.nil_append, List.cons_append]
  go_wp2_with (refine wpList_store_new rfl 77 (.tmp 0) (.tmp 1) rfl _ (kK.map v32).toArray rfl rfl rfl (by kernel_rfl) (by kernel_rfl) (by kernel_rfl) ?_)
  refine ends_ret hQ (v := kKV) (results_cell_row rfl _ _ w.heap.size 77 (kK.map v32).toArray (0, 0) _ rfl (heap_alloc_new _ _) Try.underlying77 rfl (by kernel_rfl)) rfl ⟨rfl, by go_grown⟩
theorem beginning_any (w : World) : Calls Try.prog 45 #[] w fun e w' => e = .returned kHV ∧ Below w.heap.size w w' := by
  refine calls_of_wpQ Try.func45 rfl ?_
  intro Q hQ
  simp only [Try.ntmps45, List.size_toArray, List.length_nil, Nat.reduceSub, Array.replicate_succ, Array.replicate_zero, List.push_toArray, List.append_toArray, List.nil_append, List.cons_append]
  go_wp2_with (refine wpList_store_new rfl 65 (.tmp 0) (.tmp 1) rfl _ (kH.map v32).toArray rfl rfl rfl (by kernel_rfl) (by kernel_rfl) (by kernel_rfl) ?_)
  refine ends_ret hQ (v := kHV) (results_cell_row rfl _ _ w.heap.size 65 (kH.map v32).toArray (0, 0) _ rfl (heap_alloc_new _ _) Try.underlying65 rfl (by kernel_rfl)) rfl ⟨rfl, by go_grown⟩
end Go.Proofs.Ytngaeencnklbdaa
