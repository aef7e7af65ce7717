/-
  WHAT IS PROVED HERE: what the closure of snap.Install that makes an answer hands back. No condition.
-/
import Derived.Test.YtncdjmpdbinanaaGreatDoorZGMem
import Derived.Test.YtncdjmpdbinanaaGreatDoorZQrmV
namespace Go.Proofs.YtncdjmpdbinanaaGreatDoor
open Go.RowKit

set_option maxRecDepth 100000 in
theorem AnsI_any (ok : Bool) (p id fr t : Int) (gX gM : Nat) (w : World) (h0 : w.cell? ⟨gX, 0, none⟩ = some (.int .i64 id)) (h1 : w.cell? ⟨gX, 1, none⟩ = some (.int .i64 t)) (h2 : w.cell? ⟨gM, 1, none⟩ = some (.int .i64 fr)) :
    Calls Tryz.prog 54 #[.bool ok, .int .i64 p, .pointer (some ⟨gX, 0, none⟩), .pointer (some ⟨gM, 0, none⟩)] w fun e w' => ∃ g, e = .returned (.slice (some ⟨g, 0, none⟩) 1 1) ∧ Blk w' g 32 #[.int .i64 4, .int .i64 id, .int .i64 fr, .int .i64 t, .bool ok, .int .i64 p, .int .i64 0, .slice none 0 0, .int .i64 0, .string ⟨#[]⟩, .slice none 0 0] ∧ Below w.heap.size w w' := by
  have nX := cell_lt h0
  have nM := cell_lt h2
  have q0 : Below w.heap.size w (w.alloc (.cells #[.int .i64 4, .int .i64 id, .int .i64 fr, .int .i64 t, .bool ok, .int .i64 p, .int .i64 0, .slice none 0 0, .int .i64 0, .string ⟨#[]⟩, .slice none 0 0] 32)) := by go_grown
  have kB : Blk (w.alloc (.cells #[.int .i64 4, .int .i64 id, .int .i64 fr, .int .i64 t, .bool ok, .int .i64 p, .int .i64 0, .slice none 0 0, .int .i64 0, .string ⟨#[]⟩, .slice none 0 0] 32)) w.heap.size 32 #[.int .i64 4, .int .i64 id, .int .i64 fr, .int .i64 t, .bool ok, .int .i64 p, .int .i64 0, .slice none 0 0, .int .i64 0, .string ⟨#[]⟩, .slice none 0 0] := Blk.new _ _ _
  obtain ⟨wz, hwz⟩ : ∃ wz, w.alloc (.cells #[.int .i64 4, .int .i64 id, .int .i64 fr, .int .i64 t, .bool ok, .int .i64 p, .int .i64 0, .slice none 0 0, .int .i64 0, .string ⟨#[]⟩, .slice none 0 0] 32) = wz := ⟨_, rfl⟩
  rw [hwz] at q0 kB
  replace hwz := hid_mk hwz
  refine calls_of_wpQ Tryz.func54 rfl ?_
  intro Q hQ
  simp only [Tryz.ntmps54, List.size_toArray, List.length_cons, List.length_nil, Nat.reduceAdd, Nat.reduceSub, Array.replicate_succ, Array.replicate_zero, List.push_toArray, List.append_toArray, List.nil_append, List.cons_append]
  go_wp2
  rw [hwz.out]
  refine ends_ret hQ (results_tmp rfl _ _ _) rfl ?_
  exact ⟨w.heap.size, rfl, kB, q0⟩
end Go.Proofs.YtncdjmpdbinanaaGreatDoor
