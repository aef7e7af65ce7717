/-
  WHAT IS PROVED HERE: small laws of texts. No condition.
-/
import Derived.Test.YtngaeencnklbdaaOpenS
import Derived.Test.YtngaeencnklbdaaEnds
import Derived.BigQuiet
import Derived.Deep.QuietTactic
import Derived.Laws.Cover1
import Derived.Lib.Strings
namespace Go.Proofs.Ytngaeencnklbdaa
open Go.RowKit

theorem strJ : (Try.prog.info? 9).map (fun i => (i.zero, i.size, i.bytes)) = some (some (.string ByteArray.empty), 1, 16) := by kernel_rfl
theorem info_parts16 {P : Program} {t : TypeId} {z : Value} (h : (P.info? t).map (fun i => (i.zero, i.size, i.bytes)) = some (some z, 1, 16)) : ∃ i, P.info? t = some i ∧ i.zero = some z ∧ i.size = 1 ∧ i.bytes = 16 := by
  obtain ⟨i, hi, he⟩ := Option.map_eq_some_iff.1 h
  injection he with e1 e2
  injection e2 with e2 e3
  exact ⟨i, hi, e1, e2, e3⟩
theorem vstr_one (xs : List ByteArray) : ∀ u ∈ xs.map vstr, u.oneCell' = true := by
  intro u hu
  obtain ⟨x, _, rfl⟩ := List.mem_map.1 hu
  rfl
theorem str_eq (a b : ByteArray) : (a.toList == b.toList) = decide (a = b) := by
  rw [Lib.toList_data, Lib.toList_data, Bool.eq_iff_iff]
  simp only [beq_iff_eq, decide_eq_true_eq]
  refine ⟨fun h => ?_, fun e => by rw [e]⟩
  cases a; cases b
  simpa using h
end Go.Proofs.Ytngaeencnklbdaa
