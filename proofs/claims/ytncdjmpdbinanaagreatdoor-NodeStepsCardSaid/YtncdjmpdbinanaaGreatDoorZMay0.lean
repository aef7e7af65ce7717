/-
  WHAT IS PROVED HERE: which message may be, as data. No condition.
-/
import Derived.Test.YtncdjmpdbinanaaGreatDoorZGEl0
import Derived.Test.YtncdjmpdbinanaaGreatDoorZGReg
namespace Go.Proofs.YtncdjmpdbinanaaGreatDoor
open Go.RowKit

def formM (M : Ms) : Bool :=
  !(M.ok && (M.kind != 2 && M.kind != 4)) && (!(M.index != 0 && M.kind == 2) && (!(M.lterm != 0 && (M.kind == 2 || M.kind == 4)) && (!(M.commit != 0 && M.kind != 3) && (!(decide (0 < M.rs.length) && M.kind != 3) && (!(decide (0 < M.s.size) && M.kind != 5) && !(decide (0 < M.vs.length) && M.kind != 5))))))
def bodyM (M : Ms) : Bool :=
  if M.kind == 5 then decide (1 ≤ M.index) && (decide (1 ≤ M.lterm) && (decide (M.s.size ≤ 131072) && rightL M.vs)) else if M.kind != 3 then true else (M.rs.all (fun r => decide (r.t ≤ M.term)) && (decide (M.rs.length ≤ 20) && rightJ ⟨M.index, M.lterm, M.rs⟩))
/-- may the message be? -/
def mayM (M : Ms) : Bool :=
  inB M.kind 1 5 && (inB M.fr 1 9 && (inB M.to 1 9 && (!(M.fr == M.to) && (inB M.term 1 1073741824 && (inB M.index 0 1073741824 && (inB M.commit 0 1073741824 && (inB M.lterm 0 M.term && (formM M && bodyM M))))))))
theorem ba_empty {s : ByteArray} (h : s.size = 0) : s = ⟨#[]⟩ := by
  obtain ⟨d⟩ := s
  have : d.size = 0 := h
  rw [Array.eq_empty_of_size_eq_zero this]
theorem ne_toL {s : ByteArray} (h : 0 < s.size) : ((⟨#[]⟩ : ByteArray).toList == s.toList) = false ∧ ¬ s.toList = [] ∧ (([] : List UInt8) == s.toList) = false ∧ (s.toList == []) = false ∧ ¬ [] = s.toList := by
  have e0 : (⟨#[]⟩ : ByteArray).toList = [] := by rw [Lib.toList_data]
  have hne : ¬ s.toList = [] := by
    rw [Lib.toList_data]
    intro e
    have : s.data.toList.length = s.size := rfl
    rw [e] at this
    simp at this
    omega
  have hne' : ¬ [] = s.toList := fun e => hne e.symm
  rw [e0]
  refine ⟨?_, hne, ?_, ?_, hne'⟩
  · simpa using hne'
  · simpa using hne'
  · simpa using hne
theorem okRecs_all : ∀ (rs : List Rec) (term T : Int), okRecs term rs = true → (∀ r, rs.getLast? = some r → r.t ≤ T) → rs.all (fun r => decide (r.t ≤ T)) = true
  | [], _, _, _, _ => rfl
  | [r], term, T, _, hl => by simpa using hl r rfl
  | r :: r2 :: rs, term, T, h, hl => by
    rw [okRecs] at h
    split at h
    · have ih := okRecs_all (r2 :: rs) r.t T h (fun x hx => hl x (by rw [List.getLast?_cons_cons]; exact hx))
      have h2 : r.t ≤ r2.t := by
        rw [okRecs] at h
        split at h
        · rename_i hc
          simp only [inB, Bool.and_eq_true, decide_eq_true_eq] at hc
          omega
        · cases h
      rw [List.all_cons, ih, Bool.and_true]
      rw [List.all_cons, Bool.and_eq_true] at ih
      have := ih.1
      simp only [decide_eq_true_eq] at this ⊢
      omega
    · cases h
theorem all_last {rs : List Rec} {T : Int} {r : Rec} (h : rs.getLast? = some r) (hr : ¬ r.t ≤ T) : rs.all (fun r => decide (r.t ≤ T)) = false := by
  rw [List.all_eq_false]
  exact ⟨r, List.mem_of_getLast? h, by simpa using hr⟩
end Go.Proofs.YtncdjmpdbinanaaGreatDoor
