/-
  WHAT IS PROVED HERE: what the law's small and alive hand back. Conditions: the slices are of at most 2^47 elements; the library's table stands.
  WHAT IS PROVED HERE: what a node has granted in its term stays true of what was written down of it: plain, no program. No condition.
  WHAT IS PROVED HERE: a small node that may be still may be with a higher term and another vote; behind all that it is asked: plain, no program. No condition.
  WHAT IS PROVED HERE: what a node sends may be sent; what stays: plain, no program. No condition.
-/
import Derived.Test.YtncdjmpdbinanaaGreatDoorZGEl1
import Derived.Test.YtncdjmpdbinanaaGreatDoorZGVt
import Derived.Test.YtncdjmpdbinanaaGreatDoorZGTab
import Derived.Test.YtncdjmpdbinanaaGreatDoorZGCn0
import Derived.Test.YtncdjmpdbinanaaGreatDoorZGStd
namespace Go.Proofs.YtncdjmpdbinanaaGreatDoor
open Go.RowKit

def smallK : Int → Nat → List Rec → Option Int
  | c, _, [] => some c
  | c, i, r :: rs => if 30000 < wrap64 (c + r.d.size) ∨ 300 < i then none else smallK (wrap64 (c + r.d.size)) (i + 1) rs
def smallE (o : Option Int) (n : Nat) : Bool := match o with | none => false | some c => decide (c ≤ 30000) && decide (n ≤ 300)
def smallB (N : Nd) (M : Ms) : Bool := smallE (smallK N.h.s.size 0 N.h.l.rs) M.rs.length
def liveN : Nd := ⟨1, ⟨0, 0, ⟨0, 0, []⟩, ⟨#[]⟩, [1]⟩, 0, 0, 0, 0, [], []⟩
theorem live_right : rightN liveN = true := by
  have h0 := num_len (n := 0) (by omega) (by omega)
  have h1 := num_len (n := 1) (by omega) (by omega)
  have ht := itoa_len (n := (0 : Int)) (by omega) (k := 9) (by omega)
  have hl : (encH liveN.h).length ≤ 131072 := by
    have e : (txtN (⟨#[]⟩ : ByteArray)).enc.length ≤ 11 := by
      show (Lib.itoa ((⟨#[]⟩ : ByteArray).size : Int) ++ [58]).length ≤ 11
      rw [List.length_append]
      exact Nat.succ_le_succ ht
    have e2 : (votEnc [1]).length ≤ 14 := by
      unfold votEnc votN encN
      simp only [List.map_cons, List.map_nil, List.flatMap_cons, List.flatMap_nil, List.length_append, List.length_cons, List.length_nil]
      omega
    have e3 : (recsEnc []).length = 2 := rfl
    unfold encH liveN
    simp only [List.length_append, List.length_cons, List.length_nil]
    omega
  unfold rightN rightH
  rw [show decide ((encH liveN.h).length ≤ 131072) = true from by simpa using hl]
  rfl
end Go.Proofs.YtncdjmpdbinanaaGreatDoor
namespace Go.Proofs.YtncdjmpdbinanaaGreatDoor
open Go.RowKit

/-- what is written down: no term ahead of the node's; in its own term, whom it voted for -/
def InvO (f : Int → Option Value) (N : Nd) : Prop := ∀ t v, f t = some v → ∃ vt : Int, v = .int .i64 vt ∧ vt ≠ 0 ∧ t ≤ N.h.t ∧ (t = N.h.t → N.h.v = vt)
theorem inv_none (N : Nd) : InvO (fun _ => none) N := fun _ _ h => by cases h
theorem inv_later {f : Int → Option Value} {N : Nd} (h : InvO f N) (term : Int) : InvO f (laterN N term) := by
  unfold laterN
  cases hc : laterC N term with
  | false => exact h
  | true =>
    have ht : N.h.t < term := by
      unfold laterC at hc
      simp only [Bool.and_eq_true, decide_eq_true_eq] at hc
      exact hc.2.1
    intro t v hv
    obtain ⟨vt, h1, h2, h3, h4⟩ := h t v hv
    refine ⟨vt, h1, h2, ?_, ?_⟩
    · show t ≤ term
      omega
    · show t = term → _
      omega
theorem later_id (N : Nd) (term : Int) : (laterN N term).id = N.id := by unfold laterN; split <;> rfl
theorem vote_bounds {N : Nd} {M : Ms} (hp : voteP N M = true) (hg : voteG N M = true) : 1 ≤ N.h.t ∧ N.h.t ≤ 1073741824 ∧ 1 ≤ M.fr ∧ M.fr ≤ 9 := by
  unfold voteP mayM inB at hp
  unfold voteG at hg
  simp only [Bool.and_eq_true, decide_eq_true_eq, beq_iff_eq] at hp hg
  omega
theorem vote_noconf {f : Int → Option Value} {N : Nd} {M : Ms} (h : InvO f N) (hg : voteG N M = true) : f N.h.t = none ∨ f N.h.t = some (.int .i64 M.fr) := by
  cases hf : f N.h.t with
  | none => exact .inl rfl
  | some v =>
    obtain ⟨vt, rfl, h2, _, h4⟩ := h _ _ hf
    have h5 := h4 rfl
    unfold voteG at hg
    simp only [Bool.and_eq_true, Bool.or_eq_true, beq_iff_eq] at hg
    right
    rw [show M.fr = vt from by omega]
theorem vote_step {f : Int → Option Value} {N : Nd} {M : Ms} {d : Int} (h : InvO f N) (hp : voteP N M = true) (hg : voteG N M = true) : InvO (updI f N.h.t (.int .i64 M.fr)) (voteN N M d) := by
  have hb := vote_bounds hp hg
  unfold voteN
  rw [hp, hg]
  intro t v hv
  unfold updI at hv
  by_cases ht : t = N.h.t
  · rw [if_pos ht] at hv
    cases hv
    exact ⟨M.fr, rfl, by omega, by show t ≤ N.h.t; omega, fun _ => rfl⟩
  · rw [if_neg ht] at hv
    obtain ⟨vt, h1, h2, h3, _⟩ := h t v hv
    exact ⟨vt, h1, h2, h3, fun e => absurd e ht⟩
theorem vote_step0 {f : Int → Option Value} {N : Nd} {M : Ms} {d : Int} (h : InvO f N) (hn : (voteP N M && voteG N M) = false) : InvO f (voteN N M d) := by
  unfold voteN
  rw [hn]
  exact h
theorem voteL_no {N : Nd} {M : Ms} (h : voteP N M = false) : voteL N M = [] := by unfold voteL; rw [h]; rfl
theorem voteL_yes {N : Nd} {M : Ms} (h : voteP N M = true) : voteL N M = [⟨2, N.id, M.fr, N.h.t, voteG N M, 0, 0, [], 0, ⟨#[]⟩, []⟩] := by unfold voteL; rw [h]; rfl
/-- what is not the message that is voted on -/
theorem voteP_no {N N' : Nd} {M : Ms} (hid : N'.id = N.id) (h : mayM M = false ∨ (M.kind == 1) = false ∨ (M.to == N.id) = false) : voteP N' M = false := by
  unfold voteP
  rw [hid]
  rcases h with h | h | h <;> simp [h]
end Go.Proofs.YtncdjmpdbinanaaGreatDoor
namespace Go.Proofs.YtncdjmpdbinanaaGreatDoor
open Go.RowKit

theorem okT_sizes {T : Int} : ∀ (rs : List Rec) (term : Int), okT T term rs = true → ∀ r ∈ rs, r.d.size ≤ 8192 ∧ term ≤ r.t ∧ r.t ≤ T ∧ 0 ≤ r.k ∧ r.k ≤ 2
  | [], _, _, r, h => by cases h
  | r :: rs, term, h, x, hx => by
    rw [okT] at h
    split at h
    · rename_i hc
      simp only [inB, Bool.and_eq_true, decide_eq_true_eq] at hc
      rcases List.mem_cons.1 hx with rfl | hx
      · exact ⟨hc.2, hc.1.1.1, hc.1.1.2, hc.1.2.1, hc.1.2.2⟩
      · have := okT_sizes rs r.t h x hx
        exact ⟨this.1, by omega, this.2.2.1, this.2.2.2⟩
    · cases h
theorem rec_len2 {r : Rec} (h1 : 0 ≤ r.t ∧ r.t ≤ 1073741824) (h2 : 0 ≤ r.k ∧ r.k ≤ 1073741824) (h3 : r.d.size ≤ 131072) : (recEnc r).length ≤ 44 + r.d.size := by
  have a := num_len h1.1 h1.2
  have b := num_len h2.1 h2.2
  have c := itoa_len (n := r.d.size) (by omega) (k := 9) (by omega)
  have e : r.d.data.toList.length = r.d.size := rfl
  unfold recEnc encN
  simp only [List.flatMap_cons, List.flatMap_nil, List.length_append, List.length_cons, List.length_nil, txtN, e]
  omega
theorem right_parts {N : Nd} (h : rightN N = true) : inB N.id 1 9 = true ∧ rightH N.h = true ∧ rightL N.h.vs = true ∧ inB N.role 0 2 = true ∧ (!(decide (0 < N.role) && N.h.t == 0)) = true ∧ inB N.lead 0 9 = true ∧ inB N.timer 0 1048576 = true ∧ inB N.commit N.h.l.base (lastJ N.h.l) = true ∧ ascL none N.got = true ∧ okPs N.id (lastJ N.h.l) none N.ps = true := by
  unfold rightN at h
  simp only [Bool.and_eq_true] at h
  exact h
theorem right_of {N : Nd} (h : inB N.id 1 9 = true ∧ rightH N.h = true ∧ rightL N.h.vs = true ∧ inB N.role 0 2 = true ∧ (!(decide (0 < N.role) && N.h.t == 0)) = true ∧ inB N.lead 0 9 = true ∧ inB N.timer 0 1048576 = true ∧ inB N.commit N.h.l.base (lastJ N.h.l) = true ∧ ascL none N.got = true ∧ okPs N.id (lastJ N.h.l) none N.ps = true) : rightN N = true := by
  unfold rightN
  simp only [Bool.and_eq_true]
  exact h
end Go.Proofs.YtncdjmpdbinanaaGreatDoor
namespace Go.Proofs.YtncdjmpdbinanaaGreatDoor
open Go.RowKit

end Go.Proofs.YtncdjmpdbinanaaGreatDoor
