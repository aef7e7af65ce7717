/-
  WHAT IS PROVED HERE: plain laws on what a server is behind a tick, and what it sends then. No program, no condition.
-/
import Derived.Test.YtncdjmpdbinanaaGreatDoorZGEad
namespace Go.Proofs.YtncdjmpdbinanaaGreatDoor
open Go.RowKit

def secN (N : Nd) (t : Int) : Nd := ⟨N.id, N.h, N.role, N.lead, t, N.commit, N.got, N.ps⟩
def tickE (N : Nd) : Int := if rightN N then 0 else 1
def tickN (N : Nd) (d : Int) : Nd :=
  if rightN N then (if decide (1 < N.timer) then secN N (N.timer - 1) else (if N.role == 2 then secN N 2 else (if standW N then leadN (standN N d) else standN N d))) else zeroN
def tickL (N : Nd) (d : Int) : List Ms :=
  if rightN N then (if decide (1 < N.timer) then [] else (if N.role == 2 then allM (secN N 2) else (if standW N then standL N ++ leadL (standN N d) else standL N))) else []
theorem sec_right {N : Nd} {t : Int} (hr : rightN N = true) (h : 0 ≤ t ∧ t ≤ 1048576) : rightN (secN N t) = true := by
  have hp := right_parts hr
  exact right_of ⟨hp.1, hp.2.1, hp.2.2.1, hp.2.2.2.1, hp.2.2.2.2.1, hp.2.2.2.2.2.1, by simp only [secN, inB, Bool.and_eq_true]; exact ⟨decide_eq_true h.1, decide_eq_true h.2⟩, hp.2.2.2.2.2.2.2.1, hp.2.2.2.2.2.2.2.2.1, hp.2.2.2.2.2.2.2.2.2⟩
theorem find_at {id : Int} : ∀ {ps : List Pr} {j : Nat} {p : Pr}, ps.Pairwise (fun p q => p.id < q.id) → ps[j]? = some p → findP p.id ps = some p
  | [], j, p, _, h => by simp at h
  | q :: ps, 0, p, _, h => by
    have h : q = p := by simpa using h
    subst h
    rw [findP, if_pos rfl]
  | q :: ps, j + 1, p, hp, h => by
    have h : ps[j]? = some p := by simpa using h
    have hlt := (List.pairwise_cons.1 hp).1 p (List.mem_of_getElem? h)
    rw [findP, if_neg (by omega)]
    exact find_at (id := id) (List.pairwise_cons.1 hp).2 h
/-- what a leader sends to each of its peers in turn -/
theorem send_each {N : Nd} (hr : rightN N = true) (hrole : N.role = 2) {j : Nat} {p : Pr} (h : N.ps[j]? = some p) : sendL N p.id = [sendM N p] := by
  have hps := (okPs_iff.1 (right_parts hr).2.2.2.2.2.2.2.2.2).2.1
  unfold sendL
  rw [hr, find_at (id := 0) hps h, hrole]
  rfl
theorem won_alone {N : Nd} (h : standW N = true) : standL N = [] := by
  unfold standW at h
  rw [Bool.and_eq_true] at h
  unfold standL
  rw [if_pos h.1]
  have hw := h.2
  unfold winsL at hw
  rw [Bool.and_eq_true, decide_eq_true_eq] at hw
  have hc := h.1
  unfold standC at hc
  simp only [Bool.and_eq_true] at hc
  have hin := hc.2.2
  have hle : cntL [N.id] (votersN N) ≤ 1 := by
    have hp := (asc_none (l := votersN N) (by have h1 := hw.1; unfold rightL at h1; simp only [Bool.and_eq_true] at h1; exact h1.1)).1
    revert hp
    generalize votersN N = vs
    intro hp
    induction vs with
    | nil => simp [cntL]
    | cons x xs ih =>
      have hx := List.pairwise_cons.1 hp
      have := ih hx.2
      rw [cntL]
      by_cases e : x = N.id
      · have h0 : cntL [N.id] xs = 0 := by
          clear ih this
          have hx1 := hx.1
          clear hp hx
          induction xs with
          | nil => rfl
          | cons y ys ih2 =>
            have hy := hx1 y (.head _)
            rw [cntL, ih2 (fun z hz => hx1 z (.tail _ hz))]
            have : inL y [N.id] = false := by
              unfold inL inL
              rw [if_neg (by simp; omega)]
            rw [this]
            rfl
        rw [h0]
        split <;> omega
      · have : inL x [N.id] = false := by
          unfold inL inL
          rw [if_neg (by simpa using e)]
        rw [this]
        simpa using ‹cntL [N.id] xs ≤ 1›
  have hlen : (votersN N).length ≤ 1 := by omega
  unfold asks
  match hv : votersN N, hlen with
  | [], _ => rfl
  | [x], _ =>
    rw [hv] at hin
    have e : N.id = x := by
      unfold inL inL at hin
      split at hin
      · rename_i he
        simpa using he
      · cases hin
    simp [e]
end Go.Proofs.YtncdjmpdbinanaaGreatDoor
