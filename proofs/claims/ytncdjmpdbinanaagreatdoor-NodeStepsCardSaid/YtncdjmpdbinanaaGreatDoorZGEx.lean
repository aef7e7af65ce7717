/-
  WHAT IS PROVED HERE: plain laws on what a node is that compacts, or that takes a snapshot. No program, no condition.
  WHAT IS PROVED HERE: plain laws on what a node is that takes a snapshot, and what it answers. No program, no condition.
  WHAT IS PROVED HERE: what a leader is, sends and adds, as data. No program, no condition.
  WHAT IS PROVED HERE: plain laws on what a leader is and sends. No program, no condition.
-/
import Derived.Test.YtncdjmpdbinanaaGreatDoorZGKj2
import Derived.Test.YtncdjmpdbinanaaGreatDoorZGKep
import Derived.Test.YtncdjmpdbinanaaGreatDoorZGKs
namespace Go.Proofs.YtncdjmpdbinanaaGreatDoor
open Go.RowKit

def zeroN : Nd := ⟨0, ⟨0, 0, ⟨0, 0, []⟩, ⟨#[]⟩, []⟩, 0, 0, 0, 0, [], []⟩
/-- the voters that were said up to a place -/
def votersAt (h : Hd) (p : Int) : List Int := (ofF h.l.base 0 (h.vs, h.l.base) (h.l.rs.take (p - h.l.base).toNat)).1
def votersE (h : Hd) (p : Int) : List Int × Int := if rightH h then (if decide (h.l.base ≤ p) && decide (p ≤ lastJ h.l) then (votersAt h p, 0) else ([], 150)) else ([], 1)
def compH (N : Nd) (s : ByteArray) : Hd := ⟨N.h.t, N.h.v, (compactJ N.h.l N.commit).1, s, votersAt N.h N.commit⟩
def compN (N : Nd) (s : ByteArray) : Nd × Int :=
  if rightN N then (if N.commit == N.h.l.base then (zeroN, 150) else (if rightH (compH N s) then (⟨N.id, compH N s, N.role, N.lead, N.timer, N.commit, N.got, N.ps⟩, 0) else (zeroN, 130))) else (zeroN, 1)
def toldC (N : Nd) (M : Ms) (k : Int) : Bool := rightN N && (mayM M && (M.kind == k && (M.to == N.id && decide (M.term ≤ N.h.t))))
def followN (N : Nd) (fr d : Int) : Nd := ⟨N.id, N.h, 0, fr, min (max d 0) 1048576, N.commit, [], []⟩
def instH (N : Nd) (M : Ms) : Hd := ⟨N.h.t, N.h.v, adoptJ N.h.l M.index M.lterm, M.s, M.vs⟩
def fitM (id fr t : Int) (ok : Bool) (p : Int) : Ms := ⟨4, id, fr, t, ok, p, 0, [], 0, ⟨#[]⟩, []⟩
def instN (N : Nd) (M : Ms) (d : Int) : Nd :=
  if toldC N M 5 && (decide (N.h.t ≤ M.term) && !(N.role == 2)) then (if decide (N.commit < M.index) && rightH (instH N M) then ⟨N.id, instH N M, 0, M.fr, min (max d 0) 1048576, M.index, [], []⟩ else followN N M.fr d) else N
def instL (N : Nd) (M : Ms) : List Ms :=
  if toldC N M 5 then (if decide (M.term < N.h.t) then [fitM N.id M.fr N.h.t false (lastJ N.h.l)] else (if N.role == 2 then [] else (if decide (N.commit < M.index) then (if rightH (instH N M) then [fitM N.id M.fr N.h.t true M.index] else [fitM N.id M.fr N.h.t false (lastJ N.h.l)]) else [fitM N.id M.fr N.h.t true N.commit]))) else []

/-- who is said last -/
def volL (cur : List Int) : List Rec → List Int
  | [] => cur
  | r :: rs => volL ((qual r).getD cur) rs
theorem ofF_vol (base : Int) : ∀ (rs : List Rec) (i : Nat) (cur : List Int × Int), (ofF base i cur rs).1 = volL cur.1 rs
  | [], _, _ => rfl
  | r :: rs, i, cur => by
    rw [ofF, volL, ofF_vol base rs]
    cases qual r <;> rfl
theorem vol_append : ∀ (xs ys : List Rec) (cur : List Int), volL cur (xs ++ ys) = volL (volL cur xs) ys
  | [], _, _ => rfl
  | x :: xs, ys, cur => by rw [List.cons_append, volL, volL, vol_append xs ys]
theorem votersN_vol (N : Nd) : votersN N = volL N.h.vs N.h.l.rs := ofF_vol _ _ _ _
theorem votersAt_vol (h : Hd) (p : Int) : votersAt h p = volL h.vs (h.l.rs.take (p - h.l.base).toNat) := ofF_vol _ _ _ _
theorem votersAt_right {h : Hd} (p : Int) (hv : rightL h.vs = true) : rightL (votersAt h p) = true := of_right h.l.base _ hv

theorem commit_term {N : Nd} (hr : rightN N = true) : rightJ N.h.l = true ∧ N.h.l.base ≤ N.commit ∧ N.commit ≤ lastJ N.h.l ∧ ∃ t, termJ N.h.l N.commit = some t := by
  have h1 := right_parts hr
  have hj := (right_n hr).1
  have hc := h1.2.2.2.2.2.2.2.1
  simp only [inB, Bool.and_eq_true, decide_eq_true_eq] at hc
  refine ⟨hj, hc.1, hc.2, ?_⟩
  unfold lastJ at hc
  rcases Int.lt_or_le N.h.l.base N.commit with h | h
  · rw [termJ_at h, List.getElem?_eq_getElem (by omega)]
    exact ⟨_, rfl⟩
  · have e : N.commit = N.h.l.base := by omega
    rw [e, termJ_eq]
    exact ⟨_, rfl⟩
theorem compact_some {l : Lg} {p t : Int} (hj : rightJ l = true) (ht : termJ l p = some t) : compactJ l p = (⟨p, t, l.rs.drop (p - l.base).toNat⟩, 0) := by
  unfold compactJ
  rw [if_pos hj, ht]
/-- behind compacting -/
theorem comp_keeps {N N' : Nd} {s : ByteArray} (h : compN N s = (N', 0)) :
    rightN N = true ∧ rightN N' = true ∧ votersN N' = votersN N ∧ lastJ N'.h.l = lastJ N.h.l ∧ N'.commit = N.commit ∧ N'.h.l.base = N.commit ∧ N'.h.s = s ∧ N'.h.t = N.h.t ∧ N'.h.v = N.h.v ∧ rightJ N'.h.l = true ∧
    (∀ p, N.commit ≤ p → termJ N'.h.l p = termJ N.h.l p) ∧ compN N' s = (zeroN, 150) := by
  unfold compN at h
  split at h
  case isFalse => injection h with _ h; cases h
  rename_i hr
  split at h
  · injection h with _ h; cases h
  split at h
  case isFalse => injection h with _ h; cases h
  rename_i hH
  injection h with h _
  subst h
  obtain ⟨hj, hb1, hb2, t, ht⟩ := commit_term hr
  have hcp := compact_some hj ht
  obtain ⟨c1, c2, c3⟩ := compact_right hj ht
  have hp := right_parts hr
  have hv : rightL (votersAt N.h N.commit) = true := votersAt_right _ hp.2.2.1
  have hr' : rightN ⟨N.id, compH N s, N.role, N.lead, N.timer, N.commit, N.got, N.ps⟩ = true := by
    refine right_of ⟨hp.1, hH, ?_, hp.2.2.2.1, hp.2.2.2.2.1, hp.2.2.2.2.2.1, hp.2.2.2.2.2.2.1, ?_, hp.2.2.2.2.2.2.2.2.1, ?_⟩
    · exact hv
    · unfold compH
      rw [hcp]
      dsimp only
      rw [c2]
      simp only [inB, Bool.and_eq_true, decide_eq_true_eq]
      omega
    · unfold compH
      rw [hcp]
      dsimp only
      rw [c2]
      exact hp.2.2.2.2.2.2.2.2.2
  refine ⟨hr, hr', ?_, ?_, rfl, ?_, rfl, rfl, rfl, (right_n hr').1, ?_, ?_⟩
  · rw [votersN_vol, votersN_vol]
    unfold compH
    rw [hcp]
    dsimp only
    rw [votersAt_vol, ← vol_append, List.take_append_drop]
  · unfold compH
    rw [hcp]
    exact c2
  · unfold compH
    rw [hcp]
  · unfold compH
    rw [hcp]
    exact c3
  · have hb : (compH N s).l.base = N.commit := by
      unfold compH
      rw [hcp]
    unfold compN
    rw [if_pos hr', if_pos (by rw [hb]; simp)]
theorem comp_no {N N' : Nd} {s : ByteArray} {e : Int} (h : compN N s = (N', e)) (he : e ≠ 0) : N' = zeroN := by
  unfold compN at h
  split at h
  · split at h
    · injection h with h _; exact h.symm
    · split at h
      · injection h with _ h; exact absurd h.symm he
      · injection h with h _; exact h.symm
  · injection h with h _; exact h.symm
end Go.Proofs.YtncdjmpdbinanaaGreatDoor
namespace Go.Proofs.YtncdjmpdbinanaaGreatDoor
open Go.RowKit

theorem told_parts {N : Nd} {M : Ms} {k : Int} (h : toldC N M k = true) : rightN N = true ∧ mayM M = true ∧ M.kind = k ∧ M.to = N.id ∧ M.term ≤ N.h.t := by
  unfold toldC at h
  simp only [Bool.and_eq_true, decide_eq_true_eq, beq_iff_eq] at h
  exact h
theorem may_bounds {M : Ms} (h : mayM M = true) : (1 ≤ M.kind ∧ M.kind ≤ 5) ∧ (1 ≤ M.fr ∧ M.fr ≤ 9) ∧ (1 ≤ M.to ∧ M.to ≤ 9) ∧ ¬ M.fr = M.to ∧ (1 ≤ M.term ∧ M.term ≤ 1073741824) ∧ (0 ≤ M.index ∧ M.index ≤ 1073741824) ∧ (0 ≤ M.commit ∧ M.commit ≤ 1073741824) ∧ (0 ≤ M.lterm ∧ M.lterm ≤ M.term) := by
  unfold mayM inB at h
  simp only [Bool.and_eq_true, decide_eq_true_eq, Bool.not_eq_true', beq_eq_false_iff_ne, ne_eq] at h
  exact ⟨h.1, h.2.1, h.2.2.1, h.2.2.2.1, h.2.2.2.2.1, h.2.2.2.2.2.1, h.2.2.2.2.2.2.1, h.2.2.2.2.2.2.2.1⟩
theorem may_snap {M : Ms} (h : mayM M = true) (hk : M.kind = 5) : 1 ≤ M.index ∧ 1 ≤ M.lterm ∧ M.s.size ≤ 131072 ∧ rightL M.vs = true := by
  unfold mayM bodyM at h
  simp only [Bool.and_eq_true, hk, beq_self_eq_true, if_true, decide_eq_true_eq] at h
  exact h.2.2.2.2.2.2.2.2.2
theorem commit_bounds {N : Nd} (hr : rightN N = true) : 0 ≤ N.h.l.base ∧ N.h.l.base ≤ N.commit ∧ N.commit ≤ lastJ N.h.l ∧ lastJ N.h.l ≤ 1073741824 := by
  obtain ⟨hj, h1, h2, _⟩ := commit_term hr
  have h3 := right_iff.1 hj
  unfold lastJ at h2 ⊢
  exact ⟨h3.1, h1, h2, by omega⟩
theorem follow_right {N : Nd} (hr : rightN N = true) {fr : Int} (d : Int) (hf : 1 ≤ fr ∧ fr ≤ 9) : rightN (followN N fr d) = true := by
  have hp := right_parts hr
  refine right_of ⟨hp.1, hp.2.1, hp.2.2.1, rfl, by simp [followN], ?_, ?_, hp.2.2.2.2.2.2.2.1, rfl, rfl⟩
  · show inB fr 0 9 = true
    simp only [inB, Bool.and_eq_true, decide_eq_true_eq]; omega
  · show inB (min (max d 0) 1048576) 0 1048576 = true
    simp only [inB, Bool.and_eq_true, decide_eq_true_eq]; omega
theorem right_at {M : Ms} (h : mayM M = true) (hk : M.kind = 5) : rightJ ⟨M.index, M.lterm, []⟩ = true := by
  have h1 := may_bounds h
  have h2 := may_snap h hk
  rw [right_iff]
  dsimp only
  refine ⟨by omega, by omega, by omega, by omega, by omega, by simp, by simp; omega, rfl⟩
theorem fit_may {id fr t p : Int} (ok : Bool) (h1 : 1 ≤ id ∧ id ≤ 9) (h2 : 1 ≤ fr ∧ fr ≤ 9) (h3 : ¬ id = fr) (h4 : 1 ≤ t ∧ t ≤ 1073741824) (h5 : 0 ≤ p ∧ p ≤ 1073741824) : mayM (fitM id fr t ok p) = true := by
  unfold mayM fitM formM bodyM inB
  simp only [Bool.and_eq_true, decide_eq_true_eq, Bool.not_eq_true', beq_eq_false_iff_ne, ne_eq]
  refine ⟨⟨by omega, by omega⟩, ⟨by omega, by omega⟩, ⟨by omega, by omega⟩, by omega, ⟨by omega, by omega⟩, ⟨by omega, by omega⟩, ⟨by omega, by omega⟩, ⟨by omega, by omega⟩, ?_, ?_⟩
  · simp [ByteArray.size]
  · simp
theorem inst_may {N : Nd} {M : Ms} {x : Ms} (hx : x ∈ instL N M) : mayM x = true ∧ x.fr = N.id ∧ x.to = M.fr := by
  unfold instL at hx
  split at hx
  case isFalse => cases hx
  rename_i hc
  obtain ⟨hr, hm, hk, hto, hle⟩ := told_parts hc
  have hb := may_bounds hm
  have hn := right_n hr
  have hcb := commit_bounds hr
  have go : ∀ (ok : Bool) (p : Int), 0 ≤ p → p ≤ 1073741824 → mayM (fitM N.id M.fr N.h.t ok p) = true := fun ok p h1 h2 => fit_may ok hn.2.2.2.2 hb.2.1 (by omega) (by omega) ⟨h1, h2⟩
  split at hx
  · rw [List.mem_singleton] at hx
    subst hx
    exact ⟨go _ _ (by omega) (by omega), rfl, rfl⟩
  split at hx
  · cases hx
  split at hx
  · split at hx
    · rw [List.mem_singleton] at hx
      subst hx
      exact ⟨go _ _ (by omega) (by omega), rfl, rfl⟩
    · rw [List.mem_singleton] at hx
      subst hx
      exact ⟨go _ _ (by omega) (by omega), rfl, rfl⟩
  · rw [List.mem_singleton] at hx
    subst hx
    exact ⟨go _ _ (by omega) (by omega), rfl, rfl⟩
theorem inst_len (N : Nd) (M : Ms) : (instL N M).length ≤ 1 := by
  unfold instL
  split
  · split
    · simp
    · split
      · simp
      · split
        · split <;> simp
        · simp
  · simp
theorem adopt_rest {l : Lg} {p t : Int} (hj : rightJ l = true) (h2 : rightJ ⟨p, t, []⟩ = true) (hb : l.base < p) :
    adoptJ l p t = ⟨p, t, if termAtJ l p = some t then behindJ l p 200 else []⟩ := by
  unfold adoptJ termAtJ
  rw [if_pos (by rw [hj, h2]; rfl), if_neg (by omega), if_pos hj]
  cases ht : termJ l p with
  | none => simp
  | some u =>
    dsimp only
    by_cases hu : u = t
    · subst hu
      rw [if_pos rfl, if_pos rfl, compact_some hj ht]
      have hrg := termJ_range ht
      have h3 := right_iff.1 hj
      unfold behindJ lastJ
      rw [if_pos ⟨hj, by omega, by omega⟩, List.take_of_length_le (by rw [List.length_drop]; have := h3.2.2.2.2.2.1; show _ ≤ 200; omega)]
    · rw [if_neg hu, if_neg (by simpa using hu)]
theorem inst_right {N : Nd} {M : Ms} (hc : toldC N M 5 = true) (d : Int) (hl : N.commit < M.index) (hH : rightH (instH N M) = true) : rightN ⟨N.id, instH N M, 0, M.fr, min (max d 0) 1048576, M.index, [], []⟩ = true := by
  obtain ⟨hr, hm, hk, hto, hle⟩ := told_parts hc
  have hb := may_bounds hm
  have hs := may_snap hm hk
  have hcb := commit_bounds hr
  have hp := right_parts hr
  have ha := adopt_rest (right_n hr).1 (right_at hm hk) (by omega)
  refine right_of ⟨hp.1, hH, hs.2.2.2, rfl, by simp, ?_, ?_, ?_, rfl, rfl⟩
  · simp only [inB, Bool.and_eq_true, decide_eq_true_eq]; omega
  · simp only [inB, Bool.and_eq_true, decide_eq_true_eq]; omega
  · unfold instH lastJ
    rw [ha]
    simp only [inB, Bool.and_eq_true, decide_eq_true_eq]
    omega
theorem inst_keeps {N : Nd} (M : Ms) (d : Int) (hr : rightN N = true) :
    rightN (instN N M d) = true ∧ (instN N M d).h.t = N.h.t ∧ (instN N M d).h.v = N.h.v ∧ N.commit ≤ (instN N M d).commit ∧
    (((instN N M d).commit = N.commit ∧ (instN N M d).h = N.h) ∨ ((instN N M d).commit ≠ N.commit ∧ (instN N M d).commit = M.index ∧ (instN N M d).h.s = M.s ∧ (instN N M d).h.l = ⟨M.index, M.lterm, if termAtJ N.h.l M.index = some M.lterm then behindJ N.h.l M.index 200 else []⟩)) := by
  unfold instN
  split
  case isFalse => exact ⟨hr, rfl, rfl, Int.le_refl _, .inl ⟨rfl, rfl⟩⟩
  rename_i hc
  simp only [Bool.and_eq_true, decide_eq_true_eq] at hc
  have hc := hc.1
  obtain ⟨_, hm, hk, hto, hle⟩ := told_parts hc
  split
  · rename_i h2
    simp only [Bool.and_eq_true, decide_eq_true_eq] at h2
    have hcb := commit_bounds hr
    exact ⟨inst_right hc d h2.1 h2.2, rfl, rfl, by show N.commit ≤ M.index; omega, .inr ⟨by show M.index ≠ N.commit; omega, rfl, rfl, adopt_rest (right_n hr).1 (right_at hm hk) (by omega)⟩⟩
  · exact ⟨follow_right hr d (may_bounds hm).2.1, rfl, rfl, Int.le_refl _, .inl ⟨rfl, rfl⟩⟩
end Go.Proofs.YtncdjmpdbinanaaGreatDoor
namespace Go.Proofs.YtncdjmpdbinanaaGreatDoor
open Go.RowKit

/-- the place that is sure -/
def sureP (N : Nd) : Int := refSureL N.id (lastJ N.h.l) N.ps (votersN N)
def sureC (N : Nd) : Bool := decide (N.commit < sureP N) && (termJ N.h.l (sureP N) == some N.h.t)
def sureN (N : Nd) : Nd := if sureC N then ⟨N.id, N.h, N.role, N.lead, N.timer, sureP N, N.got, N.ps⟩ else N
/-- what a leader sends to a peer -/
def sendM (N : Nd) (p : Pr) : Ms :=
  if p.nx ≤ N.h.l.base then ⟨5, N.id, p.id, N.h.t, false, N.h.l.base, N.h.l.bt, [], 0, N.h.s, N.h.vs⟩
  else ⟨3, N.id, p.id, N.h.t, false, p.nx - 1, (termJ N.h.l (p.nx - 1)).getD 0, behindJ N.h.l (p.nx - 1) 20, N.commit, ⟨#[]⟩, []⟩
def allM (N : Nd) : List Ms := N.ps.map (sendM N)
/-- the place of a peer in a row -/
def idxP (id : Int) : Nat → List Pr → Int
  | _, [] => -1
  | k, p :: ps => if p.id = id then (k : Int) else idxP id (k + 1) ps
def findP (id : Int) : List Pr → Option Pr
  | [] => none
  | p :: ps => if p.id = id then some p else findP id ps
def sendL (N : Nd) (q : Int) : List Ms := if rightN N && N.role == 2 then (match findP q N.ps with | some p => [sendM N p] | none => []) else []
/-- the peers of voters but one -/
def peersF (vs : List Int) (self next : Int) (old : List Pr) : List Pr := (vs.filter (fun v => !(v == self))).map (fun v => (findP v old).getD ⟨v, next, 0⟩)
def withH (h : Hd) (r : Rec) : Hd := ⟨h.t, h.v, ⟨h.l.base, h.l.bt, h.l.rs ++ [r]⟩, h.s, h.vs⟩
def hdN (N : Nd) (h : Hd) : Nd := ⟨N.id, h, N.role, N.lead, N.timer, N.commit, N.got, N.ps⟩
def leadC (N : Nd) : Bool := rightN N && N.role == 1
def leadB (N : Nd) : Nd := ⟨N.id, N.h, 2, N.id, 2, N.commit, [], peersF (votersN N) N.id (lastJ N.h.l + 1) []⟩
def leadW (N : Nd) : Nd := if rightH (withH N.h ⟨N.h.t, 0, ⟨#[]⟩⟩) then hdN (leadB N) (withH N.h ⟨N.h.t, 0, ⟨#[]⟩⟩) else leadB N
def leadN (N : Nd) : Nd := if leadC N then sureN (leadW N) else N
def leadL (N : Nd) : List Ms := if leadC N then allM (sureN (leadW N)) else []
/-- an answer that a leader takes -/
def fitC (N : Nd) (M : Ms) : Bool := toldC N M 4 && (decide (N.h.t ≤ M.term) && (N.role == 2 && (!(M.ok && decide (lastJ N.h.l < M.index)) && (findP M.fr N.ps).isSome)))
def fitP (_N : Nd) (M : Ms) (p : Pr) : Pr := if M.ok then ⟨p.id, max p.mt M.index + 1, max p.mt M.index⟩ else ⟨p.id, max (min (p.nx - 1) (M.index + 1)) (p.mt + 1), p.mt⟩
def setP (id : Int) (q : Pr) : List Pr → List Pr
  | [] => []
  | p :: ps => if p.id = id then q :: ps else p :: setP id q ps
def psN (N : Nd) (ps : List Pr) : Nd := ⟨N.id, N.h, N.role, N.lead, N.timer, N.commit, N.got, ps⟩
def fitN (N : Nd) (M : Ms) : Nd :=
  if fitC N M then (match findP M.fr N.ps with
    | none => N
    | some p => if M.ok then sureN (psN N (setP M.fr (fitP N M p) N.ps)) else psN N (setP M.fr (fitP N M p) N.ps)) else N
def fitL (N : Nd) (M : Ms) : List Ms :=
  if fitC N M then (match findP M.fr N.ps with
    | none => []
    | some p => if M.ok && decide (lastJ N.h.l < (fitP N M p).nx) then [] else [sendM (fitN N M) (fitP N M p)]) else []
/-- does a record stand against what is sure? -/
def badR (N : Nd) (idx : Int) : List Rec → Bool
  | [] => false
  | r :: rs => if decide (N.h.l.base < idx + 1) && (decide (idx + 1 ≤ N.commit) && !(termJ N.h.l (idx + 1) == some r.t)) then true else badR N (idx + 1) rs
def takeC (N : Nd) (M : Ms) : Bool := toldC N M 3 && (decide (N.h.t ≤ M.term) && !(N.role == 2))
def takeMg (N : Nd) (M : Ms) : Mg := mergeJ N.h.l M.index M.lterm M.rs
def logH (h : Hd) (l : Lg) : Hd := ⟨h.t, h.v, l, h.s, h.vs⟩
def takeOk (N : Nd) (M : Ms) : Bool := (takeMg N M).e == 0 && rightH (logH N.h (takeMg N M).l)
def takeN (N : Nd) (M : Ms) (d : Int) : Nd :=
  if takeC N M then (if badR N M.index M.rs then followN N M.fr d else (if takeOk N M && (takeMg N M).f then ⟨N.id, logH N.h (takeMg N M).l, 0, M.fr, min (max d 0) 1048576, max N.commit (min M.commit (takeMg N M).n), [], []⟩ else followN N M.fr d)) else N
def takeL (N : Nd) (M : Ms) : List Ms :=
  if toldC N M 3 then (if decide (M.term < N.h.t) then [fitM N.id M.fr N.h.t false (lastJ N.h.l)] else (if N.role == 2 then [] else (if badR N M.index M.rs then [fitM N.id M.fr N.h.t false N.commit] else
    (if takeOk N M then [fitM N.id M.fr N.h.t (takeMg N M).f (takeMg N M).n] else [fitM N.id M.fr N.h.t false (lastJ N.h.l)])))) else []
/-- a record that a leader is given -/
def saidN (N : Nd) : Int := (ofF N.h.l.base 0 (N.h.vs, N.h.l.base) N.h.l.rs).2
def confC (N : Nd) (d : ByteArray) : Bool :=
  match parseQ d.data.toList with
  | none => false
  | some l => nextL (votersN N) l && (inL N.id l && (decide (saidN N ≤ N.commit) && (termJ N.h.l N.commit == some N.h.t)))
def addE (N : Nd) (k : Int) (d : ByteArray) : Int :=
  if rightN N && (decide (0 ≤ k) && (decide (k ≤ 2) && decide (d.size ≤ 8192))) then (if N.role == 2 then (if k == 2 && !(confC N d) then 160 else (if rightH (withH N.h ⟨N.h.t, k, d⟩) then 0 else 130)) else 171) else 1
def addB (N : Nd) (k : Int) (d : ByteArray) : Nd :=
  if k == 2 then psN (hdN N (withH N.h ⟨N.h.t, k, d⟩)) (peersF ((parseQ d.data.toList).getD []) N.id (lastJ N.h.l + 1) N.ps) else hdN N (withH N.h ⟨N.h.t, k, d⟩)
def addN (N : Nd) (k : Int) (d : ByteArray) : Nd := if addE N k d = 0 then sureN (addB N k d) else zeroN
def addL (N : Nd) (k : Int) (d : ByteArray) : List Ms := if addE N k d = 0 then allM (sureN (addB N k d)) else []
def addAt (N : Nd) (k : Int) (d : ByteArray) : Int := if addE N k d = 0 then lastJ N.h.l + 1 else 0
end Go.Proofs.YtncdjmpdbinanaaGreatDoor
namespace Go.Proofs.YtncdjmpdbinanaaGreatDoor
open Go.RowKit

theorem okPs_iff {nid last : Int} : ∀ {ps : List Pr} {prev : Option Int}, okPs nid last prev ps = true ↔
    ((∀ p ∈ ps, (1 ≤ p.id ∧ p.id ≤ 9) ∧ ¬ p.id = nid ∧ (1 ≤ p.nx ∧ p.nx ≤ last + 1) ∧ (0 ≤ p.mt ∧ p.mt ≤ p.nx - 1)) ∧ ps.Pairwise (fun p q => p.id < q.id) ∧ ∀ u, prev = some u → ∀ p ∈ ps, u < p.id)
  | [], prev => by simp [okPs]
  | p :: ps, prev => by
    have ih := okPs_iff (nid := nid) (last := last) (ps := ps) (prev := some p.id)
    rw [okPs]
    constructor
    · intro h
      split at h
      case isFalse => cases h
      rename_i hp
      obtain ⟨i1, i2, i3⟩ := ih.1 h
      unfold okP inB at hp
      simp only [Bool.and_eq_true, decide_eq_true_eq, Bool.not_eq_true', beq_eq_false_iff_ne, ne_eq] at hp
      obtain ⟨⟨⟨⟨h1, h2⟩, h3⟩, h4⟩, h5⟩ := hp
      refine ⟨?_, List.Pairwise.cons (fun q hq => i3 _ rfl q hq) i2, ?_⟩
      · intro q hq
        rcases List.mem_cons.1 hq with rfl | hq
        · exact ⟨h1, h2, h4, h5⟩
        · exact i1 q hq
      · intro u hu q hq
        subst hu
        have h3' : u < p.id := by simpa using h3
        rcases List.mem_cons.1 hq with rfl | hq
        · exact h3'
        · have := i3 _ rfl q hq
          omega
    · rintro ⟨a1, a2, a3⟩
      have hp := a1 p (.head _)
      rw [if_pos]
      · exact ih.2 ⟨fun q hq => a1 q (.tail _ hq), (List.pairwise_cons.1 a2).2, fun u hu q hq => by injection hu with hu; subst hu; exact (List.pairwise_cons.1 a2).1 q hq⟩
      · unfold okP inB
        simp only [Bool.and_eq_true, decide_eq_true_eq, Bool.not_eq_true', beq_eq_false_iff_ne, ne_eq]
        refine ⟨⟨⟨⟨hp.1, hp.2.1⟩, ?_⟩, hp.2.2.1⟩, hp.2.2.2⟩
        cases prev with
        | none => rfl
        | some u => simpa using a3 u rfl p (.head _)
theorem findP_mem {id : Int} : ∀ {ps : List Pr} {p : Pr}, findP id ps = some p → p ∈ ps ∧ p.id = id
  | [], _, h => by cases h
  | q :: ps, p, h => by
    rw [findP] at h
    split at h
    · rename_i hq
      injection h with h
      subst h
      exact ⟨.head _, hq⟩
    · obtain ⟨h1, h2⟩ := findP_mem h
      exact ⟨.tail _ h1, h2⟩
theorem okPs_up {nid last last' : Int} {ps : List Pr} (hl : last ≤ last') (h : okPs nid last none ps = true) : okPs nid last' none ps = true := by
  obtain ⟨a1, a2, a3⟩ := okPs_iff.1 h
  refine okPs_iff.2 ⟨fun p hp => ?_, a2, a3⟩
  obtain ⟨b1, b2, b3, b4⟩ := a1 p hp
  exact ⟨b1, b2, by omega, b4⟩
theorem okPs_peers {self last : Int} {vs : List Int} {old : List Pr} (hv : rightL vs = true) {next : Int} (hn : 1 ≤ next ∧ next ≤ last + 1) (ho : okPs self last none old = true) : okPs self last none (peersF vs self next old) = true := by
  have hp := (asc_none (l := vs) (by unfold rightL at hv; simp only [Bool.and_eq_true] at hv; exact hv.1)).1
  have hd := right_digits hv
  obtain ⟨a1, _, _⟩ := okPs_iff.1 ho
  have hid : ∀ v, ((findP v old).getD ⟨v, next, 0⟩).id = v := by
    intro v
    cases hf : findP v old with
    | none => rfl
    | some p => exact (findP_mem hf).2
  refine okPs_iff.2 ⟨?_, ?_, fun u hu => by cases hu⟩
  · intro p hp
    unfold peersF at hp
    obtain ⟨v, hv2, rfl⟩ := List.mem_map.1 hp
    rw [List.mem_filter] at hv2
    have hne : ¬ v = self := by simpa using hv2.2
    have hdv := hd v hv2.1
    rw [hid]
    refine ⟨by omega, hne, ?_⟩
    cases hf : findP v old with
    | none => exact ⟨by show 1 ≤ next ∧ next ≤ last + 1; exact hn, by show (0 : Int) ≤ 0 ∧ 0 ≤ next - 1; omega⟩
    | some p => exact (a1 p (findP_mem hf).1).2.2
  · unfold peersF
    rw [List.pairwise_map]
    refine (hp.filter _).imp ?_
    intro a b hab
    rw [hid, hid]
    exact hab
theorem sure_range {N : Nd} (h : sureC N = true) : N.commit < sureP N ∧ termJ N.h.l (sureP N) = some N.h.t ∧ sureP N ≤ lastJ N.h.l := by
  unfold sureC at h
  simp only [Bool.and_eq_true, decide_eq_true_eq, beq_iff_eq] at h
  exact ⟨h.1, h.2, (termJ_range h.2).2⟩
theorem sure_right {N : Nd} (hr : rightN N = true) : rightN (sureN N) = true := by
  unfold sureN
  split
  case isFalse => exact hr
  rename_i hc
  obtain ⟨h1, _, h3⟩ := sure_range hc
  have hp := right_parts hr
  have hcb := commit_bounds hr
  refine right_of ⟨hp.1, hp.2.1, hp.2.2.1, hp.2.2.2.1, hp.2.2.2.2.1, hp.2.2.2.2.2.1, hp.2.2.2.2.2.2.1, ?_, hp.2.2.2.2.2.2.2.2⟩
  simp only [inB, Bool.and_eq_true, decide_eq_true_eq]
  omega
theorem sure_same (N : Nd) : (sureN N).id = N.id ∧ (sureN N).h = N.h ∧ (sureN N).role = N.role ∧ (sureN N).lead = N.lead ∧ (sureN N).timer = N.timer ∧ (sureN N).got = N.got ∧ (sureN N).ps = N.ps ∧ N.commit ≤ (sureN N).commit := by
  unfold sureN
  split
  · rename_i hc
    exact ⟨rfl, rfl, rfl, rfl, rfl, rfl, rfl, by show N.commit ≤ sureP N; have := (sure_range hc).1; omega⟩
  · exact ⟨rfl, rfl, rfl, rfl, rfl, rfl, rfl, Int.le_refl _⟩
theorem with_last (h : Hd) (r : Rec) : lastJ (withH h r).l = lastJ h.l + 1 := by
  unfold lastJ withH
  simp
  omega
/-- what a node that does anything keeps -/
structure Kept (N X : Nd) : Prop where
  right : rightN X = true
  id : X.id = N.id
  term : X.h.t = N.h.t
  vote : X.h.v = N.h.v
  com : N.commit ≤ X.commit
  base : X.h.l.base = N.h.l.base
  len : (N.commit - N.h.l.base).toNat ≤ X.h.l.rs.length
  recs : X.h.l.rs.take (N.commit - N.h.l.base).toNat = N.h.l.rs.take (N.commit - N.h.l.base).toNat
/-- all records stay -/
def Holds (N X : Nd) : Prop := N.h.l.rs.length ≤ X.h.l.rs.length ∧ X.h.l.rs.take N.h.l.rs.length = N.h.l.rs
theorem Kept.self {N : Nd} (hr : rightN N = true) : Kept N N ∧ Holds N N := by
  have hcb := commit_bounds hr
  unfold lastJ at hcb
  exact ⟨⟨hr, rfl, rfl, rfl, Int.le_refl _, rfl, by omega, rfl⟩, Nat.le_refl _, List.take_length⟩
theorem Kept.same {N X : Nd} (hr : rightN N = true) (hx : rightN X = true) (h1 : X.id = N.id) (h2 : X.h = N.h) (h3 : N.commit ≤ X.commit) : Kept N X ∧ Holds N X := by
  have hcb := commit_bounds hr
  unfold lastJ at hcb
  refine ⟨⟨hx, h1, by rw [h2], by rw [h2], h3, by rw [h2], by rw [h2]; omega, by rw [h2]⟩, ?_, ?_⟩
  · rw [h2]; exact Nat.le_refl _
  · rw [h2]; exact List.take_length
theorem role_term {N : Nd} (hr : rightN N = true) (h : 0 < N.role) : 1 ≤ N.h.t := by
  have hp := right_parts hr
  have hn := right_n hr
  have h5 := hp.2.2.2.2.1
  simp only [Bool.not_eq_true', Bool.and_eq_false_iff, decide_eq_false_iff_not, beq_eq_false_iff_ne, ne_eq] at h5
  omega
/-- what leads may be -/
theorem lead_right {N : Nd} (hr : rightN N = true) (hrole : N.role = 1) : rightN (leadW N) = true ∧ (leadW N).id = N.id ∧ (leadW N).commit = N.commit ∧ (leadW N).role = 2 ∧ ((leadW N).h = N.h ∨ (leadW N).h = withH N.h ⟨N.h.t, 0, ⟨#[]⟩⟩) := by
  have hp := right_parts hr
  have hn := right_n hr
  have hcb := commit_bounds hr
  have ht := role_term hr (by omega)
  have hvo : rightL (votersN N) = true := of_right N.h.l.base N.h.l.rs hn.2.1
  have hid := hp.1
  simp only [inB, Bool.and_eq_true, decide_eq_true_eq] at hid
  have hB : ∀ h : Hd, rightH h = true → h.vs = N.h.vs → h.t = N.h.t → h.l.base = N.h.l.base → lastJ N.h.l ≤ lastJ h.l → rightN (hdN (leadB N) h) = true := by
    intro h hh hv hht hb hl
    refine right_of ⟨hp.1, hh, by show rightL h.vs = true; rw [hv]; exact hn.2.1, rfl, ?_, ?_, by rfl, ?_, rfl, ?_⟩
    · show (!(decide ((0 : Int) < 2) && h.t == 0)) = true
      rw [hht]
      simp; omega
    · show inB N.id 0 9 = true
      simp [inB]; omega
    · show inB N.commit h.l.base (lastJ h.l) = true
      rw [hb]
      simp [inB]; omega
    · show okPs N.id (lastJ h.l) none (peersF (votersN N) N.id (lastJ N.h.l + 1) []) = true
      exact okPs_peers hvo ⟨by omega, by omega⟩ rfl
  unfold leadW
  split
  · rename_i hw
    exact ⟨hB _ hw rfl rfl rfl (by rw [with_last]; omega), rfl, rfl, rfl, .inr rfl⟩
  · exact ⟨hB N.h hp.2.1 rfl rfl rfl (Int.le_refl _), rfl, rfl, rfl, .inl rfl⟩
theorem add_ok {N : Nd} {k : Int} {d : ByteArray} (h : addE N k d = 0) : rightN N = true ∧ N.role = 2 ∧ (k = 2 → confC N d = true) ∧ rightH (withH N.h ⟨N.h.t, k, d⟩) = true := by
  unfold addE at h
  split at h
  case isFalse => cases h
  rename_i h1
  split at h
  case isFalse => cases h
  rename_i h2
  split at h
  · cases h
  rename_i h3
  split at h
  case isFalse => cases h
  rename_i h4
  simp only [Bool.and_eq_true, beq_iff_eq, Bool.not_eq_true', not_and, Bool.not_eq_false] at h1 h2 h3
  exact ⟨h1.1, h2, h3, h4⟩
theorem conf_right {N : Nd} {d : ByteArray} (h : confC N d = true) : rightL ((parseQ d.data.toList).getD []) = true := by
  unfold confC at h
  split at h
  · cases h
  · rename_i l hl
    rw [hl]
    exact parse_right hl
end Go.Proofs.YtncdjmpdbinanaaGreatDoor
