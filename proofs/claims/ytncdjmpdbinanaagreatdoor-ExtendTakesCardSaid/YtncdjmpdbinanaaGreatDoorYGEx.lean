/-
  WHAT IS PROVED HERE: plain laws on what a node is that compacts, or that takes a snapshot. No program, no condition.
  WHAT IS PROVED HERE: plain laws on what a node is that takes a snapshot, and what it answers. No program, no condition.
  WHAT IS PROVED HERE: what a leader is, sends and adds, as data. No program, no condition.
  WHAT IS PROVED HERE: plain laws on what a leader is and sends. No program, no condition.
  WHAT IS PROVED HERE: plain laws on what a node is that takes a leader's records, and what it answers. No program, no condition.
-/
import Derived.Test.YtncdjmpdbinanaaGreatDoorYGKj2
import Derived.Test.YtncdjmpdbinanaaGreatDoorYGKep
import Derived.Test.YtncdjmpdbinanaaGreatDoorYGKs
import Derived.Test.YtncdjmpdbinanaaGreatDoorYGKj1
namespace Go.Proofs.YtncdjmpdbinanaaGreatDoor
open Go.RowKit

def zeroN : Nd := ⟨0, ⟨0, 0, ⟨0, 0, []⟩, ⟨#[]⟩, []⟩, 0, 0, 0, 0, [], []⟩
def toldC (N : Nd) (M : Ms) (k : Int) : Bool := rightN N && (mayM M && (M.kind == k && (M.to == N.id && decide (M.term ≤ N.h.t))))
def followN (N : Nd) (fr d : Int) : Nd := ⟨N.id, N.h, 0, fr, min (max d 0) 1048576, N.commit, [], []⟩
def fitM (id fr t : Int) (ok : Bool) (p : Int) : Ms := ⟨4, id, fr, t, ok, p, 0, [], 0, ⟨#[]⟩, []⟩
theorem commit_term {N : Nd} (hr : rightN N = true) : rightJ N.h.l = true ∧ N.h.l.base ≤ N.commit ∧ N.commit ≤ lastJ N.h.l ∧ ∃ t, termJ N.h.l N.commit = some t := by
  have h1 := right_parts hr
  have hj := (right_n hr).1
  have hc := h1.2.2.2.2.2.2.2.1
  simp only [inB, Bool.and_eq_true, decide_eq_true_eq] at hc
  refine ⟨hj, hc.1, hc.2, ?_⟩
  unfold lastJ at hc
  rcases Int.lt_or_le N.h.l.base N.commit with h | h
  · rw [termJ_at h, List.getElem?_eq_getElem (by omega)]
    exact ⟨_, rfl⟩
  · have e : N.commit = N.h.l.base := by omega
    rw [e, termJ_eq]
    exact ⟨_, rfl⟩
end Go.Proofs.YtncdjmpdbinanaaGreatDoor
namespace Go.Proofs.YtncdjmpdbinanaaGreatDoor
open Go.RowKit

theorem may_bounds {M : Ms} (h : mayM M = true) : (1 ≤ M.kind ∧ M.kind ≤ 5) ∧ (1 ≤ M.fr ∧ M.fr ≤ 9) ∧ (1 ≤ M.to ∧ M.to ≤ 9) ∧ ¬ M.fr = M.to ∧ (1 ≤ M.term ∧ M.term ≤ 1073741824) ∧ (0 ≤ M.index ∧ M.index ≤ 1073741824) ∧ (0 ≤ M.commit ∧ M.commit ≤ 1073741824) ∧ (0 ≤ M.lterm ∧ M.lterm ≤ M.term) := by
  unfold mayM inB at h
  simp only [Bool.and_eq_true, decide_eq_true_eq, Bool.not_eq_true', beq_eq_false_iff_ne, ne_eq] at h
  exact ⟨h.1, h.2.1, h.2.2.1, h.2.2.2.1, h.2.2.2.2.1, h.2.2.2.2.2.1, h.2.2.2.2.2.2.1, h.2.2.2.2.2.2.2.1⟩
theorem commit_bounds {N : Nd} (hr : rightN N = true) : 0 ≤ N.h.l.base ∧ N.h.l.base ≤ N.commit ∧ N.commit ≤ lastJ N.h.l ∧ lastJ N.h.l ≤ 1073741824 := by
  obtain ⟨hj, h1, h2, _⟩ := commit_term hr
  have h3 := right_iff.1 hj
  unfold lastJ at h2 ⊢
  exact ⟨h3.1, h1, h2, by omega⟩
end Go.Proofs.YtncdjmpdbinanaaGreatDoor
namespace Go.Proofs.YtncdjmpdbinanaaGreatDoor
open Go.RowKit

/-- the place that is sure -/
def sureP (N : Nd) : Int := refSureL N.id (lastJ N.h.l) N.ps (votersN N)
def sureC (N : Nd) : Bool := decide (N.commit < sureP N) && (termJ N.h.l (sureP N) == some N.h.t)
def sureN (N : Nd) : Nd := if sureC N then ⟨N.id, N.h, N.role, N.lead, N.timer, sureP N, N.got, N.ps⟩ else N
/-- what a leader sends to a peer -/
def sendM (N : Nd) (p : Pr) : Ms :=
  if p.nx ≤ N.h.l.base then ⟨5, N.id, p.id, N.h.t, false, N.h.l.base, N.h.l.bt, [], 0, N.h.s, N.h.vs⟩
  else ⟨3, N.id, p.id, N.h.t, false, p.nx - 1, (termJ N.h.l (p.nx - 1)).getD 0, behindJ N.h.l (p.nx - 1) 20, N.commit, ⟨#[]⟩, []⟩
def allM (N : Nd) : List Ms := N.ps.map (sendM N)
def findP (id : Int) : List Pr → Option Pr
  | [] => none
  | p :: ps => if p.id = id then some p else findP id ps
/-- the peers of voters but one -/
def peersF (vs : List Int) (self next : Int) (old : List Pr) : List Pr := (vs.filter (fun v => !(v == self))).map (fun v => (findP v old).getD ⟨v, next, 0⟩)
def withH (h : Hd) (r : Rec) : Hd := ⟨h.t, h.v, ⟨h.l.base, h.l.bt, h.l.rs ++ [r]⟩, h.s, h.vs⟩
def hdN (N : Nd) (h : Hd) : Nd := ⟨N.id, h, N.role, N.lead, N.timer, N.commit, N.got, N.ps⟩
def leadC (N : Nd) : Bool := rightN N && N.role == 1
def leadB (N : Nd) : Nd := ⟨N.id, N.h, 2, N.id, 2, N.commit, [], peersF (votersN N) N.id (lastJ N.h.l + 1) []⟩
def leadW (N : Nd) : Nd := if rightH (withH N.h ⟨N.h.t, 0, ⟨#[]⟩⟩) then hdN (leadB N) (withH N.h ⟨N.h.t, 0, ⟨#[]⟩⟩) else leadB N
def leadN (N : Nd) : Nd := if leadC N then sureN (leadW N) else N
def leadL (N : Nd) : List Ms := if leadC N then allM (sureN (leadW N)) else []
/-- does a record stand against what is sure? -/
def badR (N : Nd) (idx : Int) : List Rec → Bool
  | [] => false
  | r :: rs => if decide (N.h.l.base < idx + 1) && (decide (idx + 1 ≤ N.commit) && !(termJ N.h.l (idx + 1) == some r.t)) then true else badR N (idx + 1) rs
def takeC (N : Nd) (M : Ms) : Bool := toldC N M 3 && (decide (N.h.t ≤ M.term) && !(N.role == 2))
def takeMg (N : Nd) (M : Ms) : Mg := mergeJ N.h.l M.index M.lterm M.rs
def logH (h : Hd) (l : Lg) : Hd := ⟨h.t, h.v, l, h.s, h.vs⟩
def takeOk (N : Nd) (M : Ms) : Bool := (takeMg N M).e == 0 && rightH (logH N.h (takeMg N M).l)
def takeN (N : Nd) (M : Ms) (d : Int) : Nd :=
  if takeC N M then (if badR N M.index M.rs then followN N M.fr d else (if takeOk N M && (takeMg N M).f then ⟨N.id, logH N.h (takeMg N M).l, 0, M.fr, min (max d 0) 1048576, max N.commit (min M.commit (takeMg N M).n), [], []⟩ else followN N M.fr d)) else N
def takeL (N : Nd) (M : Ms) : List Ms :=
  if toldC N M 3 then (if decide (M.term < N.h.t) then [fitM N.id M.fr N.h.t false (lastJ N.h.l)] else (if N.role == 2 then [] else (if badR N M.index M.rs then [fitM N.id M.fr N.h.t false N.commit] else
    (if takeOk N M then [fitM N.id M.fr N.h.t (takeMg N M).f (takeMg N M).n] else [fitM N.id M.fr N.h.t false (lastJ N.h.l)])))) else []
end Go.Proofs.YtncdjmpdbinanaaGreatDoor
namespace Go.Proofs.YtncdjmpdbinanaaGreatDoor
open Go.RowKit

theorem okPs_iff {nid last : Int} : ∀ {ps : List Pr} {prev : Option Int}, okPs nid last prev ps = true ↔
    ((∀ p ∈ ps, (1 ≤ p.id ∧ p.id ≤ 9) ∧ ¬ p.id = nid ∧ (1 ≤ p.nx ∧ p.nx ≤ last + 1) ∧ (0 ≤ p.mt ∧ p.mt ≤ p.nx - 1)) ∧ ps.Pairwise (fun p q => p.id < q.id) ∧ ∀ u, prev = some u → ∀ p ∈ ps, u < p.id)
  | [], prev => by simp [okPs]
  | p :: ps, prev => by
    have ih := okPs_iff (nid := nid) (last := last) (ps := ps) (prev := some p.id)
    rw [okPs]
    constructor
    · intro h
      split at h
      case isFalse => cases h
      rename_i hp
      obtain ⟨i1, i2, i3⟩ := ih.1 h
      unfold okP inB at hp
      simp only [Bool.and_eq_true, decide_eq_true_eq, Bool.not_eq_true', beq_eq_false_iff_ne, ne_eq] at hp
      obtain ⟨⟨⟨⟨h1, h2⟩, h3⟩, h4⟩, h5⟩ := hp
      refine ⟨?_, List.Pairwise.cons (fun q hq => i3 _ rfl q hq) i2, ?_⟩
      · intro q hq
        rcases List.mem_cons.1 hq with rfl | hq
        · exact ⟨h1, h2, h4, h5⟩
        · exact i1 q hq
      · intro u hu q hq
        subst hu
        have h3' : u < p.id := by simpa using h3
        rcases List.mem_cons.1 hq with rfl | hq
        · exact h3'
        · have := i3 _ rfl q hq
          omega
    · rintro ⟨a1, a2, a3⟩
      have hp := a1 p (.head _)
      rw [if_pos]
      · exact ih.2 ⟨fun q hq => a1 q (.tail _ hq), (List.pairwise_cons.1 a2).2, fun u hu q hq => by injection hu with hu; subst hu; exact (List.pairwise_cons.1 a2).1 q hq⟩
      · unfold okP inB
        simp only [Bool.and_eq_true, decide_eq_true_eq, Bool.not_eq_true', beq_eq_false_iff_ne, ne_eq]
        refine ⟨⟨⟨⟨hp.1, hp.2.1⟩, ?_⟩, hp.2.2.1⟩, hp.2.2.2⟩
        cases prev with
        | none => rfl
        | some u => simpa using a3 u rfl p (.head _)
theorem findP_mem {id : Int} : ∀ {ps : List Pr} {p : Pr}, findP id ps = some p → p ∈ ps ∧ p.id = id
  | [], _, h => by cases h
  | q :: ps, p, h => by
    rw [findP] at h
    split at h
    · rename_i hq
      injection h with h
      subst h
      exact ⟨.head _, hq⟩
    · obtain ⟨h1, h2⟩ := findP_mem h
      exact ⟨.tail _ h1, h2⟩
theorem okPs_peers {self last : Int} {vs : List Int} {old : List Pr} (hv : rightL vs = true) {next : Int} (hn : 1 ≤ next ∧ next ≤ last + 1) (ho : okPs self last none old = true) : okPs self last none (peersF vs self next old) = true := by
  have hp := (asc_none (l := vs) (by unfold rightL at hv; simp only [Bool.and_eq_true] at hv; exact hv.1)).1
  have hd := right_digits hv
  obtain ⟨a1, _, _⟩ := okPs_iff.1 ho
  have hid : ∀ v, ((findP v old).getD ⟨v, next, 0⟩).id = v := by
    intro v
    cases hf : findP v old with
    | none => rfl
    | some p => exact (findP_mem hf).2
  refine okPs_iff.2 ⟨?_, ?_, fun u hu => by cases hu⟩
  · intro p hp
    unfold peersF at hp
    obtain ⟨v, hv2, rfl⟩ := List.mem_map.1 hp
    rw [List.mem_filter] at hv2
    have hne : ¬ v = self := by simpa using hv2.2
    have hdv := hd v hv2.1
    rw [hid]
    refine ⟨by omega, hne, ?_⟩
    cases hf : findP v old with
    | none => exact ⟨by show 1 ≤ next ∧ next ≤ last + 1; exact hn, by show (0 : Int) ≤ 0 ∧ 0 ≤ next - 1; omega⟩
    | some p => exact (a1 p (findP_mem hf).1).2.2
  · unfold peersF
    rw [List.pairwise_map]
    refine (hp.filter _).imp ?_
    intro a b hab
    rw [hid, hid]
    exact hab
theorem sure_range {N : Nd} (h : sureC N = true) : N.commit < sureP N ∧ termJ N.h.l (sureP N) = some N.h.t ∧ sureP N ≤ lastJ N.h.l := by
  unfold sureC at h
  simp only [Bool.and_eq_true, decide_eq_true_eq, beq_iff_eq] at h
  exact ⟨h.1, h.2, (termJ_range h.2).2⟩
theorem sure_right {N : Nd} (hr : rightN N = true) : rightN (sureN N) = true := by
  unfold sureN
  split
  case isFalse => exact hr
  rename_i hc
  obtain ⟨h1, _, h3⟩ := sure_range hc
  have hp := right_parts hr
  have hcb := commit_bounds hr
  refine right_of ⟨hp.1, hp.2.1, hp.2.2.1, hp.2.2.2.1, hp.2.2.2.2.1, hp.2.2.2.2.2.1, hp.2.2.2.2.2.2.1, ?_, hp.2.2.2.2.2.2.2.2⟩
  simp only [inB, Bool.and_eq_true, decide_eq_true_eq]
  omega
theorem sure_same (N : Nd) : (sureN N).id = N.id ∧ (sureN N).h = N.h ∧ (sureN N).role = N.role ∧ (sureN N).lead = N.lead ∧ (sureN N).timer = N.timer ∧ (sureN N).got = N.got ∧ (sureN N).ps = N.ps ∧ N.commit ≤ (sureN N).commit := by
  unfold sureN
  split
  · rename_i hc
    exact ⟨rfl, rfl, rfl, rfl, rfl, rfl, rfl, by show N.commit ≤ sureP N; have := (sure_range hc).1; omega⟩
  · exact ⟨rfl, rfl, rfl, rfl, rfl, rfl, rfl, Int.le_refl _⟩
theorem with_last (h : Hd) (r : Rec) : lastJ (withH h r).l = lastJ h.l + 1 := by
  unfold lastJ withH
  simp
  omega
/-- what a node that does anything keeps -/
structure Kept (N X : Nd) : Prop where
  right : rightN X = true
  id : X.id = N.id
  term : X.h.t = N.h.t
  vote : X.h.v = N.h.v
  com : N.commit ≤ X.commit
  base : X.h.l.base = N.h.l.base
  len : (N.commit - N.h.l.base).toNat ≤ X.h.l.rs.length
  recs : X.h.l.rs.take (N.commit - N.h.l.base).toNat = N.h.l.rs.take (N.commit - N.h.l.base).toNat
/-- all records stay -/
def Holds (N X : Nd) : Prop := N.h.l.rs.length ≤ X.h.l.rs.length ∧ X.h.l.rs.take N.h.l.rs.length = N.h.l.rs
theorem Kept.self {N : Nd} (hr : rightN N = true) : Kept N N ∧ Holds N N := by
  have hcb := commit_bounds hr
  unfold lastJ at hcb
  exact ⟨⟨hr, rfl, rfl, rfl, Int.le_refl _, rfl, by omega, rfl⟩, Nat.le_refl _, List.take_length⟩
theorem Kept.same {N X : Nd} (hr : rightN N = true) (hx : rightN X = true) (h1 : X.id = N.id) (h2 : X.h = N.h) (h3 : N.commit ≤ X.commit) : Kept N X ∧ Holds N X := by
  have hcb := commit_bounds hr
  unfold lastJ at hcb
  refine ⟨⟨hx, h1, by rw [h2], by rw [h2], h3, by rw [h2], by rw [h2]; omega, by rw [h2]⟩, ?_, ?_⟩
  · rw [h2]; exact Nat.le_refl _
  · rw [h2]; exact List.take_length
theorem role_term {N : Nd} (hr : rightN N = true) (h : 0 < N.role) : 1 ≤ N.h.t := by
  have hp := right_parts hr
  have hn := right_n hr
  have h5 := hp.2.2.2.2.1
  simp only [Bool.not_eq_true', Bool.and_eq_false_iff, decide_eq_false_iff_not, beq_eq_false_iff_ne, ne_eq] at h5
  omega
/-- what leads may be -/
theorem lead_right {N : Nd} (hr : rightN N = true) (hrole : N.role = 1) : rightN (leadW N) = true ∧ (leadW N).id = N.id ∧ (leadW N).commit = N.commit ∧ (leadW N).role = 2 ∧ ((leadW N).h = N.h ∨ (leadW N).h = withH N.h ⟨N.h.t, 0, ⟨#[]⟩⟩) := by
  have hp := right_parts hr
  have hn := right_n hr
  have hcb := commit_bounds hr
  have ht := role_term hr (by omega)
  have hvo : rightL (votersN N) = true := of_right N.h.l.base N.h.l.rs hn.2.1
  have hid := hp.1
  simp only [inB, Bool.and_eq_true, decide_eq_true_eq] at hid
  have hB : ∀ h : Hd, rightH h = true → h.vs = N.h.vs → h.t = N.h.t → h.l.base = N.h.l.base → lastJ N.h.l ≤ lastJ h.l → rightN (hdN (leadB N) h) = true := by
    intro h hh hv hht hb hl
    refine right_of ⟨hp.1, hh, by show rightL h.vs = true; rw [hv]; exact hn.2.1, rfl, ?_, ?_, by rfl, ?_, rfl, ?_⟩
    · show (!(decide ((0 : Int) < 2) && h.t == 0)) = true
      rw [hht]
      simp; omega
    · show inB N.id 0 9 = true
      simp [inB]; omega
    · show inB N.commit h.l.base (lastJ h.l) = true
      rw [hb]
      simp [inB]; omega
    · show okPs N.id (lastJ h.l) none (peersF (votersN N) N.id (lastJ N.h.l + 1) []) = true
      exact okPs_peers hvo ⟨by omega, by omega⟩ rfl
  unfold leadW
  split
  · rename_i hw
    exact ⟨hB _ hw rfl rfl rfl (by rw [with_last]; omega), rfl, rfl, rfl, .inr rfl⟩
  · exact ⟨hB N.h hp.2.1 rfl rfl rfl (Int.le_refl _), rfl, rfl, rfl, .inl rfl⟩
end Go.Proofs.YtncdjmpdbinanaaGreatDoor
namespace Go.Proofs.YtncdjmpdbinanaaGreatDoor
open Go.RowKit

theorem take_not {N : Nd} {M : Ms} {d : Int} (h : toldC N M 3 = false) : takeN N M d = N ∧ takeL N M = [] := by
  unfold takeN takeL takeC
  rw [h]
  simp
def takeF (N : Nd) (M : Ms) (d : Int) : Nd := ⟨N.id, logH N.h (takeMg N M).l, 0, M.fr, min (max d 0) 1048576, max N.commit (min M.commit (takeMg N M).n), [], []⟩
theorem take_say {N : Nd} {M : Ms} {d : Int} (h : toldC N M 3 = true) :
    (M.term < N.h.t → takeN N M d = N ∧ takeL N M = [fitM N.id M.fr N.h.t false (lastJ N.h.l)]) ∧
    (N.h.t ≤ M.term → N.role = 2 → takeN N M d = N ∧ takeL N M = []) ∧
    (N.h.t ≤ M.term → ¬ N.role = 2 → badR N M.index M.rs = true → takeN N M d = followN N M.fr d ∧ takeL N M = [fitM N.id M.fr N.h.t false N.commit]) ∧
    (N.h.t ≤ M.term → ¬ N.role = 2 → badR N M.index M.rs = false → takeOk N M = false → takeN N M d = followN N M.fr d ∧ takeL N M = [fitM N.id M.fr N.h.t false (lastJ N.h.l)]) ∧
    (N.h.t ≤ M.term → ¬ N.role = 2 → badR N M.index M.rs = false → takeOk N M = true → (takeMg N M).f = false → takeN N M d = followN N M.fr d ∧ takeL N M = [fitM N.id M.fr N.h.t false (takeMg N M).n]) ∧
    (N.h.t ≤ M.term → ¬ N.role = 2 → badR N M.index M.rs = false → takeOk N M = true → (takeMg N M).f = true → takeN N M d = takeF N M d ∧ takeL N M = [fitM N.id M.fr N.h.t true (takeMg N M).n]) := by
  refine ⟨fun h1 => ?_, fun h1 h2 => ?_, fun h1 h2 h3 => ?_, fun h1 h2 h3 h4 => ?_, fun h1 h2 h3 h4 h5 => ?_, fun h1 h2 h3 h4 h5 => ?_⟩ <;> unfold takeN takeL takeC <;> rw [h]
  · simp [h1, show ¬ N.h.t ≤ M.term by omega]
  · simp [h1, h2, show ¬ M.term < N.h.t by omega]
  · simp [h1, h2, h3, show ¬ M.term < N.h.t by omega]
  · simp [h1, h2, h3, h4, show ¬ M.term < N.h.t by omega]
  · simp [h1, h2, h3, h4, h5, show ¬ M.term < N.h.t by omega]
  · simp [h1, h2, h3, h4, h5, show ¬ M.term < N.h.t by omega, takeF]
/-- the program's test at one record -/
def badC (N : Nd) (p : Int) (r : Rec) : Bool := (termAtJ N.h.l p).isSome && (decide (N.h.l.base < p) && (decide (p ≤ N.commit) && !((termAtJ N.h.l p).getD 0 == r.t)))
/-- the reference's test at one record -/
def badD (N : Nd) (p : Int) (r : Rec) : Bool := decide (N.h.l.base < p) && (decide (p ≤ N.commit) && !((termJ N.h.l p).getD (-1) == r.t))
theorem bad_some {N : Nd} {p : Int} (hr : rightN N = true) (h1 : N.h.l.base < p) (h2 : p ≤ N.commit) : ∃ t, termJ N.h.l p = some t := by
  have hc := commit_term hr
  have h3 : p ≤ lastJ N.h.l := by omega
  unfold lastJ at h3
  rw [termJ_at h1, List.getElem?_eq_getElem (by omega)]
  exact ⟨_, rfl⟩
theorem bad_step {N : Nd} (hr : rightN N = true) (p : Int) (r : Rec) (rs : List Rec) : badR N p (r :: rs) = if badC N (p + 1) r then true else badR N (p + 1) rs := by
  have hj := (commit_term hr).1
  unfold badC termAtJ
  rw [badR, if_pos hj]
  by_cases h1 : N.h.l.base < p + 1
  case neg => simp [h1]
  by_cases h2 : p + 1 ≤ N.commit
  case neg => simp [h2]
  obtain ⟨t, ht⟩ := bad_some hr h1 h2
  rw [ht]
  simp [h1, h2]
theorem bad_stepD {N : Nd} (hr : rightN N = true) (p : Int) (r : Rec) (rs : List Rec) : badR N p (r :: rs) = if badD N (p + 1) r then true else badR N (p + 1) rs := by
  unfold badD
  rw [badR]
  by_cases h1 : N.h.l.base < p + 1
  case neg => simp [h1]
  by_cases h2 : p + 1 ≤ N.commit
  case neg => simp [h2]
  obtain ⟨t, ht⟩ := bad_some hr h1 h2
  rw [ht]
  simp [h1, h2]
theorem mg_len (l : Lg) (p t : Int) (more : List Rec) : (mergeJ l p t more).l.rs.length ≤ l.rs.length + 200 := by
  unfold mergeJ
  split
  · split
    · simp
    · split
      · simp
      · dsimp only
        split
        · simp [zeroL]
        · split
          · dsimp only
            omega
          · simp [zeroL]
  · simp [zeroL]
end Go.Proofs.YtncdjmpdbinanaaGreatDoor
