/-
  WHAT IS PROVED HERE: plain laws on what a node is that compacts, or that takes a snapshot. No program, no condition.
  WHAT IS PROVED HERE: plain laws on what a node is that takes a snapshot, and what it answers. No program, no condition.
  WHAT IS PROVED HERE: what a leader is, sends and adds, as data. No program, no condition.
  WHAT IS PROVED HERE: plain laws on what a leader is and sends. No program, no condition.
  WHAT IS PROVED HERE: plain laws on what a node is that takes a leader's records, and what it answers. No program, no condition.
-/
import Derived.Test.YtncdjmpdbinanaaGreatDoorZGKj2
import Derived.Test.YtncdjmpdbinanaaGreatDoorZGKep
import Derived.Test.YtncdjmpdbinanaaGreatDoorZGKs
import Derived.Test.YtncdjmpdbinanaaGreatDoorZGKj1
namespace Go.Proofs.YtncdjmpdbinanaaGreatDoor
open Go.RowKit

def zeroN : Nd := ⟨0, ⟨0, 0, ⟨0, 0, []⟩, ⟨#[]⟩, []⟩, 0, 0, 0, 0, [], []⟩
def toldC (N : Nd) (M : Ms) (k : Int) : Bool := rightN N && (mayM M && (M.kind == k && (M.to == N.id && decide (M.term ≤ N.h.t))))
def followN (N : Nd) (fr d : Int) : Nd := ⟨N.id, N.h, 0, fr, min (max d 0) 1048576, N.commit, [], []⟩
def instH (N : Nd) (M : Ms) : Hd := ⟨N.h.t, N.h.v, adoptJ N.h.l M.index M.lterm, M.s, M.vs⟩
def fitM (id fr t : Int) (ok : Bool) (p : Int) : Ms := ⟨4, id, fr, t, ok, p, 0, [], 0, ⟨#[]⟩, []⟩
def instN (N : Nd) (M : Ms) (d : Int) : Nd :=
  if toldC N M 5 && (decide (N.h.t ≤ M.term) && !(N.role == 2)) then (if decide (N.commit < M.index) && rightH (instH N M) then ⟨N.id, instH N M, 0, M.fr, min (max d 0) 1048576, M.index, [], []⟩ else followN N M.fr d) else N
def instL (N : Nd) (M : Ms) : List Ms :=
  if toldC N M 5 then (if decide (M.term < N.h.t) then [fitM N.id M.fr N.h.t false (lastJ N.h.l)] else (if N.role == 2 then [] else (if decide (N.commit < M.index) then (if rightH (instH N M) then [fitM N.id M.fr N.h.t true M.index] else [fitM N.id M.fr N.h.t false (lastJ N.h.l)]) else [fitM N.id M.fr N.h.t true N.commit]))) else []

theorem commit_term {N : Nd} (hr : rightN N = true) : rightJ N.h.l = true ∧ N.h.l.base ≤ N.commit ∧ N.commit ≤ lastJ N.h.l ∧ ∃ t, termJ N.h.l N.commit = some t := by
  have h1 := right_parts hr
  have hj := (right_n hr).1
  have hc := h1.2.2.2.2.2.2.2.1
  simp only [inB, Bool.and_eq_true, decide_eq_true_eq] at hc
  refine ⟨hj, hc.1, hc.2, ?_⟩
  unfold lastJ at hc
  rcases Int.lt_or_le N.h.l.base N.commit with h | h
  · rw [termJ_at h, List.getElem?_eq_getElem (by omega)]
    exact ⟨_, rfl⟩
  · have e : N.commit = N.h.l.base := by omega
    rw [e, termJ_eq]
    exact ⟨_, rfl⟩
end Go.Proofs.YtncdjmpdbinanaaGreatDoor
namespace Go.Proofs.YtncdjmpdbinanaaGreatDoor
open Go.RowKit

theorem told_parts {N : Nd} {M : Ms} {k : Int} (h : toldC N M k = true) : rightN N = true ∧ mayM M = true ∧ M.kind = k ∧ M.to = N.id ∧ M.term ≤ N.h.t := by
  unfold toldC at h
  simp only [Bool.and_eq_true, decide_eq_true_eq, beq_iff_eq] at h
  exact h
theorem may_bounds {M : Ms} (h : mayM M = true) : (1 ≤ M.kind ∧ M.kind ≤ 5) ∧ (1 ≤ M.fr ∧ M.fr ≤ 9) ∧ (1 ≤ M.to ∧ M.to ≤ 9) ∧ ¬ M.fr = M.to ∧ (1 ≤ M.term ∧ M.term ≤ 1073741824) ∧ (0 ≤ M.index ∧ M.index ≤ 1073741824) ∧ (0 ≤ M.commit ∧ M.commit ≤ 1073741824) ∧ (0 ≤ M.lterm ∧ M.lterm ≤ M.term) := by
  unfold mayM inB at h
  simp only [Bool.and_eq_true, decide_eq_true_eq, Bool.not_eq_true', beq_eq_false_iff_ne, ne_eq] at h
  exact ⟨h.1, h.2.1, h.2.2.1, h.2.2.2.1, h.2.2.2.2.1, h.2.2.2.2.2.1, h.2.2.2.2.2.2.1, h.2.2.2.2.2.2.2.1⟩
theorem commit_bounds {N : Nd} (hr : rightN N = true) : 0 ≤ N.h.l.base ∧ N.h.l.base ≤ N.commit ∧ N.commit ≤ lastJ N.h.l ∧ lastJ N.h.l ≤ 1073741824 := by
  obtain ⟨hj, h1, h2, _⟩ := commit_term hr
  have h3 := right_iff.1 hj
  unfold lastJ at h2 ⊢
  exact ⟨h3.1, h1, h2, by omega⟩
theorem follow_right {N : Nd} (hr : rightN N = true) {fr : Int} (d : Int) (hf : 1 ≤ fr ∧ fr ≤ 9) : rightN (followN N fr d) = true := by
  have hp := right_parts hr
  refine right_of ⟨hp.1, hp.2.1, hp.2.2.1, rfl, by simp [followN], ?_, ?_, hp.2.2.2.2.2.2.2.1, rfl, rfl⟩
  · show inB fr 0 9 = true
    simp only [inB, Bool.and_eq_true, decide_eq_true_eq]; omega
  · show inB (min (max d 0) 1048576) 0 1048576 = true
    simp only [inB, Bool.and_eq_true, decide_eq_true_eq]; omega
theorem fit_may {id fr t p : Int} (ok : Bool) (h1 : 1 ≤ id ∧ id ≤ 9) (h2 : 1 ≤ fr ∧ fr ≤ 9) (h3 : ¬ id = fr) (h4 : 1 ≤ t ∧ t ≤ 1073741824) (h5 : 0 ≤ p ∧ p ≤ 1073741824) : mayM (fitM id fr t ok p) = true := by
  unfold mayM fitM formM bodyM inB
  simp only [Bool.and_eq_true, decide_eq_true_eq, Bool.not_eq_true', beq_eq_false_iff_ne, ne_eq]
  refine ⟨⟨by omega, by omega⟩, ⟨by omega, by omega⟩, ⟨by omega, by omega⟩, by omega, ⟨by omega, by omega⟩, ⟨by omega, by omega⟩, ⟨by omega, by omega⟩, ⟨by omega, by omega⟩, ?_, ?_⟩
  · simp [ByteArray.size]
  · simp
end Go.Proofs.YtncdjmpdbinanaaGreatDoor
namespace Go.Proofs.YtncdjmpdbinanaaGreatDoor
open Go.RowKit

/-- the place that is sure -/
def sureP (N : Nd) : Int := refSureL N.id (lastJ N.h.l) N.ps (votersN N)
def sureC (N : Nd) : Bool := decide (N.commit < sureP N) && (termJ N.h.l (sureP N) == some N.h.t)
def sureN (N : Nd) : Nd := if sureC N then ⟨N.id, N.h, N.role, N.lead, N.timer, sureP N, N.got, N.ps⟩ else N
/-- what a leader sends to a peer -/
def sendM (N : Nd) (p : Pr) : Ms :=
  if p.nx ≤ N.h.l.base then ⟨5, N.id, p.id, N.h.t, false, N.h.l.base, N.h.l.bt, [], 0, N.h.s, N.h.vs⟩
  else ⟨3, N.id, p.id, N.h.t, false, p.nx - 1, (termJ N.h.l (p.nx - 1)).getD 0, behindJ N.h.l (p.nx - 1) 20, N.commit, ⟨#[]⟩, []⟩
def allM (N : Nd) : List Ms := N.ps.map (sendM N)
/-- the place of a peer in a row -/
def idxP (id : Int) : Nat → List Pr → Int
  | _, [] => -1
  | k, p :: ps => if p.id = id then (k : Int) else idxP id (k + 1) ps
def findP (id : Int) : List Pr → Option Pr
  | [] => none
  | p :: ps => if p.id = id then some p else findP id ps
def sendL (N : Nd) (q : Int) : List Ms := if rightN N && N.role == 2 then (match findP q N.ps with | some p => [sendM N p] | none => []) else []
/-- the peers of voters but one -/
def peersF (vs : List Int) (self next : Int) (old : List Pr) : List Pr := (vs.filter (fun v => !(v == self))).map (fun v => (findP v old).getD ⟨v, next, 0⟩)
def withH (h : Hd) (r : Rec) : Hd := ⟨h.t, h.v, ⟨h.l.base, h.l.bt, h.l.rs ++ [r]⟩, h.s, h.vs⟩
def hdN (N : Nd) (h : Hd) : Nd := ⟨N.id, h, N.role, N.lead, N.timer, N.commit, N.got, N.ps⟩
def leadC (N : Nd) : Bool := rightN N && N.role == 1
def leadB (N : Nd) : Nd := ⟨N.id, N.h, 2, N.id, 2, N.commit, [], peersF (votersN N) N.id (lastJ N.h.l + 1) []⟩
def leadW (N : Nd) : Nd := if rightH (withH N.h ⟨N.h.t, 0, ⟨#[]⟩⟩) then hdN (leadB N) (withH N.h ⟨N.h.t, 0, ⟨#[]⟩⟩) else leadB N
def leadN (N : Nd) : Nd := if leadC N then sureN (leadW N) else N
def leadL (N : Nd) : List Ms := if leadC N then allM (sureN (leadW N)) else []
/-- an answer that a leader takes -/
def fitC (N : Nd) (M : Ms) : Bool := toldC N M 4 && (decide (N.h.t ≤ M.term) && (N.role == 2 && (!(M.ok && decide (lastJ N.h.l < M.index)) && (findP M.fr N.ps).isSome)))
def fitP (_N : Nd) (M : Ms) (p : Pr) : Pr := if M.ok then ⟨p.id, max p.mt M.index + 1, max p.mt M.index⟩ else ⟨p.id, max (min (p.nx - 1) (M.index + 1)) (p.mt + 1), p.mt⟩
def setP (id : Int) (q : Pr) : List Pr → List Pr
  | [] => []
  | p :: ps => if p.id = id then q :: ps else p :: setP id q ps
def psN (N : Nd) (ps : List Pr) : Nd := ⟨N.id, N.h, N.role, N.lead, N.timer, N.commit, N.got, ps⟩
def fitN (N : Nd) (M : Ms) : Nd :=
  if fitC N M then (match findP M.fr N.ps with
    | none => N
    | some p => if M.ok then sureN (psN N (setP M.fr (fitP N M p) N.ps)) else psN N (setP M.fr (fitP N M p) N.ps)) else N
def fitL (N : Nd) (M : Ms) : List Ms :=
  if fitC N M then (match findP M.fr N.ps with
    | none => []
    | some p => if M.ok && decide (lastJ N.h.l < (fitP N M p).nx) then [] else [sendM (fitN N M) (fitP N M p)]) else []
/-- does a record stand against what is sure? -/
def badR (N : Nd) (idx : Int) : List Rec → Bool
  | [] => false
  | r :: rs => if decide (N.h.l.base < idx + 1) && (decide (idx + 1 ≤ N.commit) && !(termJ N.h.l (idx + 1) == some r.t)) then true else badR N (idx + 1) rs
def takeC (N : Nd) (M : Ms) : Bool := toldC N M 3 && (decide (N.h.t ≤ M.term) && !(N.role == 2))
def takeMg (N : Nd) (M : Ms) : Mg := mergeJ N.h.l M.index M.lterm M.rs
def logH (h : Hd) (l : Lg) : Hd := ⟨h.t, h.v, l, h.s, h.vs⟩
def takeOk (N : Nd) (M : Ms) : Bool := (takeMg N M).e == 0 && rightH (logH N.h (takeMg N M).l)
def takeN (N : Nd) (M : Ms) (d : Int) : Nd :=
  if takeC N M then (if badR N M.index M.rs then followN N M.fr d else (if takeOk N M && (takeMg N M).f then ⟨N.id, logH N.h (takeMg N M).l, 0, M.fr, min (max d 0) 1048576, max N.commit (min M.commit (takeMg N M).n), [], []⟩ else followN N M.fr d)) else N
def takeL (N : Nd) (M : Ms) : List Ms :=
  if toldC N M 3 then (if decide (M.term < N.h.t) then [fitM N.id M.fr N.h.t false (lastJ N.h.l)] else (if N.role == 2 then [] else (if badR N M.index M.rs then [fitM N.id M.fr N.h.t false N.commit] else
    (if takeOk N M then [fitM N.id M.fr N.h.t (takeMg N M).f (takeMg N M).n] else [fitM N.id M.fr N.h.t false (lastJ N.h.l)])))) else []
/-- a record that a leader is given -/
def saidN (N : Nd) : Int := (ofF N.h.l.base 0 (N.h.vs, N.h.l.base) N.h.l.rs).2
def confC (N : Nd) (d : ByteArray) : Bool :=
  match parseQ d.data.toList with
  | none => false
  | some l => nextL (votersN N) l && (inL N.id l && (decide (saidN N ≤ N.commit) && (termJ N.h.l N.commit == some N.h.t)))
def addE (N : Nd) (k : Int) (d : ByteArray) : Int :=
  if rightN N && (decide (0 ≤ k) && (decide (k ≤ 2) && decide (d.size ≤ 8192))) then (if N.role == 2 then (if k == 2 && !(confC N d) then 160 else (if rightH (withH N.h ⟨N.h.t, k, d⟩) then 0 else 130)) else 171) else 1
def addB (N : Nd) (k : Int) (d : ByteArray) : Nd :=
  if k == 2 then psN (hdN N (withH N.h ⟨N.h.t, k, d⟩)) (peersF ((parseQ d.data.toList).getD []) N.id (lastJ N.h.l + 1) N.ps) else hdN N (withH N.h ⟨N.h.t, k, d⟩)
def addN (N : Nd) (k : Int) (d : ByteArray) : Nd := if addE N k d = 0 then sureN (addB N k d) else zeroN
def addL (N : Nd) (k : Int) (d : ByteArray) : List Ms := if addE N k d = 0 then allM (sureN (addB N k d)) else []
def addAt (N : Nd) (k : Int) (d : ByteArray) : Int := if addE N k d = 0 then lastJ N.h.l + 1 else 0
end Go.Proofs.YtncdjmpdbinanaaGreatDoor
namespace Go.Proofs.YtncdjmpdbinanaaGreatDoor
open Go.RowKit

theorem okPs_iff {nid last : Int} : ∀ {ps : List Pr} {prev : Option Int}, okPs nid last prev ps = true ↔
    ((∀ p ∈ ps, (1 ≤ p.id ∧ p.id ≤ 9) ∧ ¬ p.id = nid ∧ (1 ≤ p.nx ∧ p.nx ≤ last + 1) ∧ (0 ≤ p.mt ∧ p.mt ≤ p.nx - 1)) ∧ ps.Pairwise (fun p q => p.id < q.id) ∧ ∀ u, prev = some u → ∀ p ∈ ps, u < p.id)
  | [], prev => by simp [okPs]
  | p :: ps, prev => by
    have ih := okPs_iff (nid := nid) (last := last) (ps := ps) (prev := some p.id)
    rw [okPs]
    constructor
    · intro h
      split at h
      case isFalse => cases h
      rename_i hp
      obtain ⟨i1, i2, i3⟩ := ih.1 h
      unfold okP inB at hp
      simp only [Bool.and_eq_true, decide_eq_true_eq, Bool.not_eq_true', beq_eq_false_iff_ne, ne_eq] at hp
      obtain ⟨⟨⟨⟨h1, h2⟩, h3⟩, h4⟩, h5⟩ := hp
      refine ⟨?_, List.Pairwise.cons (fun q hq => i3 _ rfl q hq) i2, ?_⟩
      · intro q hq
        rcases List.mem_cons.1 hq with rfl | hq
        · exact ⟨h1, h2, h4, h5⟩
        · exact i1 q hq
      · intro u hu q hq
        subst hu
        have h3' : u < p.id := by simpa using h3
        rcases List.mem_cons.1 hq with rfl | hq
        · exact h3'
        · have := i3 _ rfl q hq
          omega
    · rintro ⟨a1, a2, a3⟩
      have hp := a1 p (.head _)
      rw [if_pos]
      · exact ih.2 ⟨fun q hq => a1 q (.tail _ hq), (List.pairwise_cons.1 a2).2, fun u hu q hq => by injection hu with hu; subst hu; exact (List.pairwise_cons.1 a2).1 q hq⟩
      · unfold okP inB
        simp only [Bool.and_eq_true, decide_eq_true_eq, Bool.not_eq_true', beq_eq_false_iff_ne, ne_eq]
        refine ⟨⟨⟨⟨hp.1, hp.2.1⟩, ?_⟩, hp.2.2.1⟩, hp.2.2.2⟩
        cases prev with
        | none => rfl
        | some u => simpa using a3 u rfl p (.head _)
theorem findP_mem {id : Int} : ∀ {ps : List Pr} {p : Pr}, findP id ps = some p → p ∈ ps ∧ p.id = id
  | [], _, h => by cases h
  | q :: ps, p, h => by
    rw [findP] at h
    split at h
    · rename_i hq
      injection h with h
      subst h
      exact ⟨.head _, hq⟩
    · obtain ⟨h1, h2⟩ := findP_mem h
      exact ⟨.tail _ h1, h2⟩
theorem setP_ids {id : Int} {q : Pr} (hq : q.id = id) : ∀ (ps : List Pr), (setP id q ps).map Pr.id = ps.map Pr.id
  | [] => rfl
  | p :: ps => by
    rw [setP]
    split
    · rename_i h
      rw [List.map_cons, List.map_cons, hq, h]
    · rw [List.map_cons, List.map_cons, setP_ids hq ps]
theorem setP_mem {id : Int} {q : Pr} : ∀ {ps : List Pr} {x : Pr}, x ∈ setP id q ps → x = q ∨ x ∈ ps
  | [], x, h => by cases h
  | p :: ps, x, h => by
    rw [setP] at h
    split at h
    · rcases List.mem_cons.1 h with h | h
      · exact .inl h
      · exact .inr (.tail _ h)
    · rcases List.mem_cons.1 h with h | h
      · subst h; exact .inr (.head _)
      · rcases setP_mem h with h | h
        · exact .inl h
        · exact .inr (.tail _ h)
theorem okPs_set {nid last : Int} {ps : List Pr} {q : Pr} {id : Int} (hq : q.id = id) (h : okPs nid last none ps = true) (hi : (1 ≤ q.id ∧ q.id ≤ 9) ∧ ¬ q.id = nid) (h2 : (1 ≤ q.nx ∧ q.nx ≤ last + 1) ∧ (0 ≤ q.mt ∧ q.mt ≤ q.nx - 1)) : okPs nid last none (setP id q ps) = true := by
  obtain ⟨a1, a2, _⟩ := okPs_iff.1 h
  refine okPs_iff.2 ⟨?_, ?_, fun u hu => by cases hu⟩
  · intro p hp
    rcases setP_mem hp with hp | hp
    · subst hp; exact ⟨hi.1, hi.2, h2.1, h2.2⟩
    · exact a1 p hp
  · have e := setP_ids hq ps
    have h1 : (ps.map Pr.id).Pairwise (· < ·) := List.pairwise_map.2 a2
    rw [← e] at h1
    exact List.pairwise_map.1 h1
theorem okPs_up {nid last last' : Int} {ps : List Pr} (hl : last ≤ last') (h : okPs nid last none ps = true) : okPs nid last' none ps = true := by
  obtain ⟨a1, a2, a3⟩ := okPs_iff.1 h
  refine okPs_iff.2 ⟨fun p hp => ?_, a2, a3⟩
  obtain ⟨b1, b2, b3, b4⟩ := a1 p hp
  exact ⟨b1, b2, by omega, b4⟩
theorem okPs_peers {self last : Int} {vs : List Int} {old : List Pr} (hv : rightL vs = true) {next : Int} (hn : 1 ≤ next ∧ next ≤ last + 1) (ho : okPs self last none old = true) : okPs self last none (peersF vs self next old) = true := by
  have hp := (asc_none (l := vs) (by unfold rightL at hv; simp only [Bool.and_eq_true] at hv; exact hv.1)).1
  have hd := right_digits hv
  obtain ⟨a1, _, _⟩ := okPs_iff.1 ho
  have hid : ∀ v, ((findP v old).getD ⟨v, next, 0⟩).id = v := by
    intro v
    cases hf : findP v old with
    | none => rfl
    | some p => exact (findP_mem hf).2
  refine okPs_iff.2 ⟨?_, ?_, fun u hu => by cases hu⟩
  · intro p hp
    unfold peersF at hp
    obtain ⟨v, hv2, rfl⟩ := List.mem_map.1 hp
    rw [List.mem_filter] at hv2
    have hne : ¬ v = self := by simpa using hv2.2
    have hdv := hd v hv2.1
    rw [hid]
    refine ⟨by omega, hne, ?_⟩
    cases hf : findP v old with
    | none => exact ⟨by show 1 ≤ next ∧ next ≤ last + 1; exact hn, by show (0 : Int) ≤ 0 ∧ 0 ≤ next - 1; omega⟩
    | some p => exact (a1 p (findP_mem hf).1).2.2
  · unfold peersF
    rw [List.pairwise_map]
    refine (hp.filter _).imp ?_
    intro a b hab
    rw [hid, hid]
    exact hab
theorem sure_range {N : Nd} (h : sureC N = true) : N.commit < sureP N ∧ termJ N.h.l (sureP N) = some N.h.t ∧ sureP N ≤ lastJ N.h.l := by
  unfold sureC at h
  simp only [Bool.and_eq_true, decide_eq_true_eq, beq_iff_eq] at h
  exact ⟨h.1, h.2, (termJ_range h.2).2⟩
theorem sure_right {N : Nd} (hr : rightN N = true) : rightN (sureN N) = true := by
  unfold sureN
  split
  case isFalse => exact hr
  rename_i hc
  obtain ⟨h1, _, h3⟩ := sure_range hc
  have hp := right_parts hr
  have hcb := commit_bounds hr
  refine right_of ⟨hp.1, hp.2.1, hp.2.2.1, hp.2.2.2.1, hp.2.2.2.2.1, hp.2.2.2.2.2.1, hp.2.2.2.2.2.2.1, ?_, hp.2.2.2.2.2.2.2.2⟩
  simp only [inB, Bool.and_eq_true, decide_eq_true_eq]
  omega
theorem sure_same (N : Nd) : (sureN N).id = N.id ∧ (sureN N).h = N.h ∧ (sureN N).role = N.role ∧ (sureN N).lead = N.lead ∧ (sureN N).timer = N.timer ∧ (sureN N).got = N.got ∧ (sureN N).ps = N.ps ∧ N.commit ≤ (sureN N).commit := by
  unfold sureN
  split
  · rename_i hc
    exact ⟨rfl, rfl, rfl, rfl, rfl, rfl, rfl, by show N.commit ≤ sureP N; have := (sure_range hc).1; omega⟩
  · exact ⟨rfl, rfl, rfl, rfl, rfl, rfl, rfl, Int.le_refl _⟩
theorem log_terms {N : Nd} (hr : rightN N = true) : 0 ≤ N.h.l.bt ∧ N.h.l.bt ≤ N.h.t ∧ okT N.h.t (max N.h.l.bt 1) N.h.l.rs = true ∧ N.h.s.size ≤ 131072 := by
  have hsh := right_shaped (right_parts hr).2.1
  unfold shapedH logT at hsh
  simp only [Bool.and_eq_true, decide_eq_true_eq, inB] at hsh
  obtain ⟨_, ⟨⟨⟨⟨⟨⟨⟨_, _⟩, hl2⟩, _⟩, _⟩, _⟩, hl6⟩, _⟩, hss⟩ := hsh
  exact ⟨hl2.1, hl2.2, hl6, hss⟩
theorem term_le {N : Nd} (hr : rightN N = true) {p t : Int} (h : termJ N.h.l p = some t) : 0 ≤ t ∧ t ≤ N.h.t := by
  obtain ⟨h1, h2, h3, _⟩ := log_terms hr
  unfold termJ at h
  split at h
  · injection h with h; omega
  · split at h
    · rw [Option.map_eq_some_iff] at h
      obtain ⟨r, hq, rfl⟩ := h
      have := okT_sizes _ _ h3 r (List.mem_of_getElem? hq)
      omega
    · cases h
theorem send_may {N : Nd} {p : Pr} (hr : rightN N = true) (ht : 1 ≤ N.h.t) (hp : p ∈ N.ps) : mayM (sendM N p) = true ∧ (sendM N p).fr = N.id ∧ (sendM N p).term = N.h.t ∧ (sendM N p).to = p.id := by
  have hpp := right_parts hr
  have hn := right_n hr
  obtain ⟨b1, b2, b3, b4⟩ := (okPs_iff.1 hpp.2.2.2.2.2.2.2.2.2).1 p hp
  have hcb := commit_bounds hr
  obtain ⟨l1, l2, l3, l4⟩ := log_terms hr
  have hji := right_iff.1 hn.1
  unfold sendM
  split
  · rename_i hx
    refine ⟨?_, rfl, rfl, rfl⟩
    unfold mayM formM bodyM inB
    simp only [Bool.and_eq_true, decide_eq_true_eq, Bool.not_eq_true', beq_eq_false_iff_ne, ne_eq]
    refine ⟨⟨by omega, by omega⟩, ⟨by omega, by omega⟩, ⟨by omega, by omega⟩, by omega, ⟨by omega, by omega⟩, ⟨by omega, by omega⟩, ⟨by omega, by omega⟩, ⟨by omega, by omega⟩, ?_, ?_⟩
    · simp
    · simp only [beq_self_eq_true, if_true, Bool.and_eq_true, decide_eq_true_eq]
      exact ⟨by omega, by omega, l4, hn.2.1⟩
  · rename_i hx
    refine ⟨?_, rfl, rfl, rfl⟩
    have hlast : p.nx - 1 ≤ lastJ N.h.l := by omega
    obtain ⟨tm, htm⟩ : ∃ t, termJ N.h.l (p.nx - 1) = some t := by
      unfold lastJ at hlast
      rcases Int.lt_or_le N.h.l.base (p.nx - 1) with h | h
      · rw [termJ_at h, List.getElem?_eq_getElem (by omega)]
        exact ⟨_, rfl⟩
      · have e : p.nx - 1 = N.h.l.base := by omega
        rw [e, termJ_eq]
        exact ⟨_, rfl⟩
    have htl := term_le hr htm
    have hc := (compact_right hn.1 htm).1
    have hb : behindJ N.h.l (p.nx - 1) 20 = (N.h.l.rs.drop (p.nx - 1 - N.h.l.base).toNat).take 20 := by
      unfold behindJ
      rw [if_pos ⟨hn.1, by omega, hlast⟩]
      rfl
    have hR : rightJ ⟨p.nx - 1, tm, behindJ N.h.l (p.nx - 1) 20⟩ = true := by
      rw [hb]
      refine right_pre (ys := (N.h.l.rs.drop (p.nx - 1 - N.h.l.base).toNat).drop 20) ?_
      rw [List.take_append_drop]
      exact hc
    have hmem : ∀ r ∈ behindJ N.h.l (p.nx - 1) 20, r.t ≤ N.h.t := by
      intro r hrr
      rw [hb] at hrr
      have h2 := List.mem_of_mem_drop (List.mem_of_mem_take hrr)
      exact (okT_sizes _ _ l3 r h2).2.2.1
    rw [htm]
    unfold mayM formM bodyM inB
    simp only [Bool.and_eq_true, decide_eq_true_eq, Bool.not_eq_true', beq_eq_false_iff_ne, ne_eq, Option.getD_some]
    refine ⟨⟨by omega, by omega⟩, ⟨by omega, by omega⟩, ⟨by omega, by omega⟩, by omega, ⟨by omega, by omega⟩, ⟨by omega, by omega⟩, ⟨by omega, by omega⟩, ⟨by omega, by omega⟩, ?_, ?_⟩
    · simp [ByteArray.size]
    · have h20 : (behindJ N.h.l (p.nx - 1) 20).length ≤ 20 := by rw [hb, List.length_take]; omega
      simp [hR, h20]
      exact hmem
theorem all_may {N : Nd} (hr : rightN N = true) (ht : 1 ≤ N.h.t) {x : Ms} (hx : x ∈ allM N) : mayM x = true ∧ x.fr = N.id ∧ x.term = N.h.t := by
  unfold allM at hx
  obtain ⟨p, hp, rfl⟩ := List.mem_map.1 hx
  have := send_may hr ht hp
  exact ⟨this.1, this.2.1, this.2.2.1⟩
theorem with_last (h : Hd) (r : Rec) : lastJ (withH h r).l = lastJ h.l + 1 := by
  unfold lastJ withH
  simp
  omega
/-- what a node that does anything keeps -/
structure Kept (N X : Nd) : Prop where
  right : rightN X = true
  id : X.id = N.id
  term : X.h.t = N.h.t
  vote : X.h.v = N.h.v
  com : N.commit ≤ X.commit
  base : X.h.l.base = N.h.l.base
  len : (N.commit - N.h.l.base).toNat ≤ X.h.l.rs.length
  recs : X.h.l.rs.take (N.commit - N.h.l.base).toNat = N.h.l.rs.take (N.commit - N.h.l.base).toNat
/-- all records stay -/
def Holds (N X : Nd) : Prop := N.h.l.rs.length ≤ X.h.l.rs.length ∧ X.h.l.rs.take N.h.l.rs.length = N.h.l.rs
theorem Kept.self {N : Nd} (hr : rightN N = true) : Kept N N ∧ Holds N N := by
  have hcb := commit_bounds hr
  unfold lastJ at hcb
  exact ⟨⟨hr, rfl, rfl, rfl, Int.le_refl _, rfl, by omega, rfl⟩, Nat.le_refl _, List.take_length⟩
theorem Kept.same {N X : Nd} (hr : rightN N = true) (hx : rightN X = true) (h1 : X.id = N.id) (h2 : X.h = N.h) (h3 : N.commit ≤ X.commit) : Kept N X ∧ Holds N X := by
  have hcb := commit_bounds hr
  unfold lastJ at hcb
  refine ⟨⟨hx, h1, by rw [h2], by rw [h2], h3, by rw [h2], by rw [h2]; omega, by rw [h2]⟩, ?_, ?_⟩
  · rw [h2]; exact Nat.le_refl _
  · rw [h2]; exact List.take_length
theorem Kept.with_ {N X : Nd} {r : Rec} (hr : rightN N = true) (hx : rightN X = true) (h1 : X.id = N.id) (h2 : X.h = withH N.h r) (h3 : N.commit ≤ X.commit) : Kept N X ∧ Holds N X := by
  have hcb := commit_bounds hr
  unfold lastJ at hcb
  refine ⟨⟨hx, h1, by rw [h2]; rfl, by rw [h2]; rfl, h3, by rw [h2]; rfl, ?_, ?_⟩, ?_, ?_⟩
  · rw [h2]; simp [withH]; omega
  · rw [h2]
    show (N.h.l.rs ++ [r]).take _ = _
    rw [List.take_append_of_le_length (by omega)]
  · rw [h2]; simp [withH]
  · rw [h2]
    show (N.h.l.rs ++ [r]).take _ = _
    rw [List.take_append_of_le_length (Nat.le_refl _), List.take_length]
theorem role_term {N : Nd} (hr : rightN N = true) (h : 0 < N.role) : 1 ≤ N.h.t := by
  have hp := right_parts hr
  have hn := right_n hr
  have h5 := hp.2.2.2.2.1
  simp only [Bool.not_eq_true', Bool.and_eq_false_iff, decide_eq_false_iff_not, beq_eq_false_iff_ne, ne_eq] at h5
  omega
/-- what leads may be -/
theorem lead_right {N : Nd} (hr : rightN N = true) (hrole : N.role = 1) : rightN (leadW N) = true ∧ (leadW N).id = N.id ∧ (leadW N).commit = N.commit ∧ (leadW N).role = 2 ∧ ((leadW N).h = N.h ∨ (leadW N).h = withH N.h ⟨N.h.t, 0, ⟨#[]⟩⟩) := by
  have hp := right_parts hr
  have hn := right_n hr
  have hcb := commit_bounds hr
  have ht := role_term hr (by omega)
  have hvo : rightL (votersN N) = true := of_right N.h.l.base N.h.l.rs hn.2.1
  have hid := hp.1
  simp only [inB, Bool.and_eq_true, decide_eq_true_eq] at hid
  have hB : ∀ h : Hd, rightH h = true → h.vs = N.h.vs → h.t = N.h.t → h.l.base = N.h.l.base → lastJ N.h.l ≤ lastJ h.l → rightN (hdN (leadB N) h) = true := by
    intro h hh hv hht hb hl
    refine right_of ⟨hp.1, hh, by show rightL h.vs = true; rw [hv]; exact hn.2.1, rfl, ?_, ?_, by rfl, ?_, rfl, ?_⟩
    · show (!(decide ((0 : Int) < 2) && h.t == 0)) = true
      rw [hht]
      simp; omega
    · show inB N.id 0 9 = true
      simp [inB]; omega
    · show inB N.commit h.l.base (lastJ h.l) = true
      rw [hb]
      simp [inB]; omega
    · show okPs N.id (lastJ h.l) none (peersF (votersN N) N.id (lastJ N.h.l + 1) []) = true
      exact okPs_peers hvo ⟨by omega, by omega⟩ rfl
  unfold leadW
  split
  · rename_i hw
    exact ⟨hB _ hw rfl rfl rfl (by rw [with_last]; omega), rfl, rfl, rfl, .inr rfl⟩
  · exact ⟨hB N.h hp.2.1 rfl rfl rfl (Int.le_refl _), rfl, rfl, rfl, .inl rfl⟩
theorem lead_keeps {N : Nd} (hr : rightN N = true) : Kept N (leadN N) ∧ Holds N (leadN N) ∧ ∀ x ∈ leadL N, mayM x = true ∧ x.fr = N.id ∧ x.term = N.h.t := by
  unfold leadN leadL
  by_cases hc : leadC N = true
  · rw [if_pos hc, if_pos hc]
    have hrole : N.role = 1 := by
      unfold leadC at hc
      simp only [Bool.and_eq_true, beq_iff_eq] at hc
      exact hc.2
    obtain ⟨h1, h2, h3, h4, h5⟩ := lead_right hr hrole
    have hs := sure_same (leadW N)
    have hsr := sure_right h1
    have ht := role_term hr (by omega)
    have hk : Kept N (sureN (leadW N)) ∧ Holds N (sureN (leadW N)) := by
      rcases h5 with h5 | h5
      · exact Kept.same hr hsr (by rw [hs.1, h2]) (by rw [hs.2.1, h5]) (by have := hs.2.2.2.2.2.2.2; omega)
      · exact Kept.with_ hr hsr (by rw [hs.1, h2]) (by rw [hs.2.1, h5]) (by have := hs.2.2.2.2.2.2.2; omega)
    refine ⟨hk.1, hk.2, fun x hx => ?_⟩
    have := all_may hsr (by rw [hk.1.term]; exact ht) hx
    exact ⟨this.1, by rw [this.2.1, hk.1.id], by rw [this.2.2, hk.1.term]⟩
  · rw [if_neg hc, if_neg hc]
    exact ⟨(Kept.self hr).1, (Kept.self hr).2, fun x hx => by cases hx⟩
theorem add_ok {N : Nd} {k : Int} {d : ByteArray} (h : addE N k d = 0) : rightN N = true ∧ N.role = 2 ∧ (k = 2 → confC N d = true) ∧ rightH (withH N.h ⟨N.h.t, k, d⟩) = true := by
  unfold addE at h
  split at h
  case isFalse => cases h
  rename_i h1
  split at h
  case isFalse => cases h
  rename_i h2
  split at h
  · cases h
  rename_i h3
  split at h
  case isFalse => cases h
  rename_i h4
  simp only [Bool.and_eq_true, beq_iff_eq, Bool.not_eq_true', not_and, Bool.not_eq_false] at h1 h2 h3
  exact ⟨h1.1, h2, h3, h4⟩
theorem conf_right {N : Nd} {d : ByteArray} (h : confC N d = true) : rightL ((parseQ d.data.toList).getD []) = true := by
  unfold confC at h
  split at h
  · cases h
  · rename_i l hl
    rw [hl]
    exact parse_right hl
theorem add_keeps {N : Nd} {k : Int} {d : ByteArray} (h : addE N k d = 0) : Kept N (addN N k d) ∧ Holds N (addN N k d) ∧ lastJ (addN N k d).h.l = addAt N k d ∧ ∀ x ∈ addL N k d, mayM x = true ∧ x.fr = N.id ∧ x.term = N.h.t := by
  obtain ⟨hr, hrole, hconf, hH⟩ := add_ok h
  have hp := right_parts hr
  have hn := right_n hr
  have hcb := commit_bounds hr
  have ht := role_term hr (by omega)
  unfold addN addL addAt
  rw [if_pos h, if_pos h, if_pos h]
  have hB : rightN (addB N k d) = true ∧ (addB N k d).id = N.id ∧ (addB N k d).h = withH N.h ⟨N.h.t, k, d⟩ ∧ (addB N k d).commit = N.commit := by
    have hlast := with_last N.h ⟨N.h.t, k, d⟩
    have hps0 := hp.2.2.2.2.2.2.2.2.2
    have hc1 : inB N.commit N.h.l.base (lastJ (withH N.h ⟨N.h.t, k, d⟩).l) = true := by
      rw [hlast]; simp [inB]; omega
    unfold addB
    split
    · rename_i hk2
      simp only [beq_iff_eq] at hk2
      refine ⟨right_of ⟨hp.1, hH, hn.2.1, hp.2.2.2.1, hp.2.2.2.2.1, hp.2.2.2.2.2.1, hp.2.2.2.2.2.2.1, hc1, hp.2.2.2.2.2.2.2.2.1, ?_⟩, rfl, rfl, rfl⟩
      show okPs N.id (lastJ (withH N.h ⟨N.h.t, k, d⟩).l) none _ = true
      rw [hlast]
      exact okPs_peers (conf_right (hconf hk2)) ⟨by omega, by omega⟩ (okPs_up (by omega) hps0)
    · refine ⟨right_of ⟨hp.1, hH, hn.2.1, hp.2.2.2.1, hp.2.2.2.2.1, hp.2.2.2.2.2.1, hp.2.2.2.2.2.2.1, hc1, hp.2.2.2.2.2.2.2.2.1, ?_⟩, rfl, rfl, rfl⟩
      show okPs N.id (lastJ (withH N.h ⟨N.h.t, k, d⟩).l) none N.ps = true
      rw [hlast]
      exact okPs_up (by omega) hps0
  obtain ⟨h1, h2, h3, h4⟩ := hB
  have hs := sure_same (addB N k d)
  have hsr := sure_right h1
  have hk := Kept.with_ (X := sureN (addB N k d)) (r := ⟨N.h.t, k, d⟩) hr hsr (by rw [hs.1, h2]) (by rw [hs.2.1, h3]) (by have := hs.2.2.2.2.2.2.2; omega)
  refine ⟨hk.1, hk.2, by rw [hs.2.1, h3, with_last], fun x hx => ?_⟩
  have := all_may hsr (by rw [hk.1.term]; exact ht) hx
  exact ⟨this.1, by rw [this.2.1, hk.1.id], by rw [this.2.2, hk.1.term]⟩
theorem fit_parts {N : Nd} {M : Ms} (h : fitC N M = true) : rightN N = true ∧ mayM M = true ∧ M.kind = 4 ∧ M.to = N.id ∧ M.term = N.h.t ∧ N.role = 2 ∧ (M.ok = true → M.index ≤ lastJ N.h.l) ∧ ∃ p, findP M.fr N.ps = some p := by
  unfold fitC at h
  simp only [Bool.and_eq_true, decide_eq_true_eq, beq_iff_eq, Bool.not_eq_true', Bool.and_eq_false_iff, decide_eq_false_iff_not, Option.isSome_iff_exists] at h
  obtain ⟨h1, h2, h3, h4, h5⟩ := h
  obtain ⟨a1, a2, a3, a4, a5⟩ := told_parts h1
  exact ⟨a1, a2, a3, a4, by omega, h3, fun e => by
    rcases h4 with h4 | h4
    · rw [e] at h4; cases h4
    · omega, h5⟩
theorem fitP_ok {N : Nd} {M : Ms} {p : Pr} (h : fitC N M = true) (hp : findP M.fr N.ps = some p) : (fitP N M p).id = p.id ∧ (1 ≤ (fitP N M p).nx ∧ (fitP N M p).nx ≤ lastJ N.h.l + 1) ∧ (0 ≤ (fitP N M p).mt ∧ (fitP N M p).mt ≤ (fitP N M p).nx - 1) := by
  obtain ⟨hr, hm, _, _, _, _, hix, _⟩ := fit_parts h
  have hb := may_bounds hm
  obtain ⟨b1, b2, b3, b4⟩ := (okPs_iff.1 (right_parts hr).2.2.2.2.2.2.2.2.2).1 p (findP_mem hp).1
  unfold fitP
  split
  · rename_i hok
    have := hix hok
    refine ⟨rfl, ⟨?_, ?_⟩, ?_, ?_⟩ <;> dsimp only <;> omega
  · refine ⟨rfl, ⟨?_, ?_⟩, ?_, ?_⟩ <;> dsimp only <;> omega
theorem fit_base {N : Nd} {M : Ms} {p : Pr} (h : fitC N M = true) (hp : findP M.fr N.ps = some p) : rightN (psN N (setP M.fr (fitP N M p) N.ps)) = true := by
  obtain ⟨hr, _⟩ := fit_parts h
  have hpp := right_parts hr
  obtain ⟨f1, f2, f3⟩ := fitP_ok h hp
  obtain ⟨hm, hid⟩ := findP_mem hp
  obtain ⟨b1, b2, _⟩ := (okPs_iff.1 hpp.2.2.2.2.2.2.2.2.2).1 p hm
  exact right_of ⟨hpp.1, hpp.2.1, hpp.2.2.1, hpp.2.2.2.1, hpp.2.2.2.2.1, hpp.2.2.2.2.2.1, hpp.2.2.2.2.2.2.1, hpp.2.2.2.2.2.2.2.1, hpp.2.2.2.2.2.2.2.2.1, okPs_set (by rw [f1]; exact hid) hpp.2.2.2.2.2.2.2.2.2 (by rw [f1]; exact ⟨b1, b2⟩) ⟨f2, f3⟩⟩
theorem setP_has {id : Int} {q : Pr} : ∀ {ps : List Pr} {p : Pr}, findP id ps = some p → q ∈ setP id q ps
  | [], _, h => by cases h
  | x :: ps, p, h => by
    rw [findP] at h
    rw [setP]
    split at h
    · rename_i hx
      rw [if_pos hx]
      exact .head _
    · rename_i hx
      rw [if_neg hx]
      exact .tail _ (setP_has h)
theorem fit_keeps {N : Nd} (M : Ms) (hr : rightN N = true) : Kept N (fitN N M) ∧ Holds N (fitN N M) ∧ ∀ x ∈ fitL N M, mayM x = true ∧ x.fr = N.id ∧ x.term = N.h.t := by
  by_cases h : fitC N M = true
  case neg =>
    have e1 : fitN N M = N := by unfold fitN; rw [if_neg h]
    have e2 : fitL N M = [] := by unfold fitL; rw [if_neg h]
    rw [e1, e2]
    exact ⟨(Kept.self hr).1, (Kept.self hr).2, fun x hx => by cases hx⟩
  obtain ⟨_, hm, _, _, _, hrole, _, p, hp⟩ := fit_parts h
  have hb := fit_base h hp
  have ht := role_term hr (by omega)
  have hN : fitN N M = (if M.ok then sureN (psN N (setP M.fr (fitP N M p) N.ps)) else psN N (setP M.fr (fitP N M p) N.ps)) := by
    unfold fitN
    rw [if_pos h, hp]
  have hall : rightN (fitN N M) = true ∧ (fitN N M).id = N.id ∧ (fitN N M).h = N.h ∧ N.commit ≤ (fitN N M).commit ∧ (fitN N M).ps = setP M.fr (fitP N M p) N.ps := by
    rw [hN]
    split
    · have hs := sure_same (psN N (setP M.fr (fitP N M p) N.ps))
      exact ⟨sure_right hb, hs.1, hs.2.1, hs.2.2.2.2.2.2.2, hs.2.2.2.2.2.2.1⟩
    · exact ⟨hb, rfl, rfl, Int.le_refl _, rfl⟩
  obtain ⟨a1, a2, a3, a4, a5⟩ := hall
  have hk := Kept.same hr a1 a2 a3 a4
  refine ⟨hk.1, hk.2, fun x hx => ?_⟩
  have hL : fitL N M = (if M.ok && decide (lastJ N.h.l < (fitP N M p).nx) then [] else [sendM (fitN N M) (fitP N M p)]) := by
    unfold fitL
    rw [if_pos h, hp]
  rw [hL] at hx
  split at hx
  · cases hx
  · rw [List.mem_singleton] at hx
    subst hx
    have := send_may a1 (by rw [a3]; exact ht) (p := fitP N M p) (by rw [a5]; exact setP_has hp)
    exact ⟨this.1, by rw [this.2.1, a2], by rw [this.2.2.1, a3]⟩
theorem bad_spec {N : Nd} : ∀ {rs : List Rec} {idx : Int}, badR N idx rs = false → ∀ (j : Nat) (r : Rec), rs[j]? = some r → N.h.l.base < idx + 1 + j → idx + 1 + j ≤ N.commit → termJ N.h.l (idx + 1 + j) = some r.t
  | [], idx, _, j, r, h, _, _ => by simp at h
  | x :: rs, idx, hb, j, r, h, h1, h2 => by
    rw [badR] at hb
    split at hb
    · cases hb
    rename_i hx
    cases j with
    | zero =>
      rw [List.getElem?_cons_zero] at h
      injection h with h
      subst h
      simp only [Bool.and_eq_true, decide_eq_true_eq, Bool.not_eq_true', beq_eq_false_iff_ne, ne_eq, not_and] at hx
      have := hx (by omega) (by omega)
      simpa using this
    | succ j =>
      have := bad_spec hb j r (by simpa using h) (by omega) (by omega)
      rw [show idx + 1 + ((j + 1 : Nat) : Int) = idx + 1 + 1 + j by omega]
      exact this
theorem take_parts {N : Nd} {M : Ms} (h : takeC N M = true) : rightN N = true ∧ mayM M = true ∧ M.kind = 3 ∧ M.to = N.id ∧ M.term = N.h.t ∧ ¬ N.role = 2 := by
  unfold takeC at h
  simp only [Bool.and_eq_true, decide_eq_true_eq, Bool.not_eq_true', beq_eq_false_iff_ne, ne_eq] at h
  obtain ⟨a1, a2, a3, a4, a5⟩ := told_parts h.1
  exact ⟨a1, a2, a3, a4, by omega, h.2.2⟩
theorem take_ok {N : Nd} {M : Ms} (h : takeC N M = true) (d : Int) (hbad : badR N M.index M.rs = false) (hok : takeOk N M = true) (hf : (takeMg N M).f = true) :
    Kept N ⟨N.id, logH N.h (takeMg N M).l, 0, M.fr, min (max d 0) 1048576, max N.commit (min M.commit (takeMg N M).n), [], []⟩ := by
  obtain ⟨hr, hm, _, _, _, _⟩ := take_parts h
  have hb := may_bounds hm
  have hp := right_parts hr
  have hcb := commit_bounds hr
  unfold takeOk at hok
  simp only [Bool.and_eq_true, beq_iff_eq] at hok
  obtain ⟨he, hH⟩ := hok
  obtain ⟨c1, c2, ga, hn, hc⟩ := merge_cases he hf
  change (takeMg N M).n = _ at hn
  have hrj := right_iff.1 c1
  have hc0 : N.h.l.base ≤ N.commit ∧ N.commit ≤ N.h.l.base + N.h.l.rs.length := by unfold lastJ at hcb; omega
  have hl : (takeMg N M).l.base = N.h.l.base ∧ (takeMg N M).n ≤ lastJ (takeMg N M).l ∧ N.commit ≤ lastJ (takeMg N M).l ∧ (N.commit - N.h.l.base).toNat ≤ (takeMg N M).l.rs.length ∧ (takeMg N M).l.rs.take (N.commit - N.h.l.base).toNat = N.h.l.rs.take (N.commit - N.h.l.base).toNat := by
    rcases hc with ⟨hfd, hl⟩ | ⟨i, hfd, h200, hri, hl⟩
    · change (takeMg N M).l = _ at hl
      rw [hl, hn]
      refine ⟨rfl, ?_, hcb.2.2.1, by omega, rfl⟩
      have hat : M.index + M.rs.length ≤ lastJ N.h.l := by
        rcases Nat.eq_zero_or_pos M.rs.length with h0 | h0
        · rcases Int.lt_or_le M.index N.h.l.base with h1 | h1
          · omega
          · have h2 : termJ N.h.l M.index = some M.lterm := by
              apply Classical.byContradiction
              intro h3
              exact ga ⟨h1, h3⟩
            have := (termJ_range h2).2
            unfold lastJ
            omega
        · have := fdJ_none_all hfd (M.rs.length - 1) M.rs[M.rs.length - 1] (List.getElem?_eq_getElem (by omega))
          rcases this with h1 | h1
          · omega
          · have := (termJ_range h1).2
            unfold lastJ
            omega
      omega
    · change (takeMg N M).l = _ at hl
      obtain ⟨p1, p2⟩ := fdJ_place ga hfd
      obtain ⟨r, r1, r2, r3⟩ := fdJ_some_all hfd
      have hci : N.commit ≤ M.index + i := by
        rcases Int.lt_or_le (M.index + i) N.commit with h1 | h1
        · exfalso
          apply r2
          right
          exact bad_spec hbad i r r1 (by omega) (by omega)
        · exact h1
      have hil : i < M.rs.length := (List.getElem?_eq_some_iff.1 r1).1
      rw [hl, hn]
      have hlen : (N.h.l.rs.take (M.index + i - N.h.l.base).toNat).length = (M.index + i - N.h.l.base).toNat := by rw [List.length_take]; omega
      have hlast : lastJ ⟨N.h.l.base, N.h.l.bt, N.h.l.rs.take (M.index + i - N.h.l.base).toNat ++ M.rs.drop i⟩ = M.index + M.rs.length := by
        unfold lastJ
        dsimp only
        rw [List.length_append, hlen, List.length_drop]
        omega
      rw [hlast]
      refine ⟨rfl, by omega, by omega, ?_, ?_⟩
      · show _ ≤ (N.h.l.rs.take (M.index + i - N.h.l.base).toNat ++ M.rs.drop i).length
        rw [List.length_append, hlen]
        omega
      · show (N.h.l.rs.take (M.index + i - N.h.l.base).toNat ++ M.rs.drop i).take _ = _
        rw [List.take_append_of_le_length (by omega), List.take_take, Nat.min_eq_left (by omega)]
  obtain ⟨l1, l2, l3, l4, l5⟩ := hl
  refine ⟨right_of ⟨hp.1, hH, hp.2.2.1, rfl, by simp, ?_, ?_, ?_, rfl, rfl⟩, rfl, rfl, rfl, ?_, l1, l4, l5⟩
  · simp only [inB, Bool.and_eq_true, decide_eq_true_eq]; omega
  · simp only [inB, Bool.and_eq_true, decide_eq_true_eq]; omega
  · show inB (max N.commit (min M.commit (takeMg N M).n)) (takeMg N M).l.base (lastJ (takeMg N M).l) = true
    simp only [inB, Bool.and_eq_true, decide_eq_true_eq]; omega
  · show N.commit ≤ max N.commit (min M.commit (takeMg N M).n)
    omega
theorem follow_kept {N : Nd} (hr : rightN N = true) {fr : Int} (d : Int) (hf : 1 ≤ fr ∧ fr ≤ 9) : Kept N (followN N fr d) := (Kept.same hr (follow_right hr d hf) rfl rfl (Int.le_refl _)).1
theorem take_keeps {N : Nd} (M : Ms) (d : Int) (hr : rightN N = true) : Kept N (takeN N M d) ∧ (N.role = 2 → Holds N (takeN N M d)) := by
  unfold takeN
  split
  case isFalse => exact ⟨(Kept.self hr).1, fun _ => (Kept.self hr).2⟩
  rename_i hc
  obtain ⟨_, hm, _, _, _, hrole⟩ := take_parts hc
  have hf := follow_kept hr d (may_bounds hm).2.1
  split
  · exact ⟨hf, fun h => absurd h hrole⟩
  rename_i hbad
  split
  · rename_i hok
    simp only [Bool.and_eq_true] at hok
    exact ⟨take_ok hc d (by simpa using hbad) hok.1 hok.2, fun h => absurd h hrole⟩
  · exact ⟨hf, fun h => absurd h hrole⟩
theorem merge_end {l : Lg} {p t : Int} {more : List Rec} (hr : rightJ l = true) (hp : 0 ≤ p) (hlen : p + more.length ≤ 1073741824) (hp1 : l.base ≤ p → termJ l p ≠ some t → 1 ≤ p) : 0 ≤ (mergeJ l p t more).n ∧ (mergeJ l p t more).n ≤ 1073741824 := by
  have hb := right_iff.1 hr
  unfold mergeJ lastJ
  split
  · split
    · rename_i h
      have := hp1 h.1 h.2
      dsimp only
      omega
    · split
      · dsimp only; omega
      · dsimp only
        split
        · dsimp only; omega
        · split
          · dsimp only; omega
          · dsimp only; omega
  · dsimp only; omega
theorem take_may {N : Nd} {M : Ms} {x : Ms} (hx : x ∈ takeL N M) : mayM x = true ∧ x.fr = N.id ∧ x.term = N.h.t ∧ x.to = M.fr := by
  unfold takeL at hx
  split at hx
  case isFalse => cases hx
  rename_i hc
  obtain ⟨hr, hm, hk, hto, hle⟩ := told_parts hc
  have hb := may_bounds hm
  have hn := right_n hr
  have hcb := commit_bounds hr
  have hbr : rightJ ⟨M.index, M.lterm, M.rs⟩ = true := by
    have h := hm
    unfold mayM bodyM at h
    simp only [Bool.and_eq_true, hk] at h
    have h2 := h.2.2.2.2.2.2.2.2.2
    simp only [show ((3 : Int) == 5) = false from rfl, show ((3 : Int) != 3) = false from rfl, Bool.false_eq_true, if_false, Bool.and_eq_true] at h2
    exact h2.2.2
  have hb2 := right_iff.1 hbr
  dsimp only at hb2
  have hmn : 0 ≤ (takeMg N M).n ∧ (takeMg N M).n ≤ 1073741824 := by
    refine merge_end hn.1 (by omega) (by omega) ?_
    intro h1 h2
    rcases Int.lt_or_le 0 M.index with h3 | h3
    · omega
    · exfalso
      have h0 : M.index = 0 := by omega
      have hj := right_iff.1 hn.1
      have hb0 : N.h.l.base = 0 := by omega
      apply h2
      have hlt : M.lterm = 0 := hb2.2.2.2.2.1.1 h0
      have hbt : N.h.l.bt = 0 := hj.2.2.2.2.1.1 hb0
      have e := termJ_eq N.h.l
      rw [hb0, hbt] at e
      rw [h0, hlt]
      exact e
  have go : ∀ (ok : Bool) (p : Int), 0 ≤ p → p ≤ 1073741824 → mayM (fitM N.id M.fr N.h.t ok p) = true := fun ok p h1 h2 => fit_may ok hn.2.2.2.2 hb.2.1 (by omega) (by omega) ⟨h1, h2⟩
  split at hx
  · rw [List.mem_singleton] at hx; subst hx; exact ⟨go _ _ (by omega) (by omega), rfl, rfl, rfl⟩
  split at hx
  · cases hx
  split at hx
  · rw [List.mem_singleton] at hx; subst hx; exact ⟨go _ _ (by omega) (by omega), rfl, rfl, rfl⟩
  split at hx
  · rw [List.mem_singleton] at hx; subst hx; exact ⟨go _ _ hmn.1 hmn.2, rfl, rfl, rfl⟩
  · rw [List.mem_singleton] at hx; subst hx; exact ⟨go _ _ (by omega) (by omega), rfl, rfl, rfl⟩
theorem take_len (N : Nd) (M : Ms) : (takeL N M).length ≤ 1 := by
  unfold takeL
  split
  · split
    · simp
    · split
      · simp
      · split
        · simp
        · split <;> simp
  · simp
theorem fit_len (N : Nd) (M : Ms) : (fitL N M).length ≤ 1 := by
  unfold fitL
  split
  · split
    · simp
    · split <;> simp
  · simp
end Go.Proofs.YtncdjmpdbinanaaGreatDoor
namespace Go.Proofs.YtncdjmpdbinanaaGreatDoor
open Go.RowKit

theorem take_not {N : Nd} {M : Ms} {d : Int} (h : toldC N M 3 = false) : takeN N M d = N ∧ takeL N M = [] := by
  unfold takeN takeL takeC
  rw [h]
  simp
def takeF (N : Nd) (M : Ms) (d : Int) : Nd := ⟨N.id, logH N.h (takeMg N M).l, 0, M.fr, min (max d 0) 1048576, max N.commit (min M.commit (takeMg N M).n), [], []⟩
theorem take_say {N : Nd} {M : Ms} {d : Int} (h : toldC N M 3 = true) :
    (M.term < N.h.t → takeN N M d = N ∧ takeL N M = [fitM N.id M.fr N.h.t false (lastJ N.h.l)]) ∧
    (N.h.t ≤ M.term → N.role = 2 → takeN N M d = N ∧ takeL N M = []) ∧
    (N.h.t ≤ M.term → ¬ N.role = 2 → badR N M.index M.rs = true → takeN N M d = followN N M.fr d ∧ takeL N M = [fitM N.id M.fr N.h.t false N.commit]) ∧
    (N.h.t ≤ M.term → ¬ N.role = 2 → badR N M.index M.rs = false → takeOk N M = false → takeN N M d = followN N M.fr d ∧ takeL N M = [fitM N.id M.fr N.h.t false (lastJ N.h.l)]) ∧
    (N.h.t ≤ M.term → ¬ N.role = 2 → badR N M.index M.rs = false → takeOk N M = true → (takeMg N M).f = false → takeN N M d = followN N M.fr d ∧ takeL N M = [fitM N.id M.fr N.h.t false (takeMg N M).n]) ∧
    (N.h.t ≤ M.term → ¬ N.role = 2 → badR N M.index M.rs = false → takeOk N M = true → (takeMg N M).f = true → takeN N M d = takeF N M d ∧ takeL N M = [fitM N.id M.fr N.h.t true (takeMg N M).n]) := by
  refine ⟨fun h1 => ?_, fun h1 h2 => ?_, fun h1 h2 h3 => ?_, fun h1 h2 h3 h4 => ?_, fun h1 h2 h3 h4 h5 => ?_, fun h1 h2 h3 h4 h5 => ?_⟩ <;> unfold takeN takeL takeC <;> rw [h]
  · simp [h1, show ¬ N.h.t ≤ M.term by omega]
  · simp [h1, h2, show ¬ M.term < N.h.t by omega]
  · simp [h1, h2, h3, show ¬ M.term < N.h.t by omega]
  · simp [h1, h2, h3, h4, show ¬ M.term < N.h.t by omega]
  · simp [h1, h2, h3, h4, h5, show ¬ M.term < N.h.t by omega]
  · simp [h1, h2, h3, h4, h5, show ¬ M.term < N.h.t by omega, takeF]
/-- the program's test at one record -/
def badC (N : Nd) (p : Int) (r : Rec) : Bool := (termAtJ N.h.l p).isSome && (decide (N.h.l.base < p) && (decide (p ≤ N.commit) && !((termAtJ N.h.l p).getD 0 == r.t)))
/-- the reference's test at one record -/
def badD (N : Nd) (p : Int) (r : Rec) : Bool := decide (N.h.l.base < p) && (decide (p ≤ N.commit) && !((termJ N.h.l p).getD (-1) == r.t))
theorem bad_some {N : Nd} {p : Int} (hr : rightN N = true) (h1 : N.h.l.base < p) (h2 : p ≤ N.commit) : ∃ t, termJ N.h.l p = some t := by
  have hc := commit_term hr
  have h3 : p ≤ lastJ N.h.l := by omega
  unfold lastJ at h3
  rw [termJ_at h1, List.getElem?_eq_getElem (by omega)]
  exact ⟨_, rfl⟩
theorem bad_step {N : Nd} (hr : rightN N = true) (p : Int) (r : Rec) (rs : List Rec) : badR N p (r :: rs) = if badC N (p + 1) r then true else badR N (p + 1) rs := by
  have hj := (commit_term hr).1
  unfold badC termAtJ
  rw [badR, if_pos hj]
  by_cases h1 : N.h.l.base < p + 1
  case neg => simp [h1]
  by_cases h2 : p + 1 ≤ N.commit
  case neg => simp [h2]
  obtain ⟨t, ht⟩ := bad_some hr h1 h2
  rw [ht]
  simp [h1, h2]
theorem bad_stepD {N : Nd} (hr : rightN N = true) (p : Int) (r : Rec) (rs : List Rec) : badR N p (r :: rs) = if badD N (p + 1) r then true else badR N (p + 1) rs := by
  unfold badD
  rw [badR]
  by_cases h1 : N.h.l.base < p + 1
  case neg => simp [h1]
  by_cases h2 : p + 1 ≤ N.commit
  case neg => simp [h2]
  obtain ⟨t, ht⟩ := bad_some hr h1 h2
  rw [ht]
  simp [h1, h2]
theorem mg_len (l : Lg) (p t : Int) (more : List Rec) : (mergeJ l p t more).l.rs.length ≤ l.rs.length + 200 := by
  unfold mergeJ
  split
  · split
    · simp
    · split
      · simp
      · dsimp only
        split
        · simp [zeroL]
        · split
          · dsimp only
            omega
          · simp [zeroL]
  · simp [zeroL]
end Go.Proofs.YtncdjmpdbinanaaGreatDoor
