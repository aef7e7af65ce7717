/-
  WHAT IS PROVED HERE: plain laws on a record that a leader is given; what is handed back then. No program, no condition.
  WHAT IS PROVED HERE: boxes stay behind an append to a row of another type; the place of a peer. No condition.
-/
import Derived.Test.YtncdjmpdbinanaaGreatDoorZGEx
import Derived.Test.YtncdjmpdbinanaaGreatDoorZGKj1
import Derived.Test.YtncdjmpdbinanaaGreatDoorZGNd
namespace Go.Proofs.YtncdjmpdbinanaaGreatDoor
open Go.RowKit

/-- a node, messages, a place and a word are handed back -/
def RetAd (w : World) (B : Nat) (N : Nd) (ms : List Ms) (p er : Int) (e : Ending) (w' : World) : Prop :=
  ∃ a A n c pm, e = .returned (.tuple #[nodeV N a, .slice A n c, .int .i64 p, .int .i64 er]) ∧ NdOk w' B N a ∧ Mgs w' B A n pm ∧ pm.map Prod.fst = ms ∧ n ≤ c ∧ Below w.heap.size w w'
theorem zero_ok {w : World} {B : Nat} : NdOk w B zeroN ⟨⟨none, 0, 0⟩, ⟨none, 0, 0⟩, ⟨none, 0, 0⟩, ⟨none, 0, 0⟩⟩ :=
  ⟨Reads.none_, Nat.le_refl _, by dsimp only; omega, Reads.none_, Nat.le_refl _, by dsimp only; omega, by decide, Reads.none_, Nat.le_refl _, by dsimp only; omega, Reads.none_, Nat.le_refl _, by dsimp only; omega⟩
/-- what is asked of the arguments -/
def addG (N : Nd) (k : Int) (d : ByteArray) : Bool := rightN N && (decide (0 ≤ k) && (decide (k ≤ 2) && decide (d.size ≤ 8192)))
def addOk (N : Nd) (k : Int) (d : ByteArray) : Bool := addG N k d && (N.role == 2 && !(k == 2 && !(confC N d)))
theorem add_say (N : Nd) (k : Int) (d : ByteArray) :
    (addG N k d = false → addE N k d = 1) ∧ (addG N k d = true → ¬ N.role = 2 → addE N k d = 171) ∧ (addG N k d = true → N.role = 2 → k = 2 → confC N d = false → addE N k d = 160) ∧
    (addOk N k d = true → rightH (withH N.h ⟨N.h.t, k, d⟩) = false → addE N k d = 130) ∧ (addOk N k d = true → rightH (withH N.h ⟨N.h.t, k, d⟩) = true → addE N k d = 0) := by
  refine ⟨fun h => ?_, fun h h2 => ?_, fun h h2 h3 h4 => ?_, fun h h2 => ?_, fun h h2 => ?_⟩ <;> unfold addE
  · unfold addG at h; rw [h]; rfl
  · unfold addG at h; rw [h]; simp [h2]
  · unfold addG at h; rw [h]; simp [h2, h3, h4]
  · unfold addOk addG at h
    simp only [Bool.and_eq_true] at h
    obtain ⟨⟨a1, a2, a3, a4⟩, a5, a6⟩ := h
    rw [a1, a2, a3, a4, a5, h2]
    cases hc : (k == 2 && !(confC N d)) with
    | true => rw [hc] at a6; cases a6
    | false => rfl
  · unfold addOk addG at h
    simp only [Bool.and_eq_true] at h
    obtain ⟨⟨a1, a2, a3, a4⟩, a5, a6⟩ := h
    rw [a1, a2, a3, a4, a5, h2]
    cases hc : (k == 2 && !(confC N d)) with
    | true => rw [hc] at a6; cases a6
    | false => rfl
theorem add_bad {N : Nd} {k er : Int} {d : ByteArray} (h : addE N k d = er) (h0 : ¬ er = 0) : addN N k d = zeroN ∧ addL N k d = [] ∧ addAt N k d = 0 ∧ addE N k d = er := by
  unfold addN addL addAt
  rw [h]
  exact ⟨if_neg h0, if_neg h0, if_neg h0, rfl⟩
theorem add_good {N : Nd} {k : Int} {d : ByteArray} (h : addE N k d = 0) : addN N k d = sureN (addB N k d) ∧ addL N k d = allM (sureN (addB N k d)) ∧ addAt N k d = lastJ N.h.l + 1 ∧ addE N k d = 0 := by
  unfold addN addL addAt
  rw [if_pos h, if_pos h, if_pos h]
  exact ⟨rfl, rfl, rfl, h⟩
theorem add_conf {N : Nd} {d : ByteArray} (hr : rightN N = true) (hrole : N.role = 2) : confC N d = ((parseQ d.data.toList).isSome && (nextL (votersN N) ((parseQ d.data.toList).getD []) && (inL N.id ((parseQ d.data.toList).getD []) && (decide (saidN N ≤ N.commit) && ((termAtJ N.h.l N.commit).getD 0 == N.h.t))))) := by
  have ht := role_term hr (by omega)
  unfold confC termAtJ
  rw [if_pos (commit_term hr).1]
  cases parseQ d.data.toList with
  | none => rfl
  | some l =>
    have e : (termJ N.h.l N.commit == some N.h.t) = ((termJ N.h.l N.commit).getD 0 == N.h.t) := by
      cases termJ N.h.l N.commit with
      | none =>
        rw [Bool.eq_iff_iff]
        simp
        omega
      | some t => rw [Bool.eq_iff_iff]; simp
    rw [e]
    rfl
/-- the node with its record -/
theorem add_mid {N : Nd} {k : Int} {d : ByteArray} (hr : rightN N = true) (hH : rightH (withH N.h ⟨N.h.t, k, d⟩) = true) : rightN (hdN N (withH N.h ⟨N.h.t, k, d⟩)) = true ∧ lastJ (hdN N (withH N.h ⟨N.h.t, k, d⟩)).h.l = lastJ N.h.l + 1 := by
  have hp := right_parts hr
  have hcb := commit_bounds hr
  have hlast := with_last N.h ⟨N.h.t, k, d⟩
  have hc1 : inB N.commit N.h.l.base (lastJ (withH N.h ⟨N.h.t, k, d⟩).l) = true := by
    rw [hlast]; simp [inB]; omega
  refine ⟨right_of ⟨hp.1, hH, hp.2.2.1, hp.2.2.2.1, hp.2.2.2.2.1, hp.2.2.2.2.2.1, hp.2.2.2.2.2.2.1, hc1, hp.2.2.2.2.2.2.2.2.1, ?_⟩, hlast⟩
  show okPs N.id (lastJ (withH N.h ⟨N.h.t, k, d⟩).l) none N.ps = true
  rw [hlast]
  exact okPs_up (by omega) hp.2.2.2.2.2.2.2.2.2
/-- .. and with the peers of new voters -/
theorem add_base {N : Nd} {k : Int} {d : ByteArray} (h : addE N k d = 0) : rightN (addB N k d) = true ∧ lastJ (addB N k d).h.l = lastJ N.h.l + 1 := by
  obtain ⟨hr, hrole, hconf, hH⟩ := add_ok h
  have hcb := commit_bounds hr
  obtain ⟨h1, h2⟩ := add_mid hr hH
  unfold addB
  split
  · rename_i hk2
    simp only [beq_iff_eq] at hk2
    have hp := right_parts h1
    refine ⟨right_of ⟨hp.1, hp.2.1, hp.2.2.1, hp.2.2.2.1, hp.2.2.2.2.1, hp.2.2.2.2.2.1, hp.2.2.2.2.2.2.1, hp.2.2.2.2.2.2.2.1, hp.2.2.2.2.2.2.2.2.1, ?_⟩, h2⟩
    show okPs N.id (lastJ (hdN N (withH N.h ⟨N.h.t, k, d⟩)).h.l) none _ = true
    rw [h2]
    exact okPs_peers (conf_right (hconf hk2)) ⟨by omega, by omega⟩ (okPs_up (by omega) (right_parts hr).2.2.2.2.2.2.2.2.2)
  · exact ⟨h1, h2⟩
theorem nd_like {w : World} {B : Nat} {N N' : Nd} {a : NdA} (h : NdOk w B N a) (h1 : N'.h = N.h) (h2 : N'.got = N.got) (h3 : N'.ps = N.ps) : NdOk w B N' a :=
  ⟨by rw [h1]; exact h.recs, h.rc, h.rb, by rw [h1]; exact h.vs, h.vc, h.vb, by rw [h1]; exact h.sb, by rw [h2]; exact h.got, h.gc, h.gb, by rw [h3]; exact h.ps, h.pc, h.pb⟩
theorem peersF_len (vs : List Int) (s n : Int) (old : List Pr) : (peersF vs s n old).length ≤ vs.length := by
  unfold peersF
  rw [List.length_map]
  exact List.length_filter_le _ _
end Go.Proofs.YtncdjmpdbinanaaGreatDoor
namespace Go.Proofs.YtncdjmpdbinanaaGreatDoor
open Go.RowKit

theorem Bxs.ownR {w w' : World} {base B e size n : Nat} {v : Value} {xs : List Value} {l : List Bx} (hB : Bxs B w l) (h : w.ownsRow base e size v n xs) (hl : ∀ b ∈ l, b.t ≠ e) (hg : w.grownBy w' v.ownBlock) : Bxs B w' l :=
  hB.grown hg (fun b hb => own_ne h (hB.1 b hb).1 (fun x => hl b hb x.symm))
theorem idxP_fnd (fr : Int) : ∀ (ps : List Pr) (j : Nat), (∃ (k : Nat) (p : Pr), idxP fr j ps = ((j + k : Nat) : Int) ∧ ps[k]? = some p ∧ findP fr ps = some p) ∨ (idxP fr j ps = -1 ∧ findP fr ps = none)
  | [], j => .inr ⟨rfl, rfl⟩
  | p :: ps, j => by
    by_cases h : p.id = fr
    · refine .inl ⟨0, p, ?_, rfl, ?_⟩
      · rw [idxP, if_pos h]; rfl
      · rw [findP, if_pos h]
    · rw [idxP, findP, if_neg h, if_neg h]
      rcases idxP_fnd fr ps (j + 1) with ⟨k, q, h1, h2, h3⟩ | ⟨h1, h2⟩
      · exact .inl ⟨k + 1, q, by rw [h1]; omega, by simpa using h2, h3⟩
      · exact .inr ⟨h1, h2⟩
theorem drop_get {α : Type} {l : List α} {k : Nat} {x p : α} (h : l.drop k = x :: l.drop (k + 1)) (hp : l[k]? = some p) : x = p := by
  have h1 : (l.drop k)[0]? = some x := by rw [h]; rfl
  rw [List.getElem?_drop, Nat.add_zero, hp] at h1
  injection h1 with h1
  exact h1.symm
end Go.Proofs.YtncdjmpdbinanaaGreatDoor
