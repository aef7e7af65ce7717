/-
  WHAT IS PROVED HERE: plain laws on a record that a leader is given; what is handed back then. No program, no condition.
  WHAT IS PROVED HERE: plain laws on lists of ints: the members that two ascending lists have in common are as many from either side; two majorities of the same voters, or of voters and of those that may follow them, have a voter in common. No condition.
  WHAT IS PROVED HERE: boxes stay behind an append to a row of another type; the place of a peer. No condition.
-/
import Derived.Test.YtncdjmpdbinanaaGreatDoorZGEx
import Derived.Test.YtncdjmpdbinanaaGreatDoorZGKj1
import Derived.Test.YtncdjmpdbinanaaGreatDoorZGNd
import Derived.Test.YtncdjmpdbinanaaGreatDoorZGJrn
namespace Go.Proofs.YtncdjmpdbinanaaGreatDoor
open Go.RowKit

/-- a node, messages, a place and a word are handed back -/
def RetAd (w : World) (B : Nat) (N : Nd) (ms : List Ms) (p er : Int) (e : Ending) (w' : World) : Prop :=
  ∃ a A n c pm, e = .returned (.tuple #[nodeV N a, .slice A n c, .int .i64 p, .int .i64 er]) ∧ NdOk w' B N a ∧ Mgs w' B A n pm ∧ pm.map Prod.fst = ms ∧ n ≤ c ∧ Below w.heap.size w w'
theorem zero_ok {w : World} {B : Nat} : NdOk w B zeroN ⟨⟨none, 0, 0⟩, ⟨none, 0, 0⟩, ⟨none, 0, 0⟩, ⟨none, 0, 0⟩⟩ :=
  ⟨Reads.none_, Nat.le_refl _, by dsimp only; omega, Reads.none_, Nat.le_refl _, by dsimp only; omega, by decide, Reads.none_, Nat.le_refl _, by dsimp only; omega, Reads.none_, Nat.le_refl _, by dsimp only; omega⟩
/-- what is asked of the arguments -/
def addG (N : Nd) (k : Int) (d : ByteArray) : Bool := rightN N && (decide (0 ≤ k) && (decide (k ≤ 2) && decide (d.size ≤ 8192)))
def addOk (N : Nd) (k : Int) (d : ByteArray) : Bool := addG N k d && (N.role == 2 && !(k == 2 && !(confC N d)))
theorem add_say (N : Nd) (k : Int) (d : ByteArray) :
    (addG N k d = false → addE N k d = 1) ∧ (addG N k d = true → ¬ N.role = 2 → addE N k d = 171) ∧ (addG N k d = true → N.role = 2 → k = 2 → confC N d = false → addE N k d = 160) ∧
    (addOk N k d = true → rightH (withH N.h ⟨N.h.t, k, d⟩) = false → addE N k d = 130) ∧ (addOk N k d = true → rightH (withH N.h ⟨N.h.t, k, d⟩) = true → addE N k d = 0) := by
  refine ⟨fun h => ?_, fun h h2 => ?_, fun h h2 h3 h4 => ?_, fun h h2 => ?_, fun h h2 => ?_⟩ <;> unfold addE
  · unfold addG at h; rw [h]; rfl
  · unfold addG at h; rw [h]; simp [h2]
  · unfold addG at h; rw [h]; simp [h2, h3, h4]
  · unfold addOk addG at h
    simp only [Bool.and_eq_true] at h
    obtain ⟨⟨a1, a2, a3, a4⟩, a5, a6⟩ := h
    rw [a1, a2, a3, a4, a5, h2]
    cases hc : (k == 2 && !(confC N d)) with
    | true => rw [hc] at a6; cases a6
    | false => rfl
  · unfold addOk addG at h
    simp only [Bool.and_eq_true] at h
    obtain ⟨⟨a1, a2, a3, a4⟩, a5, a6⟩ := h
    rw [a1, a2, a3, a4, a5, h2]
    cases hc : (k == 2 && !(confC N d)) with
    | true => rw [hc] at a6; cases a6
    | false => rfl
theorem add_bad {N : Nd} {k er : Int} {d : ByteArray} (h : addE N k d = er) (h0 : ¬ er = 0) : addN N k d = zeroN ∧ addL N k d = [] ∧ addAt N k d = 0 ∧ addE N k d = er := by
  unfold addN addL addAt
  rw [h]
  exact ⟨if_neg h0, if_neg h0, if_neg h0, rfl⟩
theorem add_good {N : Nd} {k : Int} {d : ByteArray} (h : addE N k d = 0) : addN N k d = sureN (addB N k d) ∧ addL N k d = allM (sureN (addB N k d)) ∧ addAt N k d = lastJ N.h.l + 1 ∧ addE N k d = 0 := by
  unfold addN addL addAt
  rw [if_pos h, if_pos h, if_pos h]
  exact ⟨rfl, rfl, rfl, h⟩
theorem add_conf {N : Nd} {d : ByteArray} (hr : rightN N = true) (hrole : N.role = 2) : confC N d = ((parseQ d.data.toList).isSome && (nextL (votersN N) ((parseQ d.data.toList).getD []) && (inL N.id ((parseQ d.data.toList).getD []) && (decide (saidN N ≤ N.commit) && ((termAtJ N.h.l N.commit).getD 0 == N.h.t))))) := by
  have ht := role_term hr (by omega)
  unfold confC termAtJ
  rw [if_pos (commit_term hr).1]
  cases parseQ d.data.toList with
  | none => rfl
  | some l =>
    have e : (termJ N.h.l N.commit == some N.h.t) = ((termJ N.h.l N.commit).getD 0 == N.h.t) := by
      cases termJ N.h.l N.commit with
      | none =>
        rw [Bool.eq_iff_iff]
        simp
        omega
      | some t => rw [Bool.eq_iff_iff]; simp
    rw [e]
    rfl
/-- the node with its record -/
theorem add_mid {N : Nd} {k : Int} {d : ByteArray} (hr : rightN N = true) (hH : rightH (withH N.h ⟨N.h.t, k, d⟩) = true) : rightN (hdN N (withH N.h ⟨N.h.t, k, d⟩)) = true ∧ lastJ (hdN N (withH N.h ⟨N.h.t, k, d⟩)).h.l = lastJ N.h.l + 1 := by
  have hp := right_parts hr
  have hcb := commit_bounds hr
  have hlast := with_last N.h ⟨N.h.t, k, d⟩
  have hc1 : inB N.commit N.h.l.base (lastJ (withH N.h ⟨N.h.t, k, d⟩).l) = true := by
    rw [hlast]; simp [inB]; omega
  refine ⟨right_of ⟨hp.1, hH, hp.2.2.1, hp.2.2.2.1, hp.2.2.2.2.1, hp.2.2.2.2.2.1, hp.2.2.2.2.2.2.1, hc1, hp.2.2.2.2.2.2.2.2.1, ?_⟩, hlast⟩
  show okPs N.id (lastJ (withH N.h ⟨N.h.t, k, d⟩).l) none N.ps = true
  rw [hlast]
  exact okPs_up (by omega) hp.2.2.2.2.2.2.2.2.2
/-- .. and with the peers of new voters -/
theorem add_base {N : Nd} {k : Int} {d : ByteArray} (h : addE N k d = 0) : rightN (addB N k d) = true ∧ lastJ (addB N k d).h.l = lastJ N.h.l + 1 := by
  obtain ⟨hr, hrole, hconf, hH⟩ := add_ok h
  have hcb := commit_bounds hr
  obtain ⟨h1, h2⟩ := add_mid hr hH
  unfold addB
  split
  · rename_i hk2
    simp only [beq_iff_eq] at hk2
    have hp := right_parts h1
    refine ⟨right_of ⟨hp.1, hp.2.1, hp.2.2.1, hp.2.2.2.1, hp.2.2.2.2.1, hp.2.2.2.2.2.1, hp.2.2.2.2.2.2.1, hp.2.2.2.2.2.2.2.1, hp.2.2.2.2.2.2.2.2.1, ?_⟩, h2⟩
    show okPs N.id (lastJ (hdN N (withH N.h ⟨N.h.t, k, d⟩)).h.l) none _ = true
    rw [h2]
    exact okPs_peers (conf_right (hconf hk2)) ⟨by omega, by omega⟩ (okPs_up (by omega) (right_parts hr).2.2.2.2.2.2.2.2.2)
  · exact ⟨h1, h2⟩
theorem nd_like {w : World} {B : Nat} {N N' : Nd} {a : NdA} (h : NdOk w B N a) (h1 : N'.h = N.h) (h2 : N'.got = N.got) (h3 : N'.ps = N.ps) : NdOk w B N' a :=
  ⟨by rw [h1]; exact h.recs, h.rc, h.rb, by rw [h1]; exact h.vs, h.vc, h.vb, by rw [h1]; exact h.sb, by rw [h2]; exact h.got, h.gc, h.gb, by rw [h3]; exact h.ps, h.pc, h.pb⟩
theorem peersF_len (vs : List Int) (s n : Int) (old : List Pr) : (peersF vs s n old).length ≤ vs.length := by
  unfold peersF
  rw [List.length_map]
  exact List.length_filter_le _ _
end Go.Proofs.YtncdjmpdbinanaaGreatDoor
namespace Go.Proofs.YtncdjmpdbinanaaGreatDoor

def cntP (p : Int → Bool) : List Int → Nat
  | [] => 0
  | x :: xs => (p x).toNat + cntP p xs
theorem cntL_eq (b : List Int) : ∀ a, cntL b a = cntP (fun x => inL x b) a
  | [] => rfl
  | x :: xs => by simp only [cntL, cntP, cntL_eq b xs]; cases inL x b <;> rfl
theorem inL_iff (x : Int) : ∀ l, inL x l = true ↔ x ∈ l
  | [] => by simp [inL]
  | y :: ys => by
    unfold inL
    by_cases h : x = y <;> simp [h, inL_iff x ys]
theorem inL_false {x : Int} {l : List Int} : inL x l = false ↔ x ∉ l := by
  rw [← inL_iff]; simp
theorem cntP_le (p : Int → Bool) : ∀ l, cntP p l ≤ l.length
  | [] => by simp [cntP]
  | x :: xs => by have := cntP_le p xs; unfold cntP; cases p x <;> simp <;> omega
theorem cntP_congr {p q : Int → Bool} : ∀ {l : List Int}, (∀ x ∈ l, p x = q x) → cntP p l = cntP q l
  | [], _ => rfl
  | x :: xs, h => by
    unfold cntP
    rw [h x (by simp), cntP_congr (l := xs) fun y hy => h y (by simp [hy])]
theorem cntP_add {p q r : Int → Bool} : ∀ {l : List Int}, (∀ x ∈ l, (p x).toNat + (q x).toNat ≤ (r x).toNat) → cntP p l + cntP q l ≤ cntP r l
  | [], _ => by simp [cntP]
  | x :: xs, h => by
    have h1 := h x (by simp)
    have h2 := cntP_add (l := xs) (p := p) (q := q) (r := r) fun y hy => h y (by simp [hy])
    unfold cntP
    omega
theorem cntP_split {p q r : Int → Bool} : ∀ {l : List Int}, (∀ x ∈ l, (p x).toNat ≤ (q x).toNat + (r x).toNat) → cntP p l ≤ cntP q l + cntP r l
  | [], _ => by simp [cntP]
  | x :: xs, h => by
    have h1 := h x (by simp)
    have h2 := cntP_split (l := xs) (p := p) (q := q) (r := r) fun y hy => h y (by simp [hy])
    unfold cntP
    omega
theorem cntP_not (p : Int → Bool) : ∀ l, cntP (fun x => !p x) l + cntP p l = l.length
  | [] => rfl
  | x :: xs => by
    have := cntP_not p xs
    simp only [cntP, List.length_cons]
    cases p x <;> simp <;> omega

/-- no member twice -/
def ones : List Int → Prop
  | [] => True
  | x :: xs => x ∉ xs ∧ ones xs
theorem cnt_one {p : Int → Bool} {x : Int} {xs : List Int} (hx : x ∉ xs) : ∀ {ys : List Int}, ones ys → cntP (fun y => p y && inL y (x :: xs)) ys = (p x && inL x ys).toNat + cntP (fun y => p y && inL y xs) ys
  | [], _ => by simp [cntP, inL]
  | y :: ys, h => by
    have ih := cnt_one (p := p) hx (ys := ys) h.2
    simp only [cntP]
    rw [ih]
    by_cases e : y = x
    · subst e
      have h1 : inL y ys = false := inL_false.2 h.1
      have h2 : inL y xs = false := inL_false.2 hx
      simp [inL, h1, h2]
    · have e' : ¬ x = y := fun h => e h.symm
      have a1 : inL y (x :: xs) = inL y xs := by simp [inL, e]
      have a2 : inL x (y :: ys) = inL x ys := by simp [inL, e']
      rw [a1, a2]
      omega
theorem cnt_symm (p : Int → Bool) : ∀ {xs ys : List Int}, ones xs → ones ys → cntP (fun x => p x && inL x ys) xs = cntP (fun y => p y && inL y xs) ys
  | [], ys, _, _ => by
    simp only [cntP]
    have : ∀ l : List Int, cntP (fun y => p y && inL y []) l = 0 := by
      intro l
      induction l with
      | nil => rfl
      | cons y l ih => simp only [cntP, ih]; simp [inL]
    rw [this]
  | x :: xs, ys, h, h' => by
    rw [cnt_one h.1 h']
    simp only [cntP]
    rw [cnt_symm p h.2 h']
theorem asc_lt : ∀ {l : List Int} {u : Int}, ascL (some u) l = true → ∀ x ∈ l, u < x
  | [], _, _ => by simp
  | v :: vs, u, h => by
    unfold ascL at h
    split at h
    · cases h
    · intro x hx
      have hv : u < v := by omega
      rcases List.mem_cons.1 hx with rfl | hx
      · exact hv
      · exact Int.lt_trans hv (asc_lt h x hx)
theorem asc_ones' : ∀ {l : List Int} {u : Int}, ascL (some u) l = true → ones l
  | [], _, _ => trivial
  | v :: vs, u, h => by
    unfold ascL at h
    split at h
    · cases h
    · exact ⟨fun hm => Int.lt_irrefl v (asc_lt h v hm), asc_ones' h⟩
theorem asc_ones {l : List Int} (h : ascL none l = true) : ones l := by
  cases l with
  | nil => trivial
  | cons v vs =>
    unfold ascL at h
    split at h
    · cases h
    · exact ⟨fun hm => Int.lt_irrefl v (asc_lt h v hm), asc_ones' h⟩
theorem right_ones {l : List Int} (h : rightL l = true) : ones l := by
  unfold rightL at h
  simp only [Bool.and_eq_true] at h
  exact asc_ones h.1
theorem cntL_symm {xs ys : List Int} (h : ones xs) (h' : ones ys) : cntL ys xs = cntL xs ys := by
  have := cnt_symm (fun _ => true) h h'
  simpa [cntL_eq] using this

/-- quorum.Next's reckoning is the reference's. -/
theorem next_eq (xs ys : List Int) : (rightL xs && rightL ys && decide ((xs.length : Int) - cntL ys xs + ys.length - cntL ys xs = 1)) = nextL xs ys := by
  unfold nextL
  cases hx : rightL xs
  · simp
  cases hy : rightL ys
  · simp
  have hs := cntL_symm (right_ones hx) (right_ones hy)
  have h1 := cnt_le ys xs
  have h2 := cnt_le xs ys
  rw [Bool.true_and, Bool.eq_iff_iff]
  simp only [Bool.true_and, decide_eq_true_eq]
  omega

/-- two majorities meet -/
theorem majorities_meet {V N a b : List Int} (hV : ones V) (hN : ones N) (hd : (V.length - cntL N V) + (N.length - cntL V N) ≤ 1) (ha : V.length < 2 * cntL a V) (hb : N.length < 2 * cntL b N) :
    ∃ v, v ∈ V ∧ v ∈ a ∧ v ∈ b := by
  apply Classical.byContradiction
  intro hno
  have hno' : ∀ v ∈ V, inL v a = true → inL v b = true → False := fun v hv h1 h2 => hno ⟨v, hv, (inL_iff _ _).1 h1, (inL_iff _ _).1 h2⟩
  rw [cntL_eq] at ha hb hd
  rw [cntL_eq] at hd
  have s0 := cnt_symm (fun _ => true) hV hN
  simp only [Bool.true_and] at s0
  have s1 := cnt_symm (fun v => inL v b) hV hN
  have l1 := cntP_le (fun v => inL v N) V
  have l2 := cntP_le (fun v => inL v V) N
  have n1 := cntP_not (fun v => inL v N) V
  have n2 := cntP_not (fun v => inL v V) N
  have d1 : cntP (fun v => inL v a) V ≤ cntP (fun v => inL v a && inL v N) V + cntP (fun v => !inL v N) V :=
    cntP_split fun x _ => by cases inL x a <;> cases inL x N <;> simp
  have d2 : cntP (fun v => inL v b) N ≤ cntP (fun v => inL v b && inL v V) N + cntP (fun v => !inL v V) N :=
    cntP_split fun x _ => by cases inL x b <;> cases inL x V <;> simp
  have d3 : cntP (fun v => inL v a && inL v N) V + cntP (fun v => inL v b && inL v N) V ≤ cntP (fun v => inL v N) V :=
    cntP_add fun x hx => by
      have := hno' x hx
      cases h1 : inL x a <;> cases h2 : inL x b <;> cases h3 : inL x N <;> simp_all
  omega
end Go.Proofs.YtncdjmpdbinanaaGreatDoor
namespace Go.Proofs.YtncdjmpdbinanaaGreatDoor
open Go.RowKit

theorem Bxs.ownR {w w' : World} {base B e size n : Nat} {v : Value} {xs : List Value} {l : List Bx} (hB : Bxs B w l) (h : w.ownsRow base e size v n xs) (hl : ∀ b ∈ l, b.t ≠ e) (hg : w.grownBy w' v.ownBlock) : Bxs B w' l :=
  hB.grown hg (fun b hb => own_ne h (hB.1 b hb).1 (fun x => hl b hb x.symm))
theorem idxP_fnd (fr : Int) : ∀ (ps : List Pr) (j : Nat), (∃ (k : Nat) (p : Pr), idxP fr j ps = ((j + k : Nat) : Int) ∧ ps[k]? = some p ∧ findP fr ps = some p) ∨ (idxP fr j ps = -1 ∧ findP fr ps = none)
  | [], j => .inr ⟨rfl, rfl⟩
  | p :: ps, j => by
    by_cases h : p.id = fr
    · refine .inl ⟨0, p, ?_, rfl, ?_⟩
      · rw [idxP, if_pos h]; rfl
      · rw [findP, if_pos h]
    · rw [idxP, findP, if_neg h, if_neg h]
      rcases idxP_fnd fr ps (j + 1) with ⟨k, q, h1, h2, h3⟩ | ⟨h1, h2⟩
      · exact .inl ⟨k + 1, q, by rw [h1]; omega, by simpa using h2, h3⟩
      · exact .inr ⟨h1, h2⟩
theorem drop_get {α : Type} {l : List α} {k : Nat} {x p : α} (h : l.drop k = x :: l.drop (k + 1)) (hp : l[k]? = some p) : x = p := by
  have h1 : (l.drop k)[0]? = some x := by rw [h]; rfl
  rw [List.getElem?_drop, Nat.add_zero, hp] at h1
  injection h1 with h1
  exact h1.symm
end Go.Proofs.YtncdjmpdbinanaaGreatDoor
