/-
  WHAT IS PROVED HERE: what the law's small and alive hand back. Conditions: the slices are of at most 2^47 elements; the library's table stands.
  WHAT IS PROVED HERE: what a node has granted in its term stays true of what was written down of it: plain, no program. No condition.
  WHAT IS PROVED HERE: a small node that may be still may be with a higher term and another vote; behind all that it is asked: plain, no program. No condition.
  WHAT IS PROVED HERE: what a node sends may be sent; what stays: plain, no program. No condition.
-/
import Derived.Test.YtncdjmpdbinanaaGreatDoorZGEl1
import Derived.Test.YtncdjmpdbinanaaGreatDoorZGVt
import Derived.Test.YtncdjmpdbinanaaGreatDoorZGTab
import Derived.Test.YtncdjmpdbinanaaGreatDoorZGCn0
import Derived.Test.YtncdjmpdbinanaaGreatDoorZGStd
namespace Go.Proofs.YtncdjmpdbinanaaGreatDoor
open Go.RowKit

def smallK : Int → Nat → List Rec → Option Int
  | c, _, [] => some c
  | c, i, r :: rs => if 30000 < wrap64 (c + r.d.size) ∨ 300 < i then none else smallK (wrap64 (c + r.d.size)) (i + 1) rs
def smallE (o : Option Int) (n : Nat) : Bool := match o with | none => false | some c => decide (c ≤ 30000) && decide (n ≤ 300)
def smallB (N : Nd) (M : Ms) : Bool := smallE (smallK N.h.s.size 0 N.h.l.rs) M.rs.length
def liveN : Nd := ⟨1, ⟨0, 0, ⟨0, 0, []⟩, ⟨#[]⟩, [1]⟩, 0, 0, 0, 0, [], []⟩
theorem live_right : rightN liveN = true := by
  have h0 := num_len (n := 0) (by omega) (by omega)
  have h1 := num_len (n := 1) (by omega) (by omega)
  have ht := itoa_len (n := (0 : Int)) (by omega) (k := 9) (by omega)
  have hl : (encH liveN.h).length ≤ 131072 := by
    have e : (txtN (⟨#[]⟩ : ByteArray)).enc.length ≤ 11 := by
      show (Lib.itoa ((⟨#[]⟩ : ByteArray).size : Int) ++ [58]).length ≤ 11
      rw [List.length_append]
      exact Nat.succ_le_succ ht
    have e2 : (votEnc [1]).length ≤ 14 := by
      unfold votEnc votN encN
      simp only [List.map_cons, List.map_nil, List.flatMap_cons, List.flatMap_nil, List.length_append, List.length_cons, List.length_nil]
      omega
    have e3 : (recsEnc []).length = 2 := rfl
    unfold encH liveN
    simp only [List.length_append, List.length_cons, List.length_nil]
    omega
  unfold rightN rightH
  rw [show decide ((encH liveN.h).length ≤ 131072) = true from by simpa using hl]
  rfl
end Go.Proofs.YtncdjmpdbinanaaGreatDoor
namespace Go.Proofs.YtncdjmpdbinanaaGreatDoor
open Go.RowKit

/-- what is written down: no term ahead of the node's; in its own term, whom it voted for -/
def InvO (f : Int → Option Value) (N : Nd) : Prop := ∀ t v, f t = some v → ∃ vt : Int, v = .int .i64 vt ∧ vt ≠ 0 ∧ t ≤ N.h.t ∧ (t = N.h.t → N.h.v = vt)
theorem inv_none (N : Nd) : InvO (fun _ => none) N := fun _ _ h => by cases h
theorem inv_later {f : Int → Option Value} {N : Nd} (h : InvO f N) (term : Int) : InvO f (laterN N term) := by
  unfold laterN
  cases hc : laterC N term with
  | false => exact h
  | true =>
    have ht : N.h.t < term := by
      unfold laterC at hc
      simp only [Bool.and_eq_true, decide_eq_true_eq] at hc
      exact hc.2.1
    intro t v hv
    obtain ⟨vt, h1, h2, h3, h4⟩ := h t v hv
    refine ⟨vt, h1, h2, ?_, ?_⟩
    · show t ≤ term
      omega
    · show t = term → _
      omega
theorem later_id (N : Nd) (term : Int) : (laterN N term).id = N.id := by unfold laterN; split <;> rfl
theorem vote_bounds {N : Nd} {M : Ms} (hp : voteP N M = true) (hg : voteG N M = true) : 1 ≤ N.h.t ∧ N.h.t ≤ 1073741824 ∧ 1 ≤ M.fr ∧ M.fr ≤ 9 := by
  unfold voteP mayM inB at hp
  unfold voteG at hg
  simp only [Bool.and_eq_true, decide_eq_true_eq, beq_iff_eq] at hp hg
  omega
theorem vote_noconf {f : Int → Option Value} {N : Nd} {M : Ms} (h : InvO f N) (hg : voteG N M = true) : f N.h.t = none ∨ f N.h.t = some (.int .i64 M.fr) := by
  cases hf : f N.h.t with
  | none => exact .inl rfl
  | some v =>
    obtain ⟨vt, rfl, h2, _, h4⟩ := h _ _ hf
    have h5 := h4 rfl
    unfold voteG at hg
    simp only [Bool.and_eq_true, Bool.or_eq_true, beq_iff_eq] at hg
    right
    rw [show M.fr = vt from by omega]
theorem vote_step {f : Int → Option Value} {N : Nd} {M : Ms} {d : Int} (h : InvO f N) (hp : voteP N M = true) (hg : voteG N M = true) : InvO (updI f N.h.t (.int .i64 M.fr)) (voteN N M d) := by
  have hb := vote_bounds hp hg
  unfold voteN
  rw [hp, hg]
  intro t v hv
  unfold updI at hv
  by_cases ht : t = N.h.t
  · rw [if_pos ht] at hv
    cases hv
    exact ⟨M.fr, rfl, by omega, by show t ≤ N.h.t; omega, fun _ => rfl⟩
  · rw [if_neg ht] at hv
    obtain ⟨vt, h1, h2, h3, _⟩ := h t v hv
    exact ⟨vt, h1, h2, h3, fun e => absurd e ht⟩
theorem vote_step0 {f : Int → Option Value} {N : Nd} {M : Ms} {d : Int} (h : InvO f N) (hn : (voteP N M && voteG N M) = false) : InvO f (voteN N M d) := by
  unfold voteN
  rw [hn]
  exact h
theorem voteL_no {N : Nd} {M : Ms} (h : voteP N M = false) : voteL N M = [] := by unfold voteL; rw [h]; rfl
theorem voteL_yes {N : Nd} {M : Ms} (h : voteP N M = true) : voteL N M = [⟨2, N.id, M.fr, N.h.t, voteG N M, 0, 0, [], 0, ⟨#[]⟩, []⟩] := by unfold voteL; rw [h]; rfl
/-- what is not the message that is voted on -/
theorem voteP_no {N N' : Nd} {M : Ms} (hid : N'.id = N.id) (h : mayM M = false ∨ (M.kind == 1) = false ∨ (M.to == N.id) = false) : voteP N' M = false := by
  unfold voteP
  rw [hid]
  rcases h with h | h | h <;> simp [h]
end Go.Proofs.YtncdjmpdbinanaaGreatDoor
namespace Go.Proofs.YtncdjmpdbinanaaGreatDoor
open Go.RowKit

def sumR (rs : List Rec) : Nat := (rs.map (fun r => r.d.size)).sum
theorem smallK_sum : ∀ (rs : List Rec) (i c : Nat) (c' : Int), c ≤ 1125899906842624 → (∀ r ∈ rs, r.d.size ≤ 8192) → smallK (c : Int) i rs = some c' → c' ≤ 30000 → c + sumR rs ≤ 30000
  | [], _, c, c', _, _, h, h2 => by
    rw [smallK] at h
    injection h with h
    simp [sumR]
    omega
  | r :: rs, i, c, c', hc, hr, h, h2 => by
    rw [smallK] at h
    have h8 := hr r (.head _)
    have hw : wrap64 ((c : Int) + (r.d.size : Int)) = ((c + r.d.size : Nat) : Int) := by
      rw [show ((c + r.d.size : Nat) : Int) = (c : Int) + (r.d.size : Int) from by omega]
      exact IntWalk.wrap64_in _ (by omega)
    rw [hw] at h
    split at h
    · cases h
    · rename_i hn
      have ih := smallK_sum rs (i + 1) (c + r.d.size) c' (by omega) (fun x hx => hr x (.tail _ hx)) h h2
      simp only [sumR, List.map_cons, List.sum_cons] at ih ⊢
      omega
theorem okT_sizes {T : Int} : ∀ (rs : List Rec) (term : Int), okT T term rs = true → ∀ r ∈ rs, r.d.size ≤ 8192 ∧ term ≤ r.t ∧ r.t ≤ T ∧ 0 ≤ r.k ∧ r.k ≤ 2
  | [], _, _, r, h => by cases h
  | r :: rs, term, h, x, hx => by
    rw [okT] at h
    split at h
    · rename_i hc
      simp only [inB, Bool.and_eq_true, decide_eq_true_eq] at hc
      rcases List.mem_cons.1 hx with rfl | hx
      · exact ⟨hc.2, hc.1.1.1, hc.1.1.2, hc.1.2.1, hc.1.2.2⟩
      · have := okT_sizes rs r.t h x hx
        exact ⟨this.1, by omega, this.2.2.1, this.2.2.2⟩
    · cases h
theorem okT_up {T T' : Int} (hT : T ≤ T') : ∀ (rs : List Rec) (term : Int), okT T term rs = true → okT T' term rs = true
  | [], _, _ => rfl
  | r :: rs, term, h => by
    rw [okT] at h ⊢
    split at h
    · rename_i hc
      simp only [inB, Bool.and_eq_true, decide_eq_true_eq] at hc
      rw [if_pos (by simp only [inB, Bool.and_eq_true, decide_eq_true_eq]; exact ⟨⟨⟨hc.1.1.1, by omega⟩, hc.1.2⟩, hc.2⟩)]
      exact okT_up hT rs r.t h
    · cases h
theorem rec_len2 {r : Rec} (h1 : 0 ≤ r.t ∧ r.t ≤ 1073741824) (h2 : 0 ≤ r.k ∧ r.k ≤ 1073741824) (h3 : r.d.size ≤ 131072) : (recEnc r).length ≤ 44 + r.d.size := by
  have a := num_len h1.1 h1.2
  have b := num_len h2.1 h2.2
  have c := itoa_len (n := r.d.size) (by omega) (k := 9) (by omega)
  have e : r.d.data.toList.length = r.d.size := rfl
  unfold recEnc encN
  simp only [List.flatMap_cons, List.flatMap_nil, List.length_append, List.length_cons, List.length_nil, txtN, e]
  omega
theorem recs_len2 : ∀ rs : List Rec, (∀ r ∈ rs, (0 ≤ r.t ∧ r.t ≤ 1073741824) ∧ (0 ≤ r.k ∧ r.k ≤ 1073741824) ∧ r.d.size ≤ 131072) → (rs.flatMap recEnc).length ≤ 44 * rs.length + sumR rs
  | [], _ => by simp [sumR]
  | r :: rs, h => by
    obtain ⟨a1, a2, a3⟩ := h r (.head _)
    have a := rec_len2 a1 a2 a3
    have b := recs_len2 rs (fun x hx => h x (.tail _ hx))
    rw [List.flatMap_cons, List.length_append, List.length_cons]
    simp only [sumR, List.map_cons, List.sum_cons] at b ⊢
    omega
/-- a small node that may be still may be with a higher term and another vote -/
theorem right_change {N : Nd} {M : Ms} (hr : rightN N = true) (hs : smallB N M = true) {t v : Int} (ht : N.h.t ≤ t) (ht2 : t ≤ 1073741824) (hv : 0 ≤ v ∧ v ≤ 9) : rightH ⟨t, v, N.h.l, N.h.s, N.h.vs⟩ = true := by
  have h1 := hr
  unfold rightN at h1
  simp only [Bool.and_eq_true] at h1
  have hvs : rightL N.h.vs = true := h1.2.2.1
  have hsh := right_shaped h1.2.1
  have hb := shaped_bounds hsh
  unfold shapedH logT at hsh
  simp only [Bool.and_eq_true, decide_eq_true_eq] at hsh
  obtain ⟨⟨_, _⟩, ⟨⟨⟨⟨⟨⟨⟨hl1, hl2⟩, hl3⟩, hl4⟩, hl5⟩, hl6⟩, hvv⟩, hss⟩⟩ := hsh
  simp only [inB, Bool.and_eq_true, decide_eq_true_eq] at hl1 hl2
  have hsz := okT_sizes _ _ hl6
  have hsum : N.h.s.size + sumR N.h.l.rs ≤ 30000 := by
    unfold smallB smallE at hs
    cases hk : smallK (N.h.s.size : Int) 0 N.h.l.rs with
    | none => rw [hk] at hs; cases hs
    | some c' =>
      rw [hk] at hs
      simp only [Bool.and_eq_true, decide_eq_true_eq] at hs
      exact smallK_sum _ 0 _ c' (by omega) (fun r hr => (hsz r hr).1) hk hs.1
  have hdg := right_digits hvs
  have hln := right_len hvs
  have e1 := num_len (n := t) (by omega) ht2
  have e2 := num_len (n := v) hv.1 (by omega)
  have e3 := num_len hl1.1 (by omega)
  have e4 := num_len hl2.1 (by omega)
  have e5 := itoa_len (n := N.h.s.size) (by omega) (k := 9) (by omega)
  have e6 := vots_len N.h.vs hdg
  have e7 := recs_len2 N.h.l.rs (fun r hr => by
    have := hsz r hr
    exact ⟨⟨by omega, by omega⟩, ⟨this.2.2.2.1, by omega⟩, by omega⟩)
  have e8 : N.h.s.data.toList.length = N.h.s.size := rfl
  unfold rightH
  rw [Bool.and_eq_true, decide_eq_true_eq]
  constructor
  · unfold shapedH logT
    simp only [Bool.and_eq_true, decide_eq_true_eq]
    refine ⟨⟨by simp [inB]; omega, by simp [inB]; omega⟩, ⟨⟨⟨⟨⟨⟨by simp [inB]; omega, by simp [inB]; omega⟩, hl3⟩, hl4⟩, hl5⟩, okT_up ht _ _ hl6⟩, hvv⟩, hss⟩
  · unfold encH votEnc recsEnc txtN
    simp only [List.length_cons, List.length_append, List.length_nil, e8]
    omega
theorem right_parts {N : Nd} (h : rightN N = true) : inB N.id 1 9 = true ∧ rightH N.h = true ∧ rightL N.h.vs = true ∧ inB N.role 0 2 = true ∧ (!(decide (0 < N.role) && N.h.t == 0)) = true ∧ inB N.lead 0 9 = true ∧ inB N.timer 0 1048576 = true ∧ inB N.commit N.h.l.base (lastJ N.h.l) = true ∧ ascL none N.got = true ∧ okPs N.id (lastJ N.h.l) none N.ps = true := by
  unfold rightN at h
  simp only [Bool.and_eq_true] at h
  exact h
theorem right_of {N : Nd} (h : inB N.id 1 9 = true ∧ rightH N.h = true ∧ rightL N.h.vs = true ∧ inB N.role 0 2 = true ∧ (!(decide (0 < N.role) && N.h.t == 0)) = true ∧ inB N.lead 0 9 = true ∧ inB N.timer 0 1048576 = true ∧ inB N.commit N.h.l.base (lastJ N.h.l) = true ∧ ascL none N.got = true ∧ okPs N.id (lastJ N.h.l) none N.ps = true) : rightN N = true := by
  unfold rightN
  simp only [Bool.and_eq_true]
  exact h
theorem keep_later {N : Nd} {M : Ms} (hr : rightN N = true) (hs : smallB N M = true) (term : Int) : rightN (laterN N term) = true := by
  unfold laterN
  cases hc : laterC N term with
  | false => exact hr
  | true =>
    unfold laterC at hc
    simp only [Bool.and_eq_true, decide_eq_true_eq] at hc
    obtain ⟨a1, _, a3, _, _, _, a7, a8, _, _⟩ := right_parts hr
    exact right_of ⟨a1, right_change hr hs (by omega) hc.2.2 (by omega), a3, rfl, rfl, rfl, a7, a8, rfl, rfl⟩
theorem clamp_in (d : Int) : inB (min (max d 0) 1048576) 0 1048576 = true := by simp [inB]; omega
theorem keep_stand {N : Nd} {M : Ms} (hr : rightN N = true) (hs : smallB N M = true) (d : Int) : rightN (standN N d) = true := by
  unfold standN
  rw [hr]
  cases hc : standC N with
  | false => exact tim_right d hr
  | true =>
    unfold standC at hc
    simp only [Bool.and_eq_true, decide_eq_true_eq] at hc
    have hn := right_n hr
    obtain ⟨a1, _, a3, _, _, _, _, a8, _, _⟩ := right_parts hr
    refine right_of ⟨a1, right_change hr hs (by omega) (by omega) ⟨by omega, hn.2.2.2.2.2⟩, a3, rfl, ?_, rfl, clamp_in d, a8, ?_, rfl⟩
    · show (!(decide ((0 : Int) < 1) && (N.h.t + 1 == 0))) = true
      have : (N.h.t + 1 == 0) = false := by simp; omega
      rw [this]
      rfl
    · show ascL none [N.id] = true
      rw [ascL, if_neg (by omega)]
      rfl
theorem keep_vote {N : Nd} {M M' : Ms} (hr : rightN N = true) (hs : smallB N M' = true) (d : Int) : rightN (voteN N M d) = true := by
  unfold voteN
  cases hc : voteP N M && voteG N M with
  | false => exact hr
  | true =>
    rw [Bool.and_eq_true] at hc
    have hb := vote_bounds hc.1 hc.2
    obtain ⟨a1, _, a3, a4, a5, a6, _, a8, a9, a10⟩ := right_parts hr
    exact right_of ⟨a1, right_change hr hs (by omega) (by omega) (by omega), a3, a4, a5, a6, clamp_in d, a8, a9, a10⟩
theorem asc_of : ∀ (l : List Int) (u : Int), 0 ≤ u → (∀ v ∈ l, u < v ∧ v ≤ 9) → l.Pairwise (· < ·) → ascL (some u) l = true
  | [], _, _, _, _ => rfl
  | v :: l, u, h0, h, hp => by
    have hv := h v (.head _)
    rw [ascL, if_neg (by omega)]
    rw [List.pairwise_cons] at hp
    exact asc_of l v (by omega) (fun z hz => ⟨hp.1 z hz, (h z (.tail _ hz)).2⟩) hp.2
theorem asc_of0 {l : List Int} (h : ∀ v ∈ l, 1 ≤ v ∧ v ≤ 9) (hp : l.Pairwise (· < ·)) : ascL none l = true := by
  cases l with
  | nil => rfl
  | cons v l =>
    have hv := h v (.head _)
    rw [ascL, if_neg (by omega)]
    rw [List.pairwise_cons] at hp
    exact asc_of l v (by omega) (fun z hz => ⟨hp.1 z hz, (h z (.tail _ hz)).2⟩) hp.2
theorem asc_bounds {l : List Int} (h : ascL none l = true) : ∀ v ∈ l, 1 ≤ v ∧ v ≤ 9 := by
  cases l with
  | nil => simp
  | cons v l =>
    rw [ascL] at h
    by_cases hc : v < 1 ∨ 9 < v
    · rw [if_pos hc] at h; cases h
    rw [if_neg hc] at h
    have := asc_some l v (by omega) (by omega) h
    intro z hz
    rcases List.mem_cons.1 hz with rfl | hz
    · omega
    · have := this.2.1 z hz; omega
/-- of a rising list: what is less stands ahead -/
theorem pos_split {x : Int} : ∀ (l : List Int), l.Pairwise (· < ·) → ¬ x ∈ l → (∀ v ∈ l.take (posL x l), v < x) ∧ (∀ v ∈ l.drop (posL x l), x < v)
  | [], _, _ => ⟨by simp, by simp⟩
  | v :: l, hp, hx => by
    rw [List.pairwise_cons] at hp
    have hne : v ≠ x := fun e => hx (by rw [e]; exact .head _)
    by_cases hv : v < x
    · have ih := pos_split l hp.2 (fun h => hx (.tail _ h))
      have e : posL x (v :: l) = posL x l + 1 := by unfold posL; rw [List.countP_cons_of_pos (by simpa using hv)]
      rw [e, List.take_succ_cons, List.drop_succ_cons]
      refine ⟨fun z hz => ?_, ih.2⟩
      rcases List.mem_cons.1 hz with rfl | hz
      · exact hv
      · exact ih.1 z hz
    · have e : posL x (v :: l) = 0 := by
        unfold posL
        rw [List.countP_eq_zero]
        intro z hz
        rcases List.mem_cons.1 hz with rfl | hz
        · simpa using hv
        · have := hp.1 z hz
          simp
          omega
      rw [e]
      refine ⟨by simp, fun z hz => ?_⟩
      rcases List.mem_cons.1 hz with rfl | hz
      · omega
      · have := hp.1 z hz; omega
theorem got_asc {g : List Int} {x : Int} (h : ascL none g = true) (hx : 1 ≤ x ∧ x ≤ 9) : ascL none (gotM g x) = true := by
  unfold gotM
  cases hc : g.contains x with
  | true => exact h
  | false =>
    have hp := (asc_none h).1
    have hb := asc_bounds h
    have hnx : ¬ x ∈ g := by simpa using hc
    obtain ⟨s1, s2⟩ := pos_split g hp hnx
    have hpp : (g.take (posL x g) ++ g.drop (posL x g)).Pairwise (· < ·) := by rw [List.take_append_drop]; exact hp
    rw [List.pairwise_append] at hpp
    refine asc_of0 (fun v hv => ?_) ?_
    · simp only [Bool.false_eq_true, if_false, List.mem_append, List.mem_cons] at hv
      rcases hv with hv | rfl | hv
      · exact hb v (List.mem_of_mem_take hv)
      · exact hx
      · exact hb v (List.mem_of_mem_drop hv)
    · simp only [Bool.false_eq_true, if_false]
      rw [List.pairwise_append]
      refine ⟨hpp.1, ?_, fun a ha b hb' => ?_⟩
      · rw [List.pairwise_cons]
        exact ⟨s2, hpp.2.1⟩
      · rcases List.mem_cons.1 hb' with rfl | hb'
        · exact s1 a ha
        · exact hpp.2.2 a ha b hb'
theorem keep_count {N : Nd} {M : Ms} (hr : rightN N = true) : rightN (countN N M) = true := by
  unfold countN
  cases hc : countC N M with
  | false => exact hr
  | true =>
    have hb : 1 ≤ M.fr ∧ M.fr ≤ 9 := by
      unfold countC mayM inB at hc
      simp only [Bool.and_eq_true, decide_eq_true_eq] at hc
      omega
    obtain ⟨a1, a2, a3, a4, a5, a6, a7, a8, a9, a10⟩ := right_parts hr
    exact right_of ⟨a1, a2, a3, a4, a5, a6, a7, a8, got_asc a9 hb, a10⟩
end Go.Proofs.YtncdjmpdbinanaaGreatDoor
namespace Go.Proofs.YtncdjmpdbinanaaGreatDoor
open Go.RowKit

theorem okT_last {T : Int} : ∀ (rs : List Rec) (term : Int) (r : Rec), okT T term rs = true → r ∈ rs → r.t ≤ T := fun rs term r h hr => (okT_sizes rs term h r hr).2.2.1
theorem term_last {N : Nd} (hr : rightN N = true) : 0 ≤ (termJ N.h.l (lastJ N.h.l)).getD 0 ∧ (termJ N.h.l (lastJ N.h.l)).getD 0 ≤ N.h.t ∧ 0 ≤ lastJ N.h.l ∧ lastJ N.h.l ≤ 1073741824 := by
  have h1 := right_parts hr
  have hsh := right_shaped h1.2.1
  have hb := shaped_bounds hsh
  have hj := right_bounds (shaped_J hsh)
  unfold shapedH logT at hsh
  simp only [Bool.and_eq_true, decide_eq_true_eq] at hsh
  obtain ⟨⟨_, _⟩, ⟨⟨⟨⟨⟨⟨⟨hl1, hl2⟩, hl3⟩, hl4⟩, hl5⟩, hl6⟩, hvv⟩, hss⟩⟩ := hsh
  simp only [inB, Bool.and_eq_true, decide_eq_true_eq] at hl1 hl2
  have hla : 0 ≤ lastJ N.h.l ∧ lastJ N.h.l ≤ 1073741824 := by unfold lastJ; omega
  refine ⟨?_, ?_, hla⟩
  · unfold termJ
    split
    · simp; omega
    · split
      · cases hq : N.h.l.rs[(lastJ N.h.l - N.h.l.base - 1).toNat]? with
        | none => simp
        | some r =>
          have := okT_sizes _ _ hl6 r (List.mem_of_getElem? hq)
          simp
          omega
      · simp
  · unfold termJ
    split
    · simp; omega
    · split
      · cases hq : N.h.l.rs[(lastJ N.h.l - N.h.l.base - 1).toNat]? with
        | none => simp; omega
        | some r =>
          have := okT_sizes _ _ hl6 r (List.mem_of_getElem? hq)
          simp
          omega
      · simp; omega
theorem ask_may {N : Nd} (hr : rightN N = true) {x : Ms} (hx : x ∈ standL N) : mayM x = true ∧ x.fr = N.id := by
  unfold standL at hx
  cases hc : standC N with
  | false => rw [hc] at hx; cases hx
  | true =>
    rw [hc] at hx
    unfold standC at hc
    simp only [Bool.and_eq_true, decide_eq_true_eq] at hc
    unfold asks at hx
    obtain ⟨v, hv, rfl⟩ := List.mem_map.1 hx
    rw [List.mem_filter] at hv
    have hn := right_n hr
    have ht := term_last hr
    have hvo := right_digits (of_right N.h.l.base N.h.l.rs hn.2.1) v hv.1
    have hne : ¬ v = N.id := by simpa using hv.2
    refine ⟨?_, rfl⟩
    unfold mayM askM formM bodyM inB
    simp only [Bool.and_eq_true, decide_eq_true_eq, Bool.not_eq_true', beq_eq_false_iff_ne, ne_eq]
    refine ⟨⟨by omega, by omega⟩, ⟨by omega, by omega⟩, ⟨by omega, by omega⟩, fun e => hne e.symm, ⟨by omega, by omega⟩, ⟨by omega, by omega⟩, ⟨by omega, by omega⟩, ⟨by omega, by omega⟩, ?_, ?_⟩
    · simp [ByteArray.size]
    · simp
theorem reply_may {N : Nd} {M : Ms} (hr : rightN N = true) {x : Ms} (hx : x ∈ voteL N M) : mayM x = true ∧ x.fr = N.id := by
  unfold voteL at hx
  cases hc : voteP N M with
  | false => rw [hc] at hx; cases hx
  | true =>
    rw [hc] at hx
    simp only [if_true, List.mem_singleton] at hx
    subst hx
    have hn := right_n hr
    unfold voteP mayM inB at hc
    simp only [Bool.and_eq_true, decide_eq_true_eq, Bool.not_eq_true', beq_eq_false_iff_ne, ne_eq, beq_iff_eq] at hc
    refine ⟨?_, rfl⟩
    unfold mayM formM bodyM inB
    simp only [Bool.and_eq_true, decide_eq_true_eq, Bool.not_eq_true', beq_eq_false_iff_ne, ne_eq]
    refine ⟨⟨by omega, by omega⟩, ⟨by omega, by omega⟩, ⟨by omega, by omega⟩, by omega, ⟨by omega, by omega⟩, ⟨by omega, by omega⟩, ⟨by omega, by omega⟩, ⟨by omega, by omega⟩, ?_, ?_⟩
    · simp [ByteArray.size]
    · simp
theorem stand_len {N : Nd} (hr : rightN N = true) : (standL N).length ≤ 7 := by
  unfold standL
  split
  · have h1 := asks_len N.id (N.h.t + 1) (lastJ N.h.l) ((termJ N.h.l (lastJ N.h.l)).getD 0) (votersN N)
    have h2 := (right_len (of_right N.h.l.base N.h.l.rs (right_n hr).2.1)).2
    exact Nat.le_trans h1 h2
  · simp
theorem vote_len (N : Nd) (M : Ms) : (voteL N M).length ≤ 1 := by
  unfold voteL
  split <;> simp
/-- what stays of a node -/
def Stays (N N' : Nd) : Prop := rightN N' = true ∧ N'.id = N.id ∧ N'.commit = N.commit ∧ N.h.t ≤ N'.h.t ∧ N'.h.l.rs.length = N.h.l.rs.length ∧ (N'.h.t = N.h.t → N.h.v ≠ 0 → N'.h.v = N.h.v)
theorem stays_later {N : Nd} {M : Ms} (hr : rightN N = true) (hs : smallB N M = true) (term : Int) : Stays N (laterN N term) := by
  refine ⟨keep_later hr hs term, later_id N term, ?_⟩
  unfold laterN
  cases hc : laterC N term with
  | false => exact ⟨rfl, Int.le_refl _, rfl, fun _ _ => rfl⟩
  | true =>
    unfold laterC at hc
    simp only [Bool.and_eq_true, decide_eq_true_eq] at hc
    exact ⟨rfl, Int.le_of_lt hc.2.1, rfl, fun e _ => absurd e (Int.ne_of_gt hc.2.1)⟩
theorem stays_stand {N : Nd} {M : Ms} (hr : rightN N = true) (hs : smallB N M = true) (d : Int) : Stays N (standN N d) := by
  refine ⟨keep_stand hr hs d, ?_⟩
  unfold standN
  rw [hr]
  cases hc : standC N with
  | false => exact ⟨rfl, rfl, Int.le_refl _, rfl, fun _ _ => rfl⟩
  | true => exact ⟨rfl, rfl, by show N.h.t ≤ N.h.t + 1; omega, rfl, fun e _ => absurd e (by show ¬ N.h.t + 1 = N.h.t; omega)⟩
theorem stays_vote {N : Nd} {M : Ms} (hr : rightN N = true) (hs : smallB N M = true) (d : Int) : Stays N (voteN N M d) := by
  refine ⟨keep_vote hr hs d, ?_⟩
  unfold voteN
  cases hc : voteP N M && voteG N M with
  | false => exact ⟨rfl, rfl, Int.le_refl _, rfl, fun _ _ => rfl⟩
  | true =>
    rw [Bool.and_eq_true] at hc
    have hg := hc.2
    unfold voteG at hg
    simp only [Bool.and_eq_true, Bool.or_eq_true, beq_iff_eq] at hg
    refine ⟨rfl, rfl, Int.le_refl _, rfl, fun _ e => ?_⟩
    rcases hg.2.1 with h | h
    · exact absurd h e
    · exact h.symm
theorem stays_count {N : Nd} {M : Ms} (hr : rightN N = true) : Stays N (countN N M) := by
  refine ⟨keep_count hr, ?_⟩
  unfold countN
  cases hc : countC N M with
  | false => exact ⟨rfl, rfl, Int.le_refl _, rfl, fun _ _ => rfl⟩
  | true => exact ⟨rfl, rfl, Int.le_refl _, rfl, fun _ _ => rfl⟩
end Go.Proofs.YtncdjmpdbinanaaGreatDoor
