/-
  WHAT IS PROVED HERE: a small node that may be still may be with a higher term and another vote; behind all that it is asked: plain, no program. No condition.
-/
import Derived.Test.YtnaindoeihnmpaaGreatDoorZLaw17s
import Derived.Test.YtnaindoeihnmpaaGreatDoorZOncP
import Derived.Test.YtnaindoeihnmpaaGreatDoorZGCn0
namespace Go.Proofs.YtnaindoeihnmpaaGreatDoor
open Go.RowKit

def sumR (rs : List Rec) : Nat := (rs.map (fun r => r.d.size)).sum
theorem smallK_sum : ∀ (rs : List Rec) (i c : Nat) (c' : Int), c ≤ 1125899906842624 → (∀ r ∈ rs, r.d.size ≤ 8192) → smallK (c : Int) i rs = some c' → c' ≤ 30000 → c + sumR rs ≤ 30000
  | [], _, c, c', _, _, h, h2 => by
    rw [smallK] at h
    injection h with h
    simp [sumR]
    omega
  | r :: rs, i, c, c', hc, hr, h, h2 => by
    rw [smallK] at h
    have h8 := hr r (.head _)
    have hw : wrap64 ((c : Int) + (r.d.size : Int)) = ((c + r.d.size : Nat) : Int) := by
      rw [show ((c + r.d.size : Nat) : Int) = (c : Int) + (r.d.size : Int) from by omega]
      exact IntWalk.wrap64_in _ (by omega)
    rw [hw] at h
    split at h
    · cases h
    · rename_i hn
      have ih := smallK_sum rs (i + 1) (c + r.d.size) c' (by omega) (fun x hx => hr x (.tail _ hx)) h h2
      simp only [sumR, List.map_cons, List.sum_cons] at ih ⊢
      omega
theorem okT_sizes {T : Int} : ∀ (rs : List Rec) (term : Int), okT T term rs = true → ∀ r ∈ rs, r.d.size ≤ 8192 ∧ term ≤ r.t ∧ r.t ≤ T ∧ 0 ≤ r.k ∧ r.k ≤ 2
  | [], _, _, r, h => by cases h
  | r :: rs, term, h, x, hx => by
    rw [okT] at h
    split at h
    · rename_i hc
      simp only [inB, Bool.and_eq_true, decide_eq_true_eq] at hc
      rcases List.mem_cons.1 hx with rfl | hx
      · exact ⟨hc.2, hc.1.1.1, hc.1.1.2, hc.1.2.1, hc.1.2.2⟩
      · have := okT_sizes rs r.t h x hx
        exact ⟨this.1, by omega, this.2.2.1, this.2.2.2⟩
    · cases h
theorem okT_up {T T' : Int} (hT : T ≤ T') : ∀ (rs : List Rec) (term : Int), okT T term rs = true → okT T' term rs = true
  | [], _, _ => rfl
  | r :: rs, term, h => by
    rw [okT] at h ⊢
    split at h
    · rename_i hc
      simp only [inB, Bool.and_eq_true, decide_eq_true_eq] at hc
      rw [if_pos (by simp only [inB, Bool.and_eq_true, decide_eq_true_eq]; exact ⟨⟨⟨hc.1.1.1, by omega⟩, hc.1.2⟩, hc.2⟩)]
      exact okT_up hT rs r.t h
    · cases h
theorem rec_len2 {r : Rec} (h1 : 0 ≤ r.t ∧ r.t ≤ 1073741824) (h2 : 0 ≤ r.k ∧ r.k ≤ 1073741824) (h3 : r.d.size ≤ 131072) : (recEnc r).length ≤ 44 + r.d.size := by
  have a := num_len h1.1 h1.2
  have b := num_len h2.1 h2.2
  have c := itoa_len (n := r.d.size) (by omega) (k := 9) (by omega)
  have e : r.d.data.toList.length = r.d.size := rfl
  unfold recEnc encN
  simp only [List.flatMap_cons, List.flatMap_nil, List.length_append, List.length_cons, List.length_nil, txtN, e]
  omega
theorem recs_len2 : ∀ rs : List Rec, (∀ r ∈ rs, (0 ≤ r.t ∧ r.t ≤ 1073741824) ∧ (0 ≤ r.k ∧ r.k ≤ 1073741824) ∧ r.d.size ≤ 131072) → (rs.flatMap recEnc).length ≤ 44 * rs.length + sumR rs
  | [], _ => by simp [sumR]
  | r :: rs, h => by
    obtain ⟨a1, a2, a3⟩ := h r (.head _)
    have a := rec_len2 a1 a2 a3
    have b := recs_len2 rs (fun x hx => h x (.tail _ hx))
    rw [List.flatMap_cons, List.length_append, List.length_cons]
    simp only [sumR, List.map_cons, List.sum_cons] at b ⊢
    omega
/-- a small node that may be still may be with a higher term and another vote -/
theorem right_change {N : Nd} {M : Ms} (hr : rightN N = true) (hs : smallB N M = true) {t v : Int} (ht : N.h.t ≤ t) (ht2 : t ≤ 1073741824) (hv : 0 ≤ v ∧ v ≤ 9) : rightH ⟨t, v, N.h.l, N.h.s, N.h.vs⟩ = true := by
  have h1 := hr
  unfold rightN at h1
  simp only [Bool.and_eq_true] at h1
  have hvs : rightL N.h.vs = true := h1.2.2.1
  have hsh := right_shaped h1.2.1
  have hb := shaped_bounds hsh
  unfold shapedH logT at hsh
  simp only [Bool.and_eq_true, decide_eq_true_eq] at hsh
  obtain ⟨⟨_, _⟩, ⟨⟨⟨⟨⟨⟨⟨hl1, hl2⟩, hl3⟩, hl4⟩, hl5⟩, hl6⟩, hvv⟩, hss⟩⟩ := hsh
  simp only [inB, Bool.and_eq_true, decide_eq_true_eq] at hl1 hl2
  have hsz := okT_sizes _ _ hl6
  have hsum : N.h.s.size + sumR N.h.l.rs ≤ 30000 := by
    unfold smallB smallE at hs
    cases hk : smallK (N.h.s.size : Int) 0 N.h.l.rs with
    | none => rw [hk] at hs; cases hs
    | some c' =>
      rw [hk] at hs
      simp only [Bool.and_eq_true, decide_eq_true_eq] at hs
      exact smallK_sum _ 0 _ c' (by omega) (fun r hr => (hsz r hr).1) hk hs.1
  have hdg := right_digits hvs
  have hln := right_len hvs
  have e1 := num_len (n := t) (by omega) ht2
  have e2 := num_len (n := v) hv.1 (by omega)
  have e3 := num_len hl1.1 (by omega)
  have e4 := num_len hl2.1 (by omega)
  have e5 := itoa_len (n := N.h.s.size) (by omega) (k := 9) (by omega)
  have e6 := vots_len N.h.vs hdg
  have e7 := recs_len2 N.h.l.rs (fun r hr => by
    have := hsz r hr
    exact ⟨⟨by omega, by omega⟩, ⟨this.2.2.2.1, by omega⟩, by omega⟩)
  have e8 : N.h.s.data.toList.length = N.h.s.size := rfl
  unfold rightH
  rw [Bool.and_eq_true, decide_eq_true_eq]
  constructor
  · unfold shapedH logT
    simp only [Bool.and_eq_true, decide_eq_true_eq]
    refine ⟨⟨by simp [inB]; omega, by simp [inB]; omega⟩, ⟨⟨⟨⟨⟨⟨by simp [inB]; omega, by simp [inB]; omega⟩, hl3⟩, hl4⟩, hl5⟩, okT_up ht _ _ hl6⟩, hvv⟩, hss⟩
  · unfold encH votEnc recsEnc txtN
    simp only [List.length_cons, List.length_append, List.length_nil, e8]
    omega
theorem right_parts {N : Nd} (h : rightN N = true) : inB N.id 1 9 = true ∧ rightH N.h = true ∧ rightL N.h.vs = true ∧ inB N.role 0 2 = true ∧ (!(decide (0 < N.role) && N.h.t == 0)) = true ∧ inB N.lead 0 9 = true ∧ inB N.timer 0 1048576 = true ∧ inB N.commit N.h.l.base (lastJ N.h.l) = true ∧ ascL none N.got = true ∧ okPs N.id (lastJ N.h.l) none N.ps = true := by
  unfold rightN at h
  simp only [Bool.and_eq_true] at h
  exact h
theorem right_of {N : Nd} (h : inB N.id 1 9 = true ∧ rightH N.h = true ∧ rightL N.h.vs = true ∧ inB N.role 0 2 = true ∧ (!(decide (0 < N.role) && N.h.t == 0)) = true ∧ inB N.lead 0 9 = true ∧ inB N.timer 0 1048576 = true ∧ inB N.commit N.h.l.base (lastJ N.h.l) = true ∧ ascL none N.got = true ∧ okPs N.id (lastJ N.h.l) none N.ps = true) : rightN N = true := by
  unfold rightN
  simp only [Bool.and_eq_true]
  exact h
theorem keep_later {N : Nd} {M : Ms} (hr : rightN N = true) (hs : smallB N M = true) (term : Int) : rightN (laterN N term) = true := by
  unfold laterN
  cases hc : laterC N term with
  | false => exact hr
  | true =>
    unfold laterC at hc
    simp only [Bool.and_eq_true, decide_eq_true_eq] at hc
    obtain ⟨a1, _, a3, _, _, _, a7, a8, _, _⟩ := right_parts hr
    exact right_of ⟨a1, right_change hr hs (by omega) hc.2.2 (by omega), a3, rfl, rfl, rfl, a7, a8, rfl, rfl⟩
theorem clamp_in (d : Int) : inB (min (max d 0) 1048576) 0 1048576 = true := by simp [inB]; omega
theorem keep_stand {N : Nd} {M : Ms} (hr : rightN N = true) (hs : smallB N M = true) (d : Int) : rightN (standN N d) = true := by
  unfold standN
  rw [hr]
  cases hc : standC N with
  | false => exact tim_right d hr
  | true =>
    unfold standC at hc
    simp only [Bool.and_eq_true, decide_eq_true_eq] at hc
    have hn := right_n hr
    obtain ⟨a1, _, a3, _, _, _, _, a8, _, _⟩ := right_parts hr
    refine right_of ⟨a1, right_change hr hs (by omega) (by omega) ⟨by omega, hn.2.2.2.2.2⟩, a3, rfl, ?_, rfl, clamp_in d, a8, ?_, rfl⟩
    · show (!(decide ((0 : Int) < 1) && (N.h.t + 1 == 0))) = true
      have : (N.h.t + 1 == 0) = false := by simp; omega
      rw [this]
      rfl
    · show ascL none [N.id] = true
      rw [ascL, if_neg (by omega)]
      rfl
theorem keep_vote {N : Nd} {M M' : Ms} (hr : rightN N = true) (hs : smallB N M' = true) (d : Int) : rightN (voteN N M d) = true := by
  unfold voteN
  cases hc : voteP N M && voteG N M with
  | false => exact hr
  | true =>
    rw [Bool.and_eq_true] at hc
    have hb := vote_bounds hc.1 hc.2
    obtain ⟨a1, _, a3, a4, a5, a6, _, a8, a9, a10⟩ := right_parts hr
    exact right_of ⟨a1, right_change hr hs (by omega) (by omega) (by omega), a3, a4, a5, a6, clamp_in d, a8, a9, a10⟩
theorem asc_of : ∀ (l : List Int) (u : Int), 0 ≤ u → (∀ v ∈ l, u < v ∧ v ≤ 9) → l.Pairwise (· < ·) → ascL (some u) l = true
  | [], _, _, _, _ => rfl
  | v :: l, u, h0, h, hp => by
    have hv := h v (.head _)
    rw [ascL, if_neg (by omega)]
    rw [List.pairwise_cons] at hp
    exact asc_of l v (by omega) (fun z hz => ⟨hp.1 z hz, (h z (.tail _ hz)).2⟩) hp.2
theorem asc_of0 {l : List Int} (h : ∀ v ∈ l, 1 ≤ v ∧ v ≤ 9) (hp : l.Pairwise (· < ·)) : ascL none l = true := by
  cases l with
  | nil => rfl
  | cons v l =>
    have hv := h v (.head _)
    rw [ascL, if_neg (by omega)]
    rw [List.pairwise_cons] at hp
    exact asc_of l v (by omega) (fun z hz => ⟨hp.1 z hz, (h z (.tail _ hz)).2⟩) hp.2
theorem asc_bounds {l : List Int} (h : ascL none l = true) : ∀ v ∈ l, 1 ≤ v ∧ v ≤ 9 := by
  cases l with
  | nil => simp
  | cons v l =>
    rw [ascL] at h
    by_cases hc : v < 1 ∨ 9 < v
    · rw [if_pos hc] at h; cases h
    rw [if_neg hc] at h
    have := asc_some l v (by omega) (by omega) h
    intro z hz
    rcases List.mem_cons.1 hz with rfl | hz
    · omega
    · have := this.2.1 z hz; omega
/-- of a rising list: what is less stands ahead -/
theorem pos_split {x : Int} : ∀ (l : List Int), l.Pairwise (· < ·) → ¬ x ∈ l → (∀ v ∈ l.take (posL x l), v < x) ∧ (∀ v ∈ l.drop (posL x l), x < v)
  | [], _, _ => ⟨by simp, by simp⟩
  | v :: l, hp, hx => by
    rw [List.pairwise_cons] at hp
    have hne : v ≠ x := fun e => hx (by rw [e]; exact .head _)
    by_cases hv : v < x
    · have ih := pos_split l hp.2 (fun h => hx (.tail _ h))
      have e : posL x (v :: l) = posL x l + 1 := by unfold posL; rw [List.countP_cons_of_pos (by simpa using hv)]
      rw [e, List.take_succ_cons, List.drop_succ_cons]
      refine ⟨fun z hz => ?_, ih.2⟩
      rcases List.mem_cons.1 hz with rfl | hz
      · exact hv
      · exact ih.1 z hz
    · have e : posL x (v :: l) = 0 := by
        unfold posL
        rw [List.countP_eq_zero]
        intro z hz
        rcases List.mem_cons.1 hz with rfl | hz
        · simpa using hv
        · have := hp.1 z hz
          simp
          omega
      rw [e]
      refine ⟨by simp, fun z hz => ?_⟩
      rcases List.mem_cons.1 hz with rfl | hz
      · omega
      · have := hp.1 z hz; omega
theorem got_asc {g : List Int} {x : Int} (h : ascL none g = true) (hx : 1 ≤ x ∧ x ≤ 9) : ascL none (gotM g x) = true := by
  unfold gotM
  cases hc : g.contains x with
  | true => exact h
  | false =>
    have hp := (asc_none h).1
    have hb := asc_bounds h
    have hnx : ¬ x ∈ g := by simpa using hc
    obtain ⟨s1, s2⟩ := pos_split g hp hnx
    have hpp : (g.take (posL x g) ++ g.drop (posL x g)).Pairwise (· < ·) := by rw [List.take_append_drop]; exact hp
    rw [List.pairwise_append] at hpp
    refine asc_of0 (fun v hv => ?_) ?_
    · simp only [Bool.false_eq_true, if_false, List.mem_append, List.mem_cons] at hv
      rcases hv with hv | rfl | hv
      · exact hb v (List.mem_of_mem_take hv)
      · exact hx
      · exact hb v (List.mem_of_mem_drop hv)
    · simp only [Bool.false_eq_true, if_false]
      rw [List.pairwise_append]
      refine ⟨hpp.1, ?_, fun a ha b hb' => ?_⟩
      · rw [List.pairwise_cons]
        exact ⟨s2, hpp.2.1⟩
      · rcases List.mem_cons.1 hb' with rfl | hb'
        · exact s1 a ha
        · exact hpp.2.2 a ha b hb'
theorem keep_count {N : Nd} {M : Ms} (hr : rightN N = true) : rightN (countN N M) = true := by
  unfold countN
  cases hc : countC N M with
  | false => exact hr
  | true =>
    have hb : 1 ≤ M.fr ∧ M.fr ≤ 9 := by
      unfold countC mayM inB at hc
      simp only [Bool.and_eq_true, decide_eq_true_eq] at hc
      omega
    obtain ⟨a1, a2, a3, a4, a5, a6, a7, a8, a9, a10⟩ := right_parts hr
    exact right_of ⟨a1, a2, a3, a4, a5, a6, a7, a8, got_asc a9 hb, a10⟩
end Go.Proofs.YtnaindoeihnmpaaGreatDoor
