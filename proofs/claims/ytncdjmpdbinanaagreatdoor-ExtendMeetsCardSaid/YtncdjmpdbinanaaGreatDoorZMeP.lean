/-
  WHAT IS PROVED HERE: plain laws: a leader and a follower of its term that are told each other's messages come together. No program, no condition.
-/
import Derived.Test.YtncdjmpdbinanaaGreatDoorZGEx
import Derived.Test.YtncdjmpdbinanaaGreatDoorZGKep
namespace Go.Proofs.YtncdjmpdbinanaaGreatDoor
open Go.RowKit

/-- do records of one term at one place stand behind the same ones? -/
def LMt (x l : List Rec) : Prop := ∀ (i : Nat) (a b : Rec), x[i]? = some a → l[i]? = some b → a.t = b.t → x.take (i + 1) = l.take (i + 1)
/-- the law's first loop: is there nothing to say? -/
def apartR : List Rec → Bool → List Rec → Bool
  | _, _, [] => false
  | [], ap, r :: rs => if decide (100 < r.d.size) then true else apartR [] ap rs
  | x :: xs, ap, r :: rs => if (r.t == x.t && (ap || !(recB r x))) || decide (100 < r.d.size) then true else apartR xs (ap || !(recB r x)) rs
theorem apart_lm : ∀ (fs ls : List Rec) (ap : Bool), apartR ls ap fs = false → (∀ r ∈ fs, r.d.size ≤ 100) ∧ ∀ (i : Nat) (a b : Rec), fs[i]? = some a → ls[i]? = some b → a.t = b.t → ap = false ∧ fs.take (i + 1) = ls.take (i + 1)
  | [], _, _, _ => ⟨fun _ h => (nomatch h), fun i a b h => by simp at h⟩
  | r :: rs, [], ap, h => by
    rw [apartR] at h
    split at h
    · cases h
    rename_i hc
    have ih := apart_lm rs [] ap h
    refine ⟨fun x hx => ?_, fun i a b _ hb => by simp at hb⟩
    rcases List.mem_cons.1 hx with rfl | hx
    · simpa using hc
    · exact ih.1 x hx
  | r :: rs, y :: ys, ap, h => by
    rw [apartR] at h
    split at h
    · cases h
    rename_i hc
    rw [Bool.or_eq_true, not_or, decide_eq_true_eq] at hc
    obtain ⟨ih1, ih2⟩ := apart_lm rs ys _ h
    refine ⟨fun x hx => ?_, fun i a b ha hb ht => ?_⟩
    · rcases List.mem_cons.1 hx with rfl | hx
      · omega
      · exact ih1 x hx
    have key : (ap || !(recB r y)) = false → ap = false ∧ r = y := fun e => by
      rw [Bool.or_eq_false_iff, Bool.not_eq_false'] at e
      exact ⟨e.1, recB_eq.1 e.2⟩
    cases i with
    | zero =>
      have ha : r = a := by simpa using ha
      have hb : y = b := by simpa using hb
      subst ha hb
      have h2 : (ap || !(recB r y)) = false := by
        have h1 := hc.1
        rw [show (r.t == y.t) = true from by simpa using ht, Bool.true_and] at h1
        simpa using h1
      obtain ⟨e1, e2⟩ := key h2
      exact ⟨e1, by simp [e2]⟩
    | succ i =>
      obtain ⟨e0, e3⟩ := ih2 i a b (by simpa using ha) (by simpa using hb) ht
      obtain ⟨e1, e2⟩ := key e0
      exact ⟨e1, by rw [List.take_succ_cons, List.take_succ_cons, e2, e3]⟩
theorem lm_of {fs ls : List Rec} (h : apartR ls false fs = false) : LMt fs ls := fun i a b ha hb ht => ((apart_lm fs ls false h).2 i a b ha hb ht).2
theorem lm_take (l : List Rec) (e : Nat) : LMt (l.take e) l := fun i a b ha hb _ => by
  have hi : i < (l.take e).length := (List.getElem?_eq_some_iff.1 ha).1
  rw [List.length_take] at hi
  rw [List.take_take, show min (i + 1) e = i + 1 from by omega]
theorem lm_agree {x l : List Rec} (hm : LMt x l) {q : Nat} (h : termJ ⟨0, 0, x⟩ (q : Int) = termJ ⟨0, 0, l⟩ (q : Int)) (hq : q ≤ l.length) : x.take q = l.take q ∧ q ≤ x.length := by
  cases q with
  | zero => simp
  | succ i =>
    rw [termJ_at (by dsimp only; omega), termJ_at (by dsimp only; omega)] at h
    dsimp only at h
    rw [show (((i + 1 : Nat) : Int) - 0 - 1).toNat = i from by omega, List.getElem?_eq_getElem (show i < l.length by omega), Option.map_some, Option.map_eq_some_iff] at h
    obtain ⟨a, ha, ht⟩ := h
    exact ⟨hm i a _ ha (List.getElem?_eq_getElem (by omega)) ht, (List.getElem?_eq_some_iff.1 ha).1⟩
theorem term_some {l : List Rec} {q : Nat} (hq : q ≤ l.length) : ∃ t, termJ ⟨0, 0, l⟩ (q : Int) = some t := by
  cases q with
  | zero => exact ⟨0, termJ_base 0 0 l⟩
  | succ i =>
    rw [termJ_at (by dsimp only; omega)]
    dsimp only
    rw [show (((i + 1 : Nat) : Int) - 0 - 1).toNat = i from by omega, List.getElem?_eq_getElem (show i < l.length by omega)]
    exact ⟨_, rfl⟩
/-- what a merge of a leader's records comes to, where the terms are the same -/
theorem merge_lm {x l : List Rec} (hx : rightJ ⟨0, 0, x⟩ = true) (hl : rightJ ⟨0, 0, l⟩ = true) (hm : LMt x l) {q k : Nat} (hk : q + k ≤ l.length) (ht : termJ ⟨0, 0, x⟩ (q : Int) = termJ ⟨0, 0, l⟩ (q : Int)) :
    ∃ x', mergeJ ⟨0, 0, x⟩ q ((termJ ⟨0, 0, l⟩ (q : Int)).getD 0) ((l.drop q).take k) = ⟨⟨0, 0, x'⟩, ((q + k : Nat) : Int), true, 0⟩ ∧ x'.take (q + k) = l.take (q + k) ∧ q + k ≤ x'.length ∧ (x' = x ∨ x' = l.take (q + k)) := by
  obtain ⟨t, hts⟩ := term_some (l := l) (q := q) (by omega)
  have hcr := (compact_right hl hts).1
  dsimp only at hcr
  rw [show ((q : Int) - 0).toNat = q from by omega] at hcr
  have hr2 : rightJ ⟨(q : Int), t, (l.drop q).take k⟩ = true := right_pre (ys := (l.drop q).drop k) (by rw [List.take_append_drop]; exact hcr)
  have hml : ((l.drop q).take k).length = k := by rw [List.length_take, List.length_drop]; omega
  rw [hts] at ht ⊢
  have ga : ¬ ((⟨0, 0, x⟩ : Lg).base ≤ (q : Int) ∧ termJ ⟨0, 0, x⟩ (q : Int) ≠ some t) := fun h => h.2 ht
  have hmore : ∀ j, j < k → ((l.drop q).take k)[j]? = l[q + j]? := fun j hj => by rw [List.getElem?_take, if_pos hj, List.getElem?_drop]
  have hag := lm_agree hm (ht.trans hts.symm) (by omega)
  -- as far as the terms are the same the records are
  have hup : ∀ i, i ≤ k → (∀ j, j < i → termJ ⟨0, 0, x⟩ ((q : Int) + 1 + j) = (l[q + j]?).map Rec.t) → x.take (q + i) = l.take (q + i) ∧ q + i ≤ x.length := by
    intro i hi hall
    cases i with
    | zero => simpa using hag
    | succ i =>
      have h := hall i (by omega)
      refine lm_agree hm (q := q + (i + 1)) ?_ (by omega)
      rw [show (((q + (i + 1) : Nat)) : Int) = (q : Int) + 1 + i from by omega, h, termJ_at (by dsimp only; omega)]
      dsimp only
      rw [show ((q : Int) + 1 + i - 0 - 1).toNat = q + i from by omega]
  simp only [Option.getD_some]
  rw [mergeJ_fits hx hr2 ga]
  have hmax : max (0 : Int) ((q : Int) + ((l.drop q).take k).length) = ((q + k : Nat) : Int) := by rw [hml]; omega
  cases hfd : fdJ ⟨0, 0, x⟩ (q : Int) 0 ((l.drop q).take k) with
  | none =>
    dsimp only
    rw [hmax]
    have hall := fdJ_none_all hfd
    obtain ⟨g1, g2⟩ := hup k (Nat.le_refl _) (fun j hj => by
      have hlj : q + j < l.length := by omega
      have h := hall j l[q + j] (by rw [hmore j hj, List.getElem?_eq_getElem hlj])
      rw [List.getElem?_eq_getElem hlj]
      rcases h with h | h
      · dsimp only at h; omega
      · exact h)
    exact ⟨x, rfl, g1, g2, .inl rfl⟩
  | some i =>
    dsimp only
    obtain ⟨r0, hr0, _, hlow⟩ := fdJ_some_all hfd
    have hi : i < k := by
      have := (List.getElem?_eq_some_iff.1 hr0).1
      omega
    obtain ⟨g1, g2⟩ := hup i (by omega) (fun j hj => by
      have hlj : q + j < l.length := by omega
      have h := hlow j l[q + j] hj (by rw [hmore j (by omega), List.getElem?_eq_getElem hlj])
      rw [List.getElem?_eq_getElem hlj]
      rcases h with h | h
      · dsimp only at h; omega
      · exact h)
    have hrs : x.take ((q : Int) + i - 0).toNat ++ ((l.drop q).take k).drop i = l.take (q + k) := by
      rw [show ((q : Int) + i - 0).toNat = q + i from by omega, g1, List.drop_take, List.drop_drop]
      rw [← List.take_add, show q + i + (k - i) = q + k from by omega]
    rw [hrs, hmax]
    have hll := (right_iff.1 hl).2.2.2.2.2.1
    dsimp only at hll
    have h200 : ¬ 200 < (l.take (q + k)).length := by rw [List.length_take]; omega
    rw [if_neg h200, if_pos (right_pre (ys := l.drop (q + k)) (by rw [List.take_append_drop]; exact hl))]
    exact ⟨_, rfl, by rw [List.take_take, Nat.min_self], by rw [List.length_take]; omega, .inr rfl⟩
/-- .. and where they are not -/
theorem merge_un {x l : List Rec} (hx : rightJ ⟨0, 0, x⟩ = true) (hl : rightJ ⟨0, 0, l⟩ = true) {q k : Nat} (hk : q + k ≤ l.length) (ht : ¬ termJ ⟨0, 0, x⟩ (q : Int) = termJ ⟨0, 0, l⟩ (q : Int)) :
    1 ≤ q ∧ mergeJ ⟨0, 0, x⟩ q ((termJ ⟨0, 0, l⟩ (q : Int)).getD 0) ((l.drop q).take k) = ⟨⟨0, 0, x⟩, min (x.length : Int) (q - 1), false, 0⟩ := by
  obtain ⟨t, hts⟩ := term_some (l := l) (q := q) (by omega)
  have hcr := (compact_right hl hts).1
  dsimp only at hcr
  rw [show ((q : Int) - 0).toNat = q from by omega] at hcr
  have hr2 : rightJ ⟨(q : Int), t, (l.drop q).take k⟩ = true := right_pre (ys := (l.drop q).drop k) (by rw [List.take_append_drop]; exact hcr)
  refine ⟨?_, ?_⟩
  · rcases Nat.eq_zero_or_pos q with h | h
    · subst h
      exact absurd ((termJ_base 0 0 x).trans (termJ_base 0 0 l).symm) ht
    · exact h
  rw [hts] at ht ⊢
  unfold mergeJ
  simp only [Option.getD_some]
  rw [hx, hr2]
  simp only [Bool.and_self, if_true]
  rw [if_pos ⟨by omega, ht⟩]
  unfold lastJ
  simp
/-- no record stands against what is sure -/
theorem bad_none {N : Nd} : ∀ (rs : List Rec) (idx : Int), (∀ (j : Nat) (r : Rec), rs[j]? = some r → idx + 1 + j ≤ N.commit → N.h.l.base < idx + 1 + j → termJ N.h.l (idx + 1 + j) = some r.t) → badR N idx rs = false
  | [], _, _ => rfl
  | r :: rs, idx, h => by
    have h0 := h 0 r rfl
    rw [show idx + 1 + ((0 : Nat) : Int) = idx + 1 from by omega] at h0
    rw [badR]
    have ih := bad_none rs (idx + 1) (fun j x hx h1 h2 => by
      have := h (j + 1) x (by simpa using hx)
      rw [show idx + 1 + ((j + 1 : Nat) : Int) = idx + 1 + 1 + j from by omega] at this
      exact this h1 h2)
    rw [ih]
    by_cases a1 : N.h.l.base < idx + 1
    case neg => simp [a1]
    by_cases a2 : idx + 1 ≤ N.commit
    case neg => simp [a2]
    simp [h0 a2 a1]
/-- a leader n and a follower x under way, behind r rounds; p: what the leader knows of the follower; N: the leader, X: the follower at the beginning -/
structure Meet (N X n x : Nd) (p : Pr) (r : Int) : Prop where
  nr : rightN n = true
  nid : n.id = N.id
  nh : n.h = N.h
  nrole : n.role = 2
  nps : ∃ tl, n.ps = p :: tl
  xr : rightN x = true
  xid : x.id = p.id
  xrole : ¬ x.role = 2
  xh : ∃ xs, x.h = ⟨X.h.t, X.h.v, ⟨0, 0, xs⟩, X.h.s, X.h.vs⟩ ∧ LMt xs N.h.l.rs ∧ xs.take p.mt.toNat = N.h.l.rs.take p.mt.toNat ∧ p.mt ≤ xs.length
  xc : x.commit ≤ p.mt
  ph : (p.mt = 0 ∧ r + p.nx ≤ N.h.l.rs.length + 1) ∨ (1 ≤ p.mt ∧ p.nx = p.mt + 1 ∧ r ≤ N.h.l.rs.length + 1 + p.mt)
structure Met (N n x : Nd) (q : Int) : Prop where
  nh : n.h = N.h
  nps : ∃ p tl, n.ps = p :: tl ∧ p.id = q ∧ p.mt = N.h.l.rs.length
  xs : N.h.l.rs.length ≤ x.h.l.rs.length ∧ x.h.l.rs.take N.h.l.rs.length = N.h.l.rs
theorem set_first (q : Pr) (p : Pr) (tl : List Pr) : setP p.id q (p :: tl) = q :: tl := by rw [setP, if_pos rfl]
theorem find_first (p : Pr) (tl : List Pr) : findP p.id (p :: tl) = some p := by rw [findP, if_pos rfl]
theorem meet_step {N X n x : Nd} {p : Pr} {r : Int} (h : Meet N X n x p r) (hb : N.h.l.base = 0) (hX : X.h.t = N.h.t) (hH : ∀ e, rightH ⟨X.h.t, X.h.v, ⟨0, 0, N.h.l.rs.take e⟩, X.h.s, X.h.vs⟩ = true) (d : Int) :
    ∃ ans, takeL x (sendM n p) = [ans] ∧ ((fitL n ans = [] ∧ Met N (fitN n ans) (takeN x (sendM n p) d) p.id) ∨ ∃ p', p'.id = p.id ∧ fitL n ans = [sendM (fitN n ans) p'] ∧ Meet N X (fitN n ans) (takeN x (sendM n p) d) p' (r + 1)) := by
  obtain ⟨nr, nid, nh, nrole, ⟨tl, nps⟩, xr, xid, xrole, ⟨xs, xh, xlm, xag, xml⟩, xc, ph⟩ := h
  have hn := right_n nr
  have hpp := right_parts nr
  have ht1 := role_term nr (by omega)
  have hji := right_iff.1 hn.1
  have hbt : N.h.l.bt = 0 := by rw [nh] at hji; exact hji.2.2.2.2.1.1 hb
  obtain ⟨l, hl⟩ : ∃ l, N.h.l.rs = l := ⟨_, rfl⟩
  have hlg : n.h.l = ⟨0, 0, l⟩ := by
    have e : N.h.l = ⟨N.h.l.base, N.h.l.bt, N.h.l.rs⟩ := rfl
    rw [nh, e, hb, hbt, hl]
  rw [hl] at xlm xag ph
  have hlr : rightJ ⟨0, 0, l⟩ = true := by rw [← hlg]; exact hn.1
  have hlast : lastJ n.h.l = l.length := by rw [hlg]; simp [lastJ]
  have hll := (right_iff.1 hlr).2.2.2.2.2.1
  dsimp only at hll
  obtain ⟨⟨pi1, pi2⟩, pi3, ⟨pn1, pn2⟩, pm1, pm2⟩ := (okPs_iff.1 hpp.2.2.2.2.2.2.2.2.2).1 p (by rw [nps]; exact .head _)
  rw [hlast] at pn2
  have hsm := send_may nr ht1 (p := p) (by rw [nps]; exact .head _)
  obtain ⟨q, hq⟩ : ∃ q : Nat, p.nx - 1 = q := ⟨(p.nx - 1).toNat, by omega⟩
  have hM : sendM n p = ⟨3, n.id, p.id, n.h.t, false, (q : Int), (termJ ⟨0, 0, l⟩ (q : Int)).getD 0, (l.drop q).take (min 20 (l.length - q)), n.commit, ⟨#[]⟩, []⟩ := by
    unfold sendM
    rw [hlg, if_neg (by dsimp only; omega), hq]
    have : behindJ ⟨0, 0, l⟩ (q : Int) 20 = (l.drop q).take (min 20 (l.length - q)) := by
      unfold behindJ
      rw [if_pos ⟨hlr, by dsimp only; omega, by unfold lastJ; dsimp only; omega⟩]
      dsimp only
      rw [show ((q : Int) - 0).toNat = q from by omega, show (20 : Int).toNat = 20 from rfl]
      rcases Nat.le_total 20 (l.length - q) with h | h
      · rw [Nat.min_eq_left h]
      · rw [Nat.min_eq_right h, List.take_of_length_le (by rw [List.length_drop]; exact h), List.take_of_length_le (by rw [List.length_drop]; exact Nat.le_refl _)]
    rw [this]
  obtain ⟨k, hk⟩ : ∃ k, min 20 (l.length - q) = k := ⟨_, rfl⟩
  rw [hk] at hM
  have hqk : q + k ≤ l.length := by omega
  obtain ⟨M, hMM⟩ : ∃ M, sendM n p = M := ⟨_, rfl⟩
  rw [hMM] at hM hsm ⊢
  have e1 : M.fr = n.id := by rw [hM]
  have e2 : M.term = n.h.t := by rw [hM]
  have e3 : M.index = q := by rw [hM]
  have e4 : M.rs = (l.drop q).take k := by rw [hM]
  have e5 : M.lterm = (termJ ⟨0, 0, l⟩ (q : Int)).getD 0 := by rw [hM]
  have e6 : M.commit = n.commit := by rw [hM]
  have e7 : M.kind = 3 := by rw [hM]
  have e8 : M.to = p.id := by rw [hM]
  have hxt : x.h.t = n.h.t := by rw [xh, nh]; exact hX
  have hxl : x.h.l = ⟨0, 0, xs⟩ := by rw [xh]
  have hxr : rightJ ⟨0, 0, xs⟩ = true := by rw [← hxl]; exact (right_n xr).1
  have htc : toldC x M 3 = true := by
    unfold toldC
    rw [xr, hsm.1, e7, e8, e2, xid, hxt]
    simp
  obtain ⟨_, _, _, s4, s5, s6⟩ := take_say (d := d) htc
  have htle : x.h.t ≤ M.term := by rw [e2, hxt]; exact Int.le_refl _
  -- what the follower is sure of is the leader's
  have hmq : p.mt ≤ q := by omega
  have hbad : badR x M.index M.rs = false := by
    refine bad_none _ _ (fun j y hy h1 h2 => ?_)
    rw [e3] at h1 h2 ⊢
    omega
  have hmg : takeMg x M = mergeJ ⟨0, 0, xs⟩ q ((termJ ⟨0, 0, l⟩ (q : Int)).getD 0) ((l.drop q).take k) := by
    unfold takeMg
    rw [hxl, e3, e4, e5]
  have hids : ¬ n.id = p.id := fun e => pi3 e.symm
  have hnid : 1 ≤ n.id ∧ n.id ≤ 9 := hn.2.2.2.2
  have htb : 1 ≤ n.h.t ∧ n.h.t ≤ 1073741824 := ⟨ht1, hn.2.2.2.1⟩
  have hfm : ∀ (ok : Bool) (j : Int), 0 ≤ j → j ≤ 1073741824 → mayM (fitM x.id M.fr x.h.t ok j) = true := fun ok j h1 h2 => by
    rw [xid, e1, hxt]
    exact fit_may ok ⟨pi1, pi2⟩ hnid (fun e => hids e.symm) htb ⟨h1, h2⟩
  have hfc : ∀ (ok : Bool) (j : Int), 0 ≤ j → j ≤ l.length → fitC n (fitM x.id M.fr x.h.t ok j) = true := fun ok j h1 h2 => by
    have h3 := hfm ok j h1 (by omega)
    unfold fitC toldC
    rw [nr, h3, hlast]
    unfold fitM
    dsimp only
    rw [e1, hxt, nrole, nps, xid, find_first]
    have : decide ((l.length : Int) < j) = false := by simpa using h2
    simp [this]
  have hff : ∀ (ok : Bool) (j : Int), findP (fitM x.id M.fr x.h.t ok j).fr n.ps = some p := fun ok j => by
    show findP x.id n.ps = some p
    rw [nps, xid, find_first]
  by_cases hterm : termJ ⟨0, 0, xs⟩ (q : Int) = termJ ⟨0, 0, l⟩ (q : Int)
  · obtain ⟨x', m1, m2, m3, m4⟩ := merge_lm hxr hlr xlm hqk hterm
    rw [← hmg] at m1
    have hlmx : LMt x' l := by
      rcases m4 with m4 | m4
      · rw [m4]; exact xlm
      · rw [m4]; exact lm_take _ _
    have hok : takeOk x M = true := by
      unfold takeOk
      rw [m1]
      show (((0 : Int) == 0) && rightH (logH x.h ⟨0, 0, x'⟩)) = true
      rw [Bool.and_eq_true]
      refine ⟨rfl, ?_⟩
      rcases m4 with m4 | m4
      · rw [m4, ← hxl]
        have : logH x.h x.h.l = x.h := rfl
        rw [this]
        exact (right_parts xr).2.1
      · have := hH (q + k)
        rw [hl, ← m4] at this
        unfold logH
        rw [xh]
        exact this
    obtain ⟨t1, t2⟩ := s6 htle xrole hbad hok (by rw [m1])
    rw [m1] at t2
    dsimp only at t2
    refine ⟨_, t2, ?_⟩
    have hkeep := (take_keeps (N := x) M d xr).1.right
    have hC := hfc true ((q + k : Nat) : Int) (by omega) (by omega)
    have hF := hff true ((q + k : Nat) : Int)
    obtain ⟨ans, hans⟩ : ∃ z, fitM x.id M.fr x.h.t true ((q + k : Nat) : Int) = z := ⟨_, rfl⟩
    rw [hans] at hC hF ⊢
    have hfr : ans.fr = p.id := by rw [← hans]; exact xid
    have hP : fitP n ans p = ⟨p.id, ((q + k : Nat) : Int) + 1, ((q + k : Nat) : Int)⟩ := by
      rw [← hans]
      unfold fitP fitM
      dsimp only
      rw [if_pos rfl, show max p.mt ((q + k : Nat) : Int) = ((q + k : Nat) : Int) from by omega]
    have hansok : ans.ok = true := by rw [← hans]; rfl
    have hfit : fitN n ans = sureN (psN n (⟨p.id, ((q + k : Nat) : Int) + 1, ((q + k : Nat) : Int)⟩ :: tl)) := by
      unfold fitN
      rw [if_pos hC, hF]
      dsimp only
      rw [hansok, hP, nps, hfr, set_first]
      rfl
    have hs := sure_same (psN n (⟨p.id, ((q + k : Nat) : Int) + 1, ((q + k : Nat) : Int)⟩ :: tl))
    rw [← hfit] at hs
    have hnr : rightN (fitN n ans) = true := (fit_keeps (N := n) ans nr).1.right
    have hfl : fitL n ans = if l.length < q + k + 1 then [] else [sendM (fitN n ans) ⟨p.id, ((q + k : Nat) : Int) + 1, ((q + k : Nat) : Int)⟩] := by
      unfold fitL
      rw [if_pos hC, hF]
      dsimp only
      rw [hansok, hP, hlast]
      by_cases g : l.length < q + k + 1
      · rw [if_pos g, if_pos (by simp; omega)]
      · rw [if_neg g, if_neg (by simp; omega)]
    have hx1 : (takeN x M d).h = ⟨X.h.t, X.h.v, ⟨0, 0, x'⟩, X.h.s, X.h.vs⟩ := by
      rw [t1]
      unfold takeF logH
      dsimp only
      rw [m1, xh]
    by_cases g : l.length < q + k + 1
    · refine .inl ⟨by rw [hfl, if_pos g], ⟨by rw [hs.2.1]; exact nh, ?_, ?_⟩⟩
      · exact ⟨_, tl, hs.2.2.2.2.2.2.1, rfl, by dsimp only; rw [hl]; omega⟩
      · rw [hx1, hl]
        dsimp only
        have e : q + k = l.length := by omega
        rw [e, List.take_length] at m2
        exact ⟨by omega, m2⟩
    · refine .inr ⟨⟨p.id, ((q + k : Nat) : Int) + 1, ((q + k : Nat) : Int)⟩, rfl, by rw [hfl, if_neg g], ⟨hnr, by rw [hs.1]; exact nid, by rw [hs.2.1]; exact nh, by rw [hs.2.2.1]; exact nrole, ⟨tl, hs.2.2.2.2.2.2.1⟩, hkeep, ?_, ?_, ⟨x', hx1, by rw [hl]; exact hlmx, ?_, by dsimp only; omega⟩, ?_, .inr ⟨?_, rfl, ?_⟩⟩⟩
      · rw [t1]; exact xid
      · rw [t1]; exact (by decide : ¬ (0 : Int) = 2)
      · dsimp only
        rw [hl, show ((q + k : Nat) : Int).toNat = q + k from by omega]
        exact m2
      · rw [t1]
        show max x.commit (min M.commit (takeMg x M).n) ≤ ((q + k : Nat) : Int)
        rw [m1]
        dsimp only
        omega
      · dsimp only; omega
      · dsimp only
        rw [hl]
        omega
  · obtain ⟨hq1, m1⟩ := merge_un hxr hlr hqk hterm
    rw [← hmg] at m1
    have hmt : p.mt = 0 ∧ r + p.nx ≤ l.length + 1 := by
      rcases ph with ph | ph
      · exact ph
      · exfalso
        apply hterm
        have hqm : q = p.mt.toNat := by omega
        have hpos : 1 ≤ q := by omega
        rw [termJ_at (by dsimp only; omega), termJ_at (by dsimp only; omega)]
        dsimp only
        congr 1
        have h1 : (xs.take p.mt.toNat)[q - 1]? = (l.take p.mt.toNat)[q - 1]? := by rw [xag]
        rw [List.getElem?_take, if_pos (by omega), List.getElem?_take, if_pos (by omega)] at h1
        rw [show ((q : Int) - 0 - 1).toNat = q - 1 from by omega]
        exact h1
    have hok : takeOk x M = true := by
      unfold takeOk
      rw [m1]
      show (((0 : Int) == 0) && rightH (logH x.h ⟨0, 0, xs⟩)) = true
      rw [Bool.and_eq_true]
      refine ⟨rfl, ?_⟩
      rw [← hxl]
      have : logH x.h x.h.l = x.h := rfl
      rw [this]
      exact (right_parts xr).2.1
    obtain ⟨t1, t2⟩ := s5 htle xrole hbad hok (by rw [m1])
    rw [m1] at t2
    dsimp only at t2
    refine ⟨_, t2, ?_⟩
    have hkeep := (take_keeps (N := x) M d xr).1.right
    obtain ⟨j, hj⟩ : ∃ j, min (xs.length : Int) (q - 1) = j := ⟨_, rfl⟩
    have hjb : 0 ≤ j ∧ j ≤ q - 1 := by omega
    rw [hj]
    have hC := hfc false j (by omega) (by omega)
    have hF := hff false j
    obtain ⟨ans, hans⟩ : ∃ z, fitM x.id M.fr x.h.t false j = z := ⟨_, rfl⟩
    rw [hans] at hC hF ⊢
    have hfr : ans.fr = p.id := by rw [← hans]; exact xid
    have hansok : ans.ok = false := by rw [← hans]; rfl
    obtain ⟨y, hy⟩ : ∃ y, max (min (p.nx - 1) (j + 1)) (p.mt + 1) = y := ⟨_, rfl⟩
    have hP : fitP n ans p = ⟨p.id, y, p.mt⟩ := by
      rw [← hans, ← hy]
      rfl
    have hfit : fitN n ans = psN n (⟨p.id, y, p.mt⟩ :: tl) := by
      unfold fitN
      rw [if_pos hC, hF]
      dsimp only
      rw [hansok, hP, nps, hfr, set_first]
      rfl
    have hnr : rightN (fitN n ans) = true := (fit_keeps (N := n) ans nr).1.right
    have hfl : fitL n ans = [sendM (fitN n ans) ⟨p.id, y, p.mt⟩] := by
      unfold fitL
      rw [if_pos hC, hF]
      dsimp only
      rw [hansok, hP]
      rfl
    have hx1 : (takeN x M d).h = x.h := by rw [t1]; rfl
    refine .inr ⟨⟨p.id, y, p.mt⟩, rfl, hfl, ⟨hnr, by rw [hfit]; exact nid, by rw [hfit]; exact nh, by rw [hfit]; exact nrole, ⟨tl, by rw [hfit]; rfl⟩, hkeep, by rw [t1]; exact xid, by rw [t1]; exact (by decide : ¬ (0 : Int) = 2), ⟨xs, by rw [hx1]; exact xh, by rw [hl]; exact xlm, by rw [hl]; exact xag, xml⟩, by rw [t1]; exact xc, .inl ⟨hmt.1, ?_⟩⟩⟩
    dsimp only
    rw [hl]
    omega
theorem okT_take {T : Int} : ∀ (rs : List Rec) (term : Int) (e : Nat), okT T term rs = true → okT T term (rs.take e) = true
  | [], _, _, h => by simpa using h
  | r :: rs, term, 0, _ => rfl
  | r :: rs, term, e + 1, h => by
    rw [List.take_succ_cons]
    rw [okT] at h ⊢
    split at h
    · rename_i hc
      rw [if_pos hc]
      exact okT_take rs r.t e h
    · cases h
theorem sumR_take : ∀ (rs : List Rec) (e : Nat), sumR (rs.take e) ≤ sumR rs
  | [], e => by simp
  | r :: rs, 0 => by simp [sumR]
  | r :: rs, e + 1 => by
    have := sumR_take rs e
    rw [List.take_succ_cons]
    simp only [sumR, List.map_cons, List.sum_cons] at this ⊢
    omega
/-- what a leader's records are for a follower -/
theorem take_right {N : Nd} {M : Ms} (hr : rightN N = true) (hs : smallB N M = true) (hb : N.h.l.base = 0) (e : Nat) : rightH ⟨N.h.t, 0, ⟨0, 0, N.h.l.rs.take e⟩, ⟨#[]⟩, N.h.vs⟩ = true := by
  have h1 := hr
  unfold rightN at h1
  simp only [Bool.and_eq_true] at h1
  have hvs : rightL N.h.vs = true := h1.2.2.1
  have hsh := right_shaped h1.2.1
  have hsb := shaped_bounds hsh
  unfold shapedH logT at hsh
  simp only [Bool.and_eq_true, decide_eq_true_eq] at hsh
  obtain ⟨⟨ht0, _⟩, ⟨⟨⟨⟨⟨⟨⟨hl1, hl2⟩, hl3⟩, hl4⟩, hl5⟩, hl6⟩, hvv⟩, hss⟩⟩ := hsh
  simp only [inB, Bool.and_eq_true, decide_eq_true_eq] at hl1 hl2 ht0
  have hbt : N.h.l.bt = 0 := (right_iff.1 (right_n hr).1).2.2.2.2.1.1 hb
  rw [hbt] at hl6
  have hl7 := okT_take _ _ e hl6
  have hsz := okT_sizes _ _ hl7
  have hsum : N.h.s.size + sumR N.h.l.rs ≤ 30000 := by
    unfold smallB smallE at hs
    cases hk : smallK (N.h.s.size : Int) 0 N.h.l.rs with
    | none => rw [hk] at hs; cases hs
    | some c' =>
      rw [hk] at hs
      simp only [Bool.and_eq_true, decide_eq_true_eq] at hs
      exact smallK_sum _ 0 _ c' (by omega) (fun r hr => (okT_sizes _ _ hl6 r hr).1) hk hs.1
  have hst := sumR_take N.h.l.rs e
  have hle : (N.h.l.rs.take e).length ≤ N.h.l.rs.length := by rw [List.length_take]; omega
  have hdg := right_digits hvs
  have hln := right_len hvs
  have e1 := num_len (n := N.h.t) (by omega) (by omega)
  have e2 := num_len (n := 0) (by omega) (by omega)
  have e5 := itoa_len (n := 0) (by omega) (k := 9) (by omega)
  have e6 := vots_len N.h.vs hdg
  have e7 := recs_len2 (N.h.l.rs.take e) (fun r hr => by
    have := hsz r hr
    exact ⟨⟨by omega, by omega⟩, ⟨this.2.2.2.1, by omega⟩, by omega⟩)
  unfold rightH
  rw [Bool.and_eq_true, decide_eq_true_eq]
  constructor
  · unfold shapedH logT
    simp only [Bool.and_eq_true, decide_eq_true_eq]
    refine ⟨⟨by simp [inB]; omega, by simp [inB]⟩, ⟨⟨⟨⟨⟨⟨by simp [inB], by simp [inB]; omega⟩, by rfl⟩, by omega⟩, by omega⟩, hl7⟩, hvv⟩, by simp [ByteArray.size]⟩
  · unfold encH votEnc recsEnc txtN
    simp only [List.length_cons, List.length_append, show (⟨#[]⟩ : ByteArray).data.toList.length = 0 from rfl, show (⟨#[]⟩ : ByteArray).size = 0 from rfl]
    simp only [show ((0 : Nat) : Int) = 0 from rfl] at *
    omega
/-- the beginning -/
theorem meet_start {N : Nd} {p : Pr} {tl : List Pr} {f : Lg} (hr : rightN N = true) (hrole : N.role = 2) (hps : N.ps = p :: tl) (hb : N.h.l.base = 0) (hfb : f.base = 0) (hx : rightN ⟨p.id, ⟨N.h.t, 0, f, ⟨#[]⟩, N.h.vs⟩, 0, 0, 0, 0, [], []⟩ = true) (ha : apartR N.h.l.rs false f.rs = false) :
    Meet N ⟨p.id, ⟨N.h.t, 0, f, ⟨#[]⟩, N.h.vs⟩, 0, 0, 0, 0, [], []⟩ (psN N (⟨p.id, p.nx, 0⟩ :: tl)) ⟨p.id, ⟨N.h.t, 0, f, ⟨#[]⟩, N.h.vs⟩, 0, 0, 0, 0, [], []⟩ ⟨p.id, p.nx, 0⟩ 0 ∧
    sendL (psN N (⟨p.id, p.nx, 0⟩ :: tl)) p.id = [sendM (psN N (⟨p.id, p.nx, 0⟩ :: tl)) ⟨p.id, p.nx, 0⟩] := by
  have hp := right_parts hr
  have hok := hp.2.2.2.2.2.2.2.2.2
  rw [hps] at hok
  obtain ⟨a1, a2, _⟩ := okPs_iff.1 hok
  have b1 := a1 p (.head _)
  have hlast : lastJ N.h.l = N.h.l.rs.length := by unfold lastJ; omega
  have hnr : rightN (psN N (⟨p.id, p.nx, 0⟩ :: tl)) = true := by
    refine right_of ⟨hp.1, hp.2.1, hp.2.2.1, hp.2.2.2.1, hp.2.2.2.2.1, hp.2.2.2.2.2.1, hp.2.2.2.2.2.2.1, hp.2.2.2.2.2.2.2.1, hp.2.2.2.2.2.2.2.2.1, okPs_iff.2 ⟨fun x hx => ?_, ?_, fun u hu => by cases hu⟩⟩
    · rcases List.mem_cons.1 hx with rfl | hx
      · exact ⟨b1.1, b1.2.1, b1.2.2.1, by dsimp only; omega⟩
      · exact a1 x (.tail _ hx)
    · show (⟨p.id, p.nx, 0⟩ :: tl).Pairwise (fun p q : Pr => p.id < q.id)
      rw [List.pairwise_cons] at a2 ⊢
      exact a2
  have hfj := right_iff.1 (right_n hx).1
  dsimp only at hfj
  have hfbt : f.bt = 0 := hfj.2.2.2.2.1.1 hfb
  refine ⟨⟨hnr, rfl, rfl, hrole, ⟨tl, rfl⟩, hx, rfl, (by decide : ¬ (0 : Int) = 2), ⟨f.rs, ?_, lm_of ha, by simp, by dsimp only; omega⟩, Int.le_refl _, .inl ⟨rfl, ?_⟩⟩, ?_⟩
  · obtain ⟨fb, ft, fr⟩ := f
    dsimp only at hfb hfbt
    subst hfb hfbt
    rfl
  · have := b1.2.2.1
    dsimp only
    omega
  · unfold sendL
    rw [hnr]
    show (if (true && N.role == 2) = true then (match findP p.id (⟨p.id, p.nx, 0⟩ :: tl) with | some p => [sendM _ p] | none => []) else []) = _
    rw [hrole, show findP p.id (⟨p.id, p.nx, 0⟩ :: tl) = some ⟨p.id, p.nx, 0⟩ from find_first ⟨p.id, p.nx, 0⟩ tl]
    rfl
end Go.Proofs.YtncdjmpdbinanaaGreatDoor
