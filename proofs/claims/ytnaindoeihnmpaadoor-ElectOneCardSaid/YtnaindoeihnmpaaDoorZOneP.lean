/-
  WHAT IS PROVED HERE: of two that ask nodes of the same voters for their votes in one term no two have a majority: plain, no program. No condition.
-/
import Derived.Test.YtnaindoeihnmpaaDoorZGKep
import Derived.Test.YtnaindoeihnmpaaDoorZQrmP
namespace Go.Proofs.YtnaindoeihnmpaaDoor
open Go.RowKit

def noM : Ms := ⟨0, 0, 0, 0, false, 0, 0, [], 0, ⟨#[]⟩, []⟩
/-- a node that has nothing, of these voters -/
def bareN (V : List Int) (t v : Int) : Nd := ⟨v, ⟨t, 0, ⟨0, 0, []⟩, ⟨#[]⟩, V⟩, 0, 0, 0, 0, [], []⟩
/-- what every node of the play is -/
def NdB (V : List Int) (T v : Int) (N : Nd) : Prop := N.id = v ∧ rightN N = true ∧ N.h.l = ⟨0, 0, []⟩ ∧ N.h.s = ⟨#[]⟩ ∧ N.h.vs = V ∧ T - 1 ≤ N.h.t ∧ N.h.t ≤ T
theorem ndb_small {V : List Int} {T v : Int} {N : Nd} (h : NdB V T v N) : smallB N noM = true := by
  obtain ⟨_, _, h1, h2, _⟩ := h
  unfold smallB
  rw [h1, h2]
  rfl
theorem ndb_voters {V : List Int} {T v : Int} {N : Nd} (h : NdB V T v N) : votersN N = V := by
  obtain ⟨_, _, h1, _, h3, _⟩ := h
  unfold votersN
  rw [h1, h3]
  rfl
theorem bare_right {V : List Int} (hV : rightL V = true) {t v : Int} (ht : 0 ≤ t ∧ t ≤ 1073741824) (hv : 1 ≤ v ∧ v ≤ 9) : rightN (bareN V t v) = true := by
  have hdg := right_digits hV
  have hln := right_len hV
  have hasc : ascL none V = true := by
    unfold rightL at hV
    simp only [Bool.and_eq_true] at hV
    exact hV.1
  refine right_of ⟨(show inB v 1 9 = true by simp [inB]; omega), ?_, hV, rfl, rfl, rfl, rfl, rfl, rfl, rfl⟩
  have e1 := num_len (n := t) (by omega) ht.2
  have e2 := num_len (n := 0) (by omega) (by omega)
  have e5 := itoa_len (n := 0) (by omega) (k := 9) (by omega)
  have e6 := vots_len V hdg
  unfold rightH bareN
  rw [Bool.and_eq_true, decide_eq_true_eq]
  constructor
  · unfold shapedH logT
    simp only [Bool.and_eq_true, decide_eq_true_eq]
    refine ⟨⟨(show inB t 0 1073741824 = true by simp [inB]; omega), rfl⟩, ⟨⟨⟨⟨⟨⟨rfl, (show inB 0 0 t = true by simp [inB]; omega)⟩, rfl⟩, by simp⟩, by simp⟩, rfl⟩, ⟨hasc, hln.2⟩⟩, by simp [ByteArray.size]⟩
  · unfold encH votEnc recsEnc txtN
    have e8 : ((⟨#[]⟩ : ByteArray).data.toList).length = 0 := rfl
    have e9 : ((⟨#[]⟩ : ByteArray).size : Int) = 0 := rfl
    simp only [List.length_cons, List.length_append, e8, e9, List.flatMap_nil]
    omega
theorem ndb_bare {V : List Int} (hV : rightL V = true) {T v : Int} (hT : 1 ≤ T ∧ T ≤ 1073741824) (hv : v ∈ V) : NdB V T v (bareN V (T - 1) v) :=
  ⟨rfl, bare_right hV (by omega) (right_digits hV v hv), rfl, rfl, rfl, Int.le_refl _, by show T - 1 ≤ T; omega⟩
theorem ndb_later {V : List Int} {T v : Int} {N : Nd} (h : NdB V T v N) : NdB V T v (laterN N T) := by
  have h0 := h
  have hs := ndb_small h
  obtain ⟨h1, h2, h3, h4, h5, h6, h7⟩ := h
  unfold laterN
  cases hc : laterC N T with
  | false => exact h0
  | true =>
    refine ⟨h1, ?_, h3, h4, h5, by show T - 1 ≤ T; omega, Int.le_refl _⟩
    have := keep_later h2 hs T
    unfold laterN at this
    rw [hc] at this
    exact this
theorem later_t {V : List Int} {T v : Int} {N : Nd} (h : NdB V T v N) (hT : T ≤ 1073741824) : (laterN N T).h.t = T := by
  obtain ⟨h1, h2, h3, h4, h5, h6, h7⟩ := h
  unfold laterN laterC
  rw [h2]
  by_cases hc : N.h.t < T
  · simp [hc, hT]
  · simp only [hc, decide_false, Bool.false_and, Bool.and_false, Bool.false_eq_true, if_false]
    omega
theorem later_same {N : Nd} {T : Int} (h : N.h.t = T) : laterN N T = N := by
  unfold laterN laterC
  rw [h]
  simp
theorem ndb_vote {V : List Int} {T v : Int} {N : Nd} (h : NdB V T v N) (M : Ms) (d : Int) : NdB V T v (voteN N M d) := by
  have h0 := h
  have hs := ndb_small h
  obtain ⟨h1, h2, h3, h4, h5, h6, h7⟩ := h
  have hk := keep_vote (M := M) h2 hs d
  unfold voteN at hk ⊢
  cases hc : voteP N M && voteG N M with
  | false => exact h0
  | true =>
    rw [hc] at hk
    exact ⟨h1, hk, h3, h4, h5, h6, h7⟩
theorem ndb_count {V : List Int} {T v : Int} {N : Nd} (h : NdB V T v N) (M : Ms) : NdB V T v (countN N M) := by
  have h0 := h
  obtain ⟨h1, h2, h3, h4, h5, h6, h7⟩ := h
  have hk := keep_count (M := M) h2
  unfold countN at hk ⊢
  cases hc : countC N M with
  | false => exact h0
  | true =>
    rw [hc] at hk
    exact ⟨h1, hk, h3, h4, h5, h6, h7⟩
theorem inL_of {x : Int} {l : List Int} (h : x ∈ l) : inL x l = true := (inL_iff x l).2 h
/-- who stands up -/
theorem stand_bare {V : List Int} (hV : rightL V = true) {T v : Int} (hT : 1 ≤ T ∧ T ≤ 1073741824) (hv : v ∈ V) : standC (bareN V (T - 1) v) = true ∧ standN (bareN V (T - 1) v) 10 = upN (bareN V (T - 1) v) 10 ∧ standL (bareN V (T - 1) v) = asks v T 0 0 V ∧ NdB V T v (upN (bareN V (T - 1) v) 10) ∧ (standW (bareN V (T - 1) v) = true → winsL V [v] = true) := by
  have hb := ndb_bare hV hT hv
  have hvt := ndb_voters hb
  have hc : standC (bareN V (T - 1) v) = true := by
    unfold standC
    rw [hb.2.1, hvt]
    have : (bareN V (T - 1) v).h.t < 1073741824 := by show T - 1 < 1073741824; omega
    simp only [this, decide_true, Bool.true_and]
    exact inL_of hv
  have hn : standN (bareN V (T - 1) v) 10 = upN (bareN V (T - 1) v) 10 := by
    unfold standN
    rw [hb.2.1, hc]
    rfl
  refine ⟨hc, hn, ?_, ?_, fun h => ?_⟩
  · unfold standL
    rw [hc, hvt]
    have : (bareN V (T - 1) v).h.t + 1 = T := by show T - 1 + 1 = T; omega
    rw [this]
    rfl
  · have hk := keep_stand hb.2.1 (ndb_small hb) 10
    rw [hn] at hk
    exact ⟨rfl, hk, rfl, rfl, rfl, by show T - 1 ≤ T - 1 + 1; omega, by show T - 1 + 1 ≤ T; omega⟩
  · unfold standW at h
    rw [Bool.and_eq_true, hvt] at h
    exact h.2
/-- a message that asks, of the play -/
def AskB (V : List Int) (T one two : Int) (m : Ms) : Prop := mayM m = true ∧ m.kind = 1 ∧ (m.fr = one ∨ m.fr = two) ∧ m.to ∈ V ∧ m.to ≠ m.fr ∧ m.term = T ∧ m.index = 0 ∧ m.lterm = 0 ∧ m.rs = [] ∧ m.vs = [] ∧ m.s.size = 0
theorem asks_b {V : List Int} (hV : rightL V = true) {T one two v : Int} (hT : 1 ≤ T ∧ T ≤ 1073741824) (hv : v ∈ V) (h12 : v = one ∨ v = two) : ∀ m ∈ asks v T 0 0 V, AskB V T one two m := by
  intro m hm
  have hs := stand_bare hV hT hv
  have hmay := ask_may (N := bareN V (T - 1) v) (ndb_bare hV hT hv).2.1 (x := m) (by rw [hs.2.2.1]; exact hm)
  unfold asks at hm
  obtain ⟨u, hu, rfl⟩ := List.mem_map.1 hm
  rw [List.mem_filter] at hu
  exact ⟨hmay.1, rfl, h12, hu.1, by simpa [askM] using hu.2, rfl, rfl, rfl, rfl, rfl, rfl⟩
def updN (f : Int → Nd) (i : Int) (N : Nd) : Int → Nd := fun j => if j = i then N else f j
def updB (f : Int → Bool) (i : Int) (b : Bool) : Int → Bool := fun j => if j = i then b else f j
/-- what holds of the play all along -/
structure InvP (V : List Int) (T one two : Int) (f : Int → Nd) (won : Int → Bool) : Prop where
  nd : ∀ v ∈ V, NdB V T v (f v)
  top : ∀ c, c = one ∨ c = two → (f c).h.t = T
  got : ∀ c, c = one ∨ c = two → ∀ x ∈ (f c).got, x ∈ V ∧ (f x).h.t = T ∧ (f x).h.v = c
  win : ∀ c, c = one ∨ c = two → won c = true → winsL V (f c).got = true
theorem inv_end {V : List Int} (hV : rightL V = true) {T one two : Int} {f : Int → Nd} {won : Int → Bool} (h : InvP V T one two f won) (h12 : one ≠ two) : (!won one || !won two) = true := by
  cases h1 : won one with
  | false => rfl
  | true =>
    cases h2 : won two with
    | false => rfl
    | true =>
      exfalso
      have a := h.win one (.inl rfl) h1
      have b := h.win two (.inr rfl) h2
      unfold winsL at a b
      simp only [Bool.and_eq_true, decide_eq_true_eq] at a b
      have hall : cntL V V = V.length := by
        rw [cntL_eq]
        have := cntP_not (fun x => inL x V) V
        have z : cntP (fun x => !inL x V) V = 0 := by
          have hz : ∀ l : List Int, (∀ x ∈ l, inL x V = true) → cntP (fun x => !inL x V) l = 0 := by
            intro l
            induction l with
            | nil => intro _; rfl
            | cons x l ih =>
              intro hl
              simp only [cntP, hl x (.head _), Bool.not_true, Bool.toNat_false, Nat.zero_add]
              exact ih (fun y hy => hl y (.tail _ hy))
          exact hz V (fun x hx => inL_of hx)
        omega
      obtain ⟨v, hv, ha, hb⟩ := majorities_meet (right_ones hV) (right_ones hV) (by rw [hall]; omega) a.2 b.2
      have x1 := (h.got one (.inl rfl) v ha).2.2
      have x2 := (h.got two (.inr rfl) v hb).2.2
      exact h12 (x1.symm.trans x2)
theorem cntL_mono {a b : List Int} (h : ∀ x ∈ a, x ∈ b) : ∀ V : List Int, cntL a V ≤ cntL b V
  | [] => Nat.le_refl _
  | x :: xs => by
    have ih := cntL_mono h xs
    unfold cntL
    by_cases hx : inL x a = true
    · have hb : inL x b = true := inL_of (h x ((inL_iff _ _).1 hx))
      rw [if_pos hx, if_pos hb]
      omega
    · rw [if_neg hx]
      split <;> omega
theorem wins_mono {V a b : List Int} (h : ∀ x ∈ a, x ∈ b) (hw : winsL V a = true) : winsL V b = true := by
  unfold winsL at hw ⊢
  simp only [Bool.and_eq_true, decide_eq_true_eq] at hw ⊢
  have := cntL_mono h V
  exact ⟨hw.1, by omega⟩
theorem gotM_mem {g : List Int} {x y : Int} : y ∈ gotM g x ↔ y = x ∨ y ∈ g := by
  unfold gotM
  split
  · rename_i h
    have : x ∈ g := by simpa using h
    constructor
    · exact fun hy => .inr hy
    · rintro (rfl | hy)
      · exact this
      · exact hy
  · constructor
    · intro hy
      rw [List.mem_append, List.mem_cons] at hy
      rcases hy with hy | rfl | hy
      · exact .inr (List.mem_of_mem_take hy)
      · exact .inl rfl
      · exact .inr (List.mem_of_mem_drop hy)
    · intro hy
      rw [List.mem_append, List.mem_cons]
      rcases hy with rfl | hy
      · exact .inr (.inl rfl)
      · rw [← List.take_append_drop (posL x g) g, List.mem_append] at hy
        rcases hy with hy | hy
        · exact .inl hy
        · exact .inr (.inr hy)
/-- a vote that is asked for is answered -/
theorem voteP_ask {V : List Int} {T one two : Int} {N : Nd} {m : Ms} (hT : T ≤ 1073741824) (hm : AskB V T one two m) (h : NdB V T m.to N) : voteP (laterN N T) m = true := by
  have hl := ndb_later h
  have ht := later_t h hT
  obtain ⟨a1, a2, a3, a4, a5, a6, _⟩ := hm
  unfold voteP
  rw [hl.2.1, a1, a2, hl.1, ht, a6]
  simp
def ansM (N : Nd) (m : Ms) : Ms := ⟨2, N.id, m.fr, N.h.t, voteG N m, 0, 0, [], 0, ⟨#[]⟩, []⟩
/-- one message is told, and its answer -/
theorem inv_step {V : List Int} (hV : rightL V = true) {T one two : Int} (hT : 1 ≤ T ∧ T ≤ 1073741824) (h1 : one ∈ V) (h2 : two ∈ V) {f : Int → Nd} {won : Int → Bool} (h : InvP V T one two f won) {m : Ms} (hm : AskB V T one two m) {N1 N2 C : Nd} {wn : Bool}
    (e1 : laterN (f m.to) T = N1) (e2 : voteN N1 m 10 = N2) (e3 : countN (f m.fr) (ansM N1 m) = C) (e4 : countW (f m.fr) (ansM N1 m) = wn) :
    InvP V T one two (updN (updN f m.to N2) m.fr C) (updB won m.fr (won m.fr || wn)) := by
  obtain ⟨a1, a2, a3, a4, a5, a6, _⟩ := hm
  have hfr : m.fr ∈ V := by rcases a3 with e | e <;> rw [e] <;> assumption
  have n1 : NdB V T m.to N1 := by rw [← e1]; exact ndb_later (h.nd _ a4)
  have t1 : N1.h.t = T := by rw [← e1]; exact later_t (h.nd _ a4) hT.2
  have n2 : NdB V T m.to N2 := by rw [← e2]; exact ndb_vote n1 m 10
  have nc : NdB V T m.fr C := by rw [← e3]; exact ndb_count (h.nd _ hfr) _
  have t2 : N2.h.t = T := by
    rw [← e2]
    unfold voteN
    split <;> exact t1
  have hC : C.h = (f m.fr).h ∧ (∀ x ∈ (f m.fr).got, x ∈ C.got) ∧ (∀ x ∈ C.got, x ∈ (f m.fr).got ∨ (x = m.to ∧ voteG N1 m = true)) ∧ (wn = true → winsL V C.got = true) := by
    rw [← e3, ← e4]
    unfold countN countW
    cases hc : countC (f m.fr) (ansM N1 m) with
    | false => exact ⟨rfl, fun x hx => hx, fun x hx => .inl hx, fun e => by cases e⟩
    | true =>
      refine ⟨rfl, fun x hx => gotM_mem.2 (.inr hx), fun x hx => ?_, fun e => ?_⟩
      · rcases gotM_mem.1 hx with e | hx
        · right
          refine ⟨e.trans n1.1, ?_⟩
          unfold countC at hc
          simp only [Bool.and_eq_true] at hc
          exact hc.2.2.2.2.2.1
        · exact .inl hx
      · rw [Bool.true_and, ndb_voters (h.nd _ hfr)] at e
        exact e
  obtain ⟨c1, c2, c3, c4⟩ := hC
  have hne : m.to ≠ m.fr := a5
  have fto : updN (updN f m.to N2) m.fr C m.to = N2 := by simp [updN, hne]
  have ffr : updN (updN f m.to N2) m.fr C m.fr = C := by simp [updN]
  have foth : ∀ x, x ≠ m.to → x ≠ m.fr → updN (updN f m.to N2) m.fr C x = f x := fun x hx hy => by simp [updN, hx, hy]
  -- of a candidate that is told of
  have htop2 : (m.to = one ∨ m.to = two) → N1 = f m.to := fun e => by rw [← e1]; exact later_same (h.top _ e)
  have hkeepv : ∀ c, c = one ∨ c = two → (f m.to).h.t = T → (f m.to).h.v = c → N2.h.v = c := by
    intro c hc ht hv
    have hc0 : c ≠ 0 := by
      have : c ∈ V := by rcases hc with e | e <;> rw [e] <;> assumption
      have := right_digits hV c this
      omega
    have e : N1 = f m.to := by rw [← e1]; exact later_same ht
    rw [← e2]
    unfold voteN
    cases hg : voteP N1 m && voteG N1 m with
    | false => rw [e]; exact hv
    | true =>
      rw [Bool.and_eq_true] at hg
      have g := hg.2
      unfold voteG at g
      simp only [Bool.and_eq_true, Bool.or_eq_true, beq_iff_eq] at g
      rw [e, hv] at g
      rcases g.2.1 with z | z
      · exact absurd z hc0
      · exact z.symm
  refine ⟨fun v hv => ?_, fun c hc => ?_, fun c hc x hx => ?_, fun c hc hw => ?_⟩
  · by_cases x1 : v = m.fr
    · subst x1; rw [ffr]; exact nc
    by_cases x2 : v = m.to
    · subst x2; rw [fto]; exact n2
    rw [foth v x2 x1]
    exact h.nd v hv
  · by_cases x1 : c = m.fr
    · subst x1; rw [ffr, c1]; exact h.top _ a3
    by_cases x2 : c = m.to
    · subst x2; rw [fto]; exact t2
    rw [foth c x2 x1]
    exact h.top c hc
  · -- who voted for a candidate
    have old : ∀ y ∈ (f c).got, y ∈ V ∧ (updN (updN f m.to N2) m.fr C y).h.t = T ∧ (updN (updN f m.to N2) m.fr C y).h.v = c := by
      intro y hy
      obtain ⟨b1, b2, b3⟩ := h.got c hc y hy
      refine ⟨b1, ?_⟩
      by_cases y1 : y = m.fr
      · subst y1; rw [ffr, c1]; exact ⟨b2, b3⟩
      by_cases y2 : y = m.to
      · subst y2; rw [fto]; exact ⟨t2, hkeepv c hc b2 b3⟩
      rw [foth y y2 y1]
      exact ⟨b2, b3⟩
    by_cases x1 : c = m.fr
    · subst x1
      rw [ffr] at hx
      rcases c3 x hx with hx | ⟨rfl, hg⟩
      · exact old x hx
      · refine ⟨a4, ?_⟩
        rw [fto]
        refine ⟨t2, ?_⟩
        have hp : voteP N1 m = true := by rw [← e1]; exact voteP_ask hT.2 ⟨a1, a2, a3, a4, a5, a6, by assumption⟩ (h.nd _ a4)
        rw [← e2]
        unfold voteN
        rw [hp, hg]
        rfl
    by_cases x2 : c = m.to
    · subst x2
      rw [fto] at hx
      have : N2.got = (f m.to).got := by
        rw [← e2]
        unfold voteN
        split <;> rw [htop2 hc]
      rw [this] at hx
      exact old x hx
    rw [foth c x2 x1] at hx
    exact old x hx
  · by_cases x1 : c = m.fr
    · subst x1
      rw [ffr]
      simp only [updB, if_true, Bool.or_eq_true] at hw
      rcases hw with hw | hw
      · exact wins_mono c2 (h.win _ hc hw)
      · exact c4 hw
    have hw' : won c = true := by simpa [updB, x1] using hw
    have := h.win c hc hw'
    by_cases x2 : c = m.to
    · subst x2
      rw [fto]
      have e : N2.got = (f m.to).got := by
        rw [← e2]
        unfold voteN
        split <;> rw [htop2 hc]
      rw [e]
      exact this
    rw [foth c x2 x1]
    exact this
/-- how the play begins -/
theorem inv_start {V : List Int} (hV : rightL V = true) {T one two : Int} (hT : 1 ≤ T ∧ T ≤ 1073741824) (h1 : one ∈ V) (h2 : two ∈ V) (h12 : one ≠ two) {won : Int → Bool} (w1 : won one = standW (bareN V (T - 1) one)) (w2 : won two = standW (bareN V (T - 1) two)) :
    InvP V T one two (updN (updN (bareN V (T - 1)) one (upN (bareN V (T - 1) one) 10)) two (upN (bareN V (T - 1) two) 10)) won := by
  have s1 := stand_bare hV hT h1
  have s2 := stand_bare hV hT h2
  have f1 : updN (updN (bareN V (T - 1)) one (upN (bareN V (T - 1) one) 10)) two (upN (bareN V (T - 1) two) 10) one = upN (bareN V (T - 1) one) 10 := by simp [updN, h12]
  have f2 : updN (updN (bareN V (T - 1)) one (upN (bareN V (T - 1) one) 10)) two (upN (bareN V (T - 1) two) 10) two = upN (bareN V (T - 1) two) 10 := by simp [updN]
  have ut : ∀ v, (upN (bareN V (T - 1) v) 10).h.t = T := fun v => by show T - 1 + 1 = T; omega
  refine ⟨fun v hv => ?_, fun c hc => ?_, fun c hc x hx => ?_, fun c hc hw => ?_⟩
  · by_cases x2 : v = two
    · subst x2; rw [f2]; exact s2.2.2.2.1
    by_cases x1 : v = one
    · subst x1; rw [f1]; exact s1.2.2.2.1
    simp only [updN, x1, x2, if_false]
    exact ndb_bare hV hT hv
  · rcases hc with rfl | rfl
    · rw [f1]; exact ut _
    · rw [f2]; exact ut _
  · rcases hc with rfl | rfl
    · rw [f1] at hx
      obtain rfl : x = c := by simpa [upN, bareN] using hx
      rw [f1]
      exact ⟨h1, ut _, rfl⟩
    · rw [f2] at hx
      obtain rfl : x = c := by simpa [upN, bareN] using hx
      rw [f2]
      exact ⟨h2, ut _, rfl⟩
  · rcases hc with rfl | rfl
    · rw [f1]
      exact s1.2.2.2.2 (by rw [← w1]; exact hw)
    · rw [f2]
      exact s2.2.2.2.2 (by rw [← w2]; exact hw)
end Go.Proofs.YtnaindoeihnmpaaDoor
