/-
  WHAT IS PROVED HERE: rules as data; which rules may be, and whether one holds of an amount: what plural.Right and plural.Holds hand back. Conditions: at most 2^43 elements a slice.
-/
import Derived.Test.YtfafinnklniniaaDoorEnds
import Derived.Test.YtfafinnklniniaaDoorMem
namespace Go.Proofs.YtfafinnklniniaaDoor
open Go.RowKit

structure Rl where
  mod : Int
  not : Bool
  spans : List (Int × Int)
deriving DecidableEq
abbrev Sl := Option Addr × Nat × Nat
def slV (v : Sl) : Value := .slice v.1 v.2.1 v.2.2
def spanC (s : Int × Int) : List Value := [.int .i64 s.1, .int .i64 s.2]
def Spans (w : World) (B : Nat) (A : Option Addr) (n : Nat) (l : List (Int × Int)) : Prop := Reads w B 45 2 A n (l.flatMap spanC)
def relC (z : Rl × Sl) : List Value := [.int .i64 z.1.mod, .bool z.1.not, slV z.2]
def Rels (w : World) (B : Nat) (A : Option Addr) (n : Nat) (l : List Rl) : Prop :=
  ∃ zs : List (Rl × Sl), zs.map (·.1) = l ∧ Reads w B 37 3 A n (zs.flatMap relC) ∧ ∀ z ∈ zs, Spans w B z.2.1 z.2.2.1 z.1.spans ∧ z.2.2.1 ≤ 8796093022208
def Rule (w : World) (B : Nat) (A : Option Addr) (n : Nat) (l : List (List Rl)) : Prop :=
  ∃ zs : List (List Rl × Sl), zs.map (·.1) = l ∧ Reads w B 34 1 A n (zs.map fun z => slV z.2) ∧ ∀ z ∈ zs, Rels w B z.2.1 z.2.2.1 z.1 ∧ z.2.2.1 ≤ 8796093022208
theorem spanL_len : ∀ l : List (Int × Int), (l.flatMap spanC).length = l.length * 2
  | [] => rfl
  | s :: l => by have := spanL_len l; simp only [List.flatMap_cons, List.length_append, this, spanC, List.length_cons, List.length_nil]; omega
theorem relL_len : ∀ l : List (Rl × Sl), (l.flatMap relC).length = l.length * 3
  | [] => rfl
  | s :: l => by have := relL_len l; simp only [List.flatMap_cons, List.length_append, this, relC, List.length_cons, List.length_nil]; omega
theorem spanL_at : ∀ (l : List (Int × Int)) (k : Nat) (s : Int × Int), l[k]? = some s → (l.flatMap spanC)[k * 2]? = some (.int .i64 s.1) ∧ (l.flatMap spanC)[k * 2 + 1]? = some (.int .i64 s.2)
  | s :: l, 0, s', h => by
    simp only [List.getElem?_cons_zero, Option.some.injEq] at h
    subst h
    simp [spanC]
  | s :: l, k + 1, s', h => by
    have ih := spanL_at l k s' (by simpa using h)
    have e : ∀ j, ((s :: l).flatMap spanC)[j + 2]? = (l.flatMap spanC)[j]? := by intro j; simp [spanC]
    rw [show (k + 1) * 2 = k * 2 + 2 from by omega, show k * 2 + 2 + 1 = k * 2 + 1 + 2 from by omega, e, e]
    exact ih
theorem relL_at : ∀ (l : List (Rl × Sl)) (k : Nat) (z : Rl × Sl), l[k]? = some z → (l.flatMap relC)[k * 3]? = some (.int .i64 z.1.mod) ∧ (l.flatMap relC)[k * 3 + 1]? = some (.bool z.1.not) ∧ (l.flatMap relC)[k * 3 + 2]? = some (slV z.2)
  | s :: l, 0, s', h => by
    simp only [List.getElem?_cons_zero, Option.some.injEq] at h
    subst h
    simp [relC]
  | s :: l, k + 1, s', h => by
    have ih := relL_at l k s' (by simpa using h)
    have e : ∀ j, ((s :: l).flatMap relC)[j + 3]? = (l.flatMap relC)[j]? := by intro j; simp [relC]
    rw [show (k + 1) * 3 = k * 3 + 3 from by omega, show k * 3 + 3 + 1 = k * 3 + 1 + 3 from by omega, show k * 3 + 3 + 2 = k * 3 + 2 + 3 from by omega, e, e, e]
    exact ih
section
variable {w w' : World} {B B' n : Nat} {A : Option Addr}
theorem Spans.len {l : List (Int × Int)} (h : Spans w B A n l) : l.length = n := by have := h.1; rw [spanL_len] at this; omega
theorem Spans.to {l : List (Int × Int)} (h : Spans w B A n l) (hb : Below w.heap.size w w') : Spans w' B A n l := Reads.to h hb
theorem Spans.at_ {l : List (Int × Int)} {k : Nat} (h : Spans w B A n l) (hk : k < n) :
    ∃ b o s, A = some ⟨b, o, none⟩ ∧ b < w.heap.size ∧ Hid (l.drop k = s :: l.drop (k + 1)) ∧ w.cell? ⟨b, o + k * 2, none⟩ = some (.int .i64 s.1) ∧ w.cell? ⟨b, o + k * 2 + 1, none⟩ = some (.int .i64 s.2) := by
  have h' : Reads w B 45 2 A n (l.flatMap spanC) := h
  obtain ⟨b, o, e, hb, _, hc⟩ := h'.2 (by omega)
  have hl : k < l.length := by have := h.len; omega
  obtain ⟨c0, c1⟩ := spanL_at l k l[k] (List.getElem?_eq_getElem hl)
  exact ⟨b, o, l[k], e, hb, List.drop_eq_getElem_cons hl, hc _ _ c0, hc _ _ c1⟩
theorem Rels.len {l : List Rl} (h : Rels w B A n l) : l.length = n := by
  obtain ⟨zs, rfl, h1, _⟩ := h
  have := h1.1
  rw [relL_len] at this
  simp; omega
theorem Rels.to {l : List Rl} (h : Rels w B A n l) (hb : Below w.heap.size w w') : Rels w' B A n l := by
  obtain ⟨zs, h0, h1, h2⟩ := h
  exact ⟨zs, h0, h1.to hb, fun z hz => ⟨(h2 z hz).1.to hb, (h2 z hz).2⟩⟩
theorem drop_of_get {α : Type} {l : List α} {k : Nat} {x : α} (h : l[k]? = some x) : l.drop k = x :: l.drop (k + 1) := by
  obtain ⟨hl, rfl⟩ := List.getElem?_eq_some_iff.1 h
  exact List.drop_eq_getElem_cons hl
theorem Rels.at_ {l : List Rl} {k : Nat} (h : Rels w B A n l) (hk : k < n) :
    ∃ b o x v, A = some ⟨b, o, none⟩ ∧ b < w.heap.size ∧ Hid (l.drop k = x :: l.drop (k + 1)) ∧ w.cell? ⟨b, o + k * 3, none⟩ = some (.int .i64 x.mod) ∧ w.cell? ⟨b, o + k * 3 + 1, none⟩ = some (.bool x.not) ∧ w.cell? ⟨b, o + k * 3 + 2, none⟩ = some (slV v) ∧ Spans w B v.1 v.2.1 x.spans ∧ v.2.1 ≤ 8796093022208 := by
  have hlen := h.len
  obtain ⟨zs, rfl, h1, h2⟩ := h
  obtain ⟨b, o, e, hb, _, hc⟩ := h1.2 (by omega)
  have hl : k < zs.length := by simp at hlen; omega
  obtain ⟨c0, c1, c2⟩ := relL_at zs k zs[k] (List.getElem?_eq_getElem hl)
  exact ⟨b, o, zs[k].1, zs[k].2, e, hb, drop_of_get (by simp [List.getElem?_eq_getElem hl]), hc _ _ c0, hc _ _ c1, hc _ _ c2, h2 _ (List.getElem_mem hl)⟩
theorem Rule.len {l : List (List Rl)} (h : Rule w B A n l) : l.length = n := by
  obtain ⟨zs, rfl, h1, _⟩ := h
  have := h1.1
  simp at this ⊢; omega
theorem Rule.to {l : List (List Rl)} (h : Rule w B A n l) (hb : Below w.heap.size w w') : Rule w' B A n l := by
  obtain ⟨zs, h0, h1, h2⟩ := h
  exact ⟨zs, h0, h1.to hb, fun z hz => ⟨(h2 z hz).1.to hb, (h2 z hz).2⟩⟩
theorem Rule.at_ {l : List (List Rl)} {k : Nat} (h : Rule w B A n l) (hk : k < n) :
    ∃ b o x v, A = some ⟨b, o, none⟩ ∧ b < w.heap.size ∧ Hid (l.drop k = x :: l.drop (k + 1)) ∧ w.cell? ⟨b, o + k, none⟩ = some (slV v) ∧ Rels w B v.1 v.2.1 x ∧ v.2.1 ≤ 8796093022208 := by
  have hlen := h.len
  obtain ⟨zs, rfl, h1, h2⟩ := h
  obtain ⟨b, o, e, hb, _, hc⟩ := h1.2 (by omega)
  have hl : k < zs.length := by simp at hlen; omega
  exact ⟨b, o, zs[k].1, zs[k].2, e, hb, drop_of_get (by simp [List.getElem?_eq_getElem hl]), hc _ _ (by simp [List.getElem?_eq_getElem hl]), h2 _ (List.getElem_mem hl)⟩
theorem Spans.end_ {l : List (Int × Int)} {k : Nat} (h : Spans w B A n l) (hlt : ¬ k < n) : l.drop k = [] := List.drop_eq_nil_of_le (by have := h.len; omega)
theorem Rels.end_ {l : List Rl} {k : Nat} (h : Rels w B A n l) (hlt : ¬ k < n) : l.drop k = [] := List.drop_eq_nil_of_le (by have := h.len; omega)
theorem Rule.end_ {l : List (List Rl)} {k : Nat} (h : Rule w B A n l) (hlt : ¬ k < n) : l.drop k = [] := List.drop_eq_nil_of_le (by have := h.len; omega)
end

theorem cell_lt_ {w : World} {p : Addr} {v : Value} (h : w.cell? p = some v) : p.block < w.heap.size := by
  rcases Nat.lt_or_ge p.block w.heap.size with hlt | hge
  · exact hlt
  · unfold World.cell? at h
    rw [Array.getElem?_eq_none hge] at h
    cases h
/-- the first place of one that is such -/
def fidx {α : Type} (p : α → Bool) : Nat → List α → Int
  | _, [] => -1
  | k, x :: l => if p x then k else fidx p (k + 1) l
theorem fidx_any {α : Type} (p : α → Bool) : ∀ (l : List α) (k : Nat), decide (0 ≤ fidx p k l) = l.any p
  | [], k => rfl
  | x :: l, k => by
    unfold fidx
    cases h : p x
    · simp [fidx_any p l, h]
    · simp [h]
def spanOk (s : Int × Int) : Bool := decide (0 ≤ s.1) && decide (s.1 ≤ s.2) && decide (s.2 ≤ 1000000)
def relOk (x : Rl) : Bool := decide (x.mod = 0 ∨ (2 ≤ x.mod ∧ x.mod ≤ 1000000)) && decide (1 ≤ x.spans.length ∧ x.spans.length ≤ 10) && x.spans.all spanOk
def rowOk (r : List Rl) : Bool := decide (1 ≤ r.length ∧ r.length ≤ 10) && r.all relOk
def ruleOk (r : List (List Rl)) : Bool := decide (1 ≤ r.length ∧ r.length ≤ 10) && r.all rowOk
def inSpan (m : Int) (s : Int × Int) : Bool := decide (s.1 ≤ m) && decide (m ≤ s.2)
def restOf (m : Int) (x : Rl) : Int := if 0 < x.mod then m % x.mod else m
def relHolds (m : Int) (x : Rl) : Bool := x.spans.any (inSpan (restOf m x)) != x.not
def rowHolds (m : Int) (r : List Rl) : Bool := r.all (relHolds m)
def ruleHolds (m : Int) (r : List (List Rl)) : Bool := r.any (rowHolds m)

theorem span_any (lo hi : Int) (w : World) : Calls Tryd.prog 31 #[.agg #[.int .i64 lo, .int .i64 hi]] w fun e w' => e = .returned (.bool (spanOk (lo, hi))) ∧ Below w.heap.size w w' := by
  have hb1 : Below w.heap.size w (w.alloc (.cells #[.int .i64 lo, .int .i64 hi] 45)) := (Below.refl _ w).alloc (Nat.le_refl _) _
  by_cases h1 : 0 ≤ lo
  · by_cases h2 : lo ≤ hi
    · by_cases h3 : hi ≤ 1000000
      · refine calls_of_wpQ Tryd.func31 rfl ?_
        intro Q hQ
        simp only [Tryd.ntmps31, List.size_toArray, List.length_cons, List.length_nil, Nat.reduceAdd, Nat.reduceSub, Array.replicate_succ, Array.replicate_zero, List.push_toArray, List.append_toArray, List.nil_append, List.cons_append]
        go_wp2
        refine ends_ret hQ (results_tmp rfl _ _ _) rfl ?_
        exact ⟨ret_bool (by simp [spanOk, h1, h2, h3]), hb1⟩
      · refine calls_of_wpQ Tryd.func31 rfl ?_
        intro Q hQ
        simp only [Tryd.ntmps31, List.size_toArray, List.length_cons, List.length_nil, Nat.reduceAdd, Nat.reduceSub, Array.replicate_succ, Array.replicate_zero, List.push_toArray, List.append_toArray, List.nil_append, List.cons_append]
        go_wp2
        refine ends_ret hQ (results_tmp rfl _ _ _) rfl ?_
        exact ⟨ret_bool (by unfold spanOk; first | (simp; done) | (simp; omega) | (simp [h1, h2, h3]; done)), hb1⟩
    · refine calls_of_wpQ Tryd.func31 rfl ?_
      intro Q hQ
      simp only [Tryd.ntmps31, List.size_toArray, List.length_cons, List.length_nil, Nat.reduceAdd, Nat.reduceSub, Array.replicate_succ, Array.replicate_zero, List.push_toArray, List.append_toArray, List.nil_append, List.cons_append]
      go_wp2
      refine ends_ret hQ (results_tmp rfl _ _ _) rfl ?_
      exact ⟨ret_bool (by unfold spanOk; first | (simp; done) | (simp; omega) | (simp [h1, h2]; done)), hb1⟩
  · refine calls_of_wpQ Tryd.func31 rfl ?_
    intro Q hQ
    simp only [Tryd.ntmps31, List.size_toArray, List.length_cons, List.length_nil, Nat.reduceAdd, Nat.reduceSub, Array.replicate_succ, Array.replicate_zero, List.push_toArray, List.append_toArray, List.nil_append, List.cons_append]
    go_wp2
    refine ends_ret hQ (results_tmp rfl _ _ _) rfl ?_
    exact ⟨ret_bool (by unfold spanOk; first | (simp; done) | (simp; omega) | (simp [h1]; done)), hb1⟩
theorem rel1_any (s : Int × Int) (w : World) : Calls Tryd.prog 30 #[.agg #[.int .i64 s.1, .int .i64 s.2]] w fun e w' => e = .returned (.bool (!spanOk s)) ∧ Below w.heap.size w w' := by
  obtain ⟨lo, hi⟩ := s
  have hb1 : Hid (Below w.heap.size w (w.alloc (.cells #[.int .i64 lo, .int .i64 hi] 45))) := (Below.refl _ w).alloc (Nat.le_refl _) _
  obtain ⟨v, hv⟩ : ∃ v, spanOk (lo, hi) = v := ⟨_, rfl⟩
  rw [hv]
  replace hv := hid_mk hv
  refine calls_of_wpQ Tryd.func30 rfl ?_
  intro Q hQ
  simp only [Tryd.ntmps30, List.size_toArray, List.length_cons, List.length_nil, Nat.reduceAdd, Nat.reduceSub, Array.replicate_succ, Array.replicate_zero, List.push_toArray, List.append_toArray, List.nil_append, List.cons_append]
  go_wp2_with fail
  refine (span_any lo hi _).mono ?_
  rw [hv.out]
  rintro e w2 ⟨rfl, hb2⟩
  have q2 := hid_mk (after (w := w) hb2 hb1.out).1
  clear hb2
  go_wp2
  refine ends_ret hQ (results_tmp rfl _ _ _) rfl ?_
  exact ⟨rfl, q2.out⟩
set_option maxHeartbeats 800000 in
theorem Idx_rel1 (l : List (Int × Int)) (A : Option Addr) (n cap : Nat) (w : World) (B : Nat) (hn : n ≤ 8796093022208) (h : Spans w B A n l) :
    Calls Tryd.prog 39 #[.slice A n cap, .func (.func 30) #[] #[]] w fun e w' => e = .returned (.int .i64 (fidx (fun s => !spanOk s) 0 l)) ∧ Below w.heap.size w w' := by
  have hlen := hid_mk h.len
  obtain ⟨R, hR⟩ : ∃ R, fidx (fun s => !spanOk s) 0 l = R := ⟨_, rfl⟩
  have hR0 : Hid (R = fidx (fun s => !spanOk s) 0 (l.drop 0)) := by rw [Hid, List.drop_zero, hR]
  rw [hR]
  replace hR := hid_mk hR
  refine calls_of_wpQ Tryd.func39 rfl ?_
  intro Q hQ
  simp only [Tryd.ntmps39, List.size_toArray, List.length_cons, List.length_nil, Nat.reduceAdd, Nat.reduceSub, Array.replicate_succ, Array.replicate_zero, List.push_toArray, List.append_toArray, List.nil_append, List.cons_append]
  go_wp2
  go_loopw [8] (fun iv wr => ∃ k : Nat, iv = .int .i64 k ∧ k ≤ n ∧ Hid (R = fidx (fun s => !spanOk s) k (l.drop k)) ∧ Hid (Below w.heap.size w wr)) (fun iv _ => n - (intOf iv).toNat)
  case atStart => exact ⟨0, rfl, Nat.zero_le _, hR0, hid_mk (Below.refl _ _)⟩
  case round =>
    obtain ⟨k, rfl, hk, hRk, hb⟩ := hrel
    by_cases hlt : k < n
    · obtain ⟨b, o, s, rfl, hbl, hd, c0, c1⟩ := (h.to hb.out).at_ hlt
      have k0 : (0 : Int) ≤ k := by omega
      have k1 : (k : Int) < n := by omega
      cases hp : (fun s => !spanOk s) s
      · have hRn : Hid (R = fidx (fun s => !spanOk s) (k + 1) (l.drop (k + 1))) := by rw [Hid, hRk.out, hd.out, fidx]; exact if_neg (fun e => absurd (hp.symm.trans e) (by decide))
        replace hp := hid_mk hp
        go_wp2_with fail
        refine (rel1_any s _).mono ?_
        rw [hp.out]
        rintro e w2 ⟨rfl, hb2⟩
        have q2 := hid_mk (after (w := w) hb2 hb.out).1
        clear hb2
        go_wp2
        go_roundw
        case rel => exact ⟨k + 1, by go_num, by omega, hRn, q2⟩
        case measure => simp [intOf]; omega
      · have hRn : Hid (R = (k : Int)) := by rw [Hid, hRk.out, hd.out, fidx]; exact if_pos hp
        replace hp := hid_mk hp
        go_wp2_with fail
        refine (rel1_any s _).mono ?_
        rw [hp.out]
        rintro e w2 ⟨rfl, hb2⟩
        have q2 := hid_mk (after (w := w) hb2 hb.out).1
        clear hb2
        go_wp2
        refine ends_ret hQ (results_tmp rfl _ _ _) rfl ?_
        exact ⟨by rw [hRn.out]; rfl, q2.out⟩
    · have hRn : Hid (R = -1) := by rw [Hid, hRk.out, h.end_ hlt]; rfl
      go_wp2
      refine ends_ret hQ (results_tmp rfl _ _ _) rfl ?_
      exact ⟨by rw [hRn.out]; rfl, hb.out⟩
theorem Con_rel1 (l : List (Int × Int)) (A : Option Addr) (n cap : Nat) (w : World) (B : Nat) (hn : n ≤ 8796093022208) (h : Spans w B A n l) :
    Calls Tryd.prog 29 #[.slice A n cap, .func (.func 30) #[] #[]] w fun e w' => e = .returned (.bool (l.any (fun s => !spanOk s))) ∧ Below w.heap.size w w' := by
  have ha := fidx_any (fun s => !spanOk s) l 0
  obtain ⟨R, hR⟩ : ∃ R, fidx (fun s => !spanOk s) 0 l = R := ⟨_, rfl⟩
  rw [hR] at ha
  rw [← ha]
  replace hR := hid_mk hR
  clear ha
  refine calls_of_wpQ Tryd.func29 rfl ?_
  intro Q hQ
  simp only [Tryd.ntmps29, List.size_toArray, List.length_cons, List.length_nil, Nat.reduceAdd, Nat.reduceSub, Array.replicate_succ, Array.replicate_zero, List.push_toArray, List.append_toArray, List.nil_append, List.cons_append]
  go_wp2_with fail
  refine (Idx_rel1 l A n cap w B hn h).mono ?_
  rw [hR.out]
  rintro e w2 ⟨rfl, hb2⟩
  go_wp2
  refine ends_ret hQ (results_tmp rfl _ _ _) rfl ?_
  exact ⟨ret_bool (by simp), hb2⟩
theorem all_not_any {α : Type} (p : α → Bool) (l : List α) : l.all p = !(l.any fun x => !p x) := by
  induction l with
  | nil => rfl
  | cons x l ih => simp only [List.all_cons, List.any_cons, ih]; cases p x <;> simp
set_option maxHeartbeats 800000 in
theorem rel_any (x : Rl) (A : Option Addr) (n cap : Nat) (w : World) (B : Nat) (hn : n ≤ 8796093022208) (h : Spans w B A n x.spans) :
    Calls Tryd.prog 18 #[.agg #[.int .i64 x.mod, .bool x.not, .slice A n cap]] w fun e w' => e = .returned (.bool (relOk x)) ∧ Below w.heap.size w w' := by
  obtain ⟨mod, not, sps⟩ := x
  dsimp only at *
  have hlen := hid_mk h.len
  have hb1 : Below w.heap.size w (w.alloc (.cells #[.int .i64 mod, .bool not, .slice A n cap] 37)) := (Below.refl _ w).alloc (Nat.le_refl _) _
  by_cases hm : mod = 0 ∨ (2 ≤ mod ∧ mod ≤ 1000000)
  · by_cases hl1 : n < 1
    · have hf : relOk ⟨mod, not, sps⟩ = false := by unfold relOk; dsimp only; rw [hlen.out, show decide (1 ≤ n ∧ n ≤ 10) = false by simp; omega]; simp
      rw [hf]
      clear hf
      rcases hm with rfl | hm
      all_goals
        refine calls_of_wpQ Tryd.func18 rfl ?_
        intro Q hQ
        simp only [Tryd.ntmps18, List.size_toArray, List.length_cons, List.length_nil, Nat.reduceAdd, Nat.reduceSub, Array.replicate_succ, Array.replicate_zero, List.push_toArray, List.append_toArray, List.nil_append, List.cons_append]
        go_wp2
        refine ends_ret hQ (results_tmp rfl _ _ _) rfl ?_
        exact ⟨rfl, hb1⟩
    by_cases hl2 : 10 < n
    · have hf : relOk ⟨mod, not, sps⟩ = false := by unfold relOk; dsimp only; rw [hlen.out, show decide (1 ≤ n ∧ n ≤ 10) = false by simp; omega]; simp
      rw [hf]
      clear hf
      rcases hm with rfl | hm
      all_goals
        refine calls_of_wpQ Tryd.func18 rfl ?_
        intro Q hQ
        simp only [Tryd.ntmps18, List.size_toArray, List.length_cons, List.length_nil, Nat.reduceAdd, Nat.reduceSub, Array.replicate_succ, Array.replicate_zero, List.push_toArray, List.append_toArray, List.nil_append, List.cons_append]
        go_wp2
        refine ends_ret hQ (results_tmp rfl _ _ _) rfl ?_
        exact ⟨rfl, hb1⟩
    have hf : relOk ⟨mod, not, sps⟩ = !(sps.any fun s => !spanOk s) := by unfold relOk; dsimp only; rw [hlen.out, decide_eq_true hm, show decide (1 ≤ n ∧ n ≤ 10) = true by simp; omega, ← all_not_any]; simp
    rw [hf]
    obtain ⟨v, hv⟩ : ∃ v, sps.any (fun s => !spanOk s) = v := ⟨_, rfl⟩
    rw [hv]
    replace hv := hid_mk hv
    clear hf
    have hbh := hid_mk hb1
    clear hb1
    rcases hm with rfl | hm
    all_goals
      refine calls_of_wpQ Tryd.func18 rfl ?_
      intro Q hQ
      simp only [Tryd.ntmps18, List.size_toArray, List.length_cons, List.length_nil, Nat.reduceAdd, Nat.reduceSub, Array.replicate_succ, Array.replicate_zero, List.push_toArray, List.append_toArray, List.nil_append, List.cons_append]
      go_wp2_with fail
      refine (Con_rel1 sps A n cap _ B hn (h.to hbh.out)).mono ?_
      rw [hv.out]
      rintro e w2 ⟨rfl, hb2⟩
      have q2 := hid_mk (after (w := w) hb2 hbh.out).1
      clear hb2
      go_wp2
      refine ends_ret hQ (results_tmp rfl _ _ _) rfl ?_
      exact ⟨rfl, q2.out⟩
  · have hf : relOk ⟨mod, not, sps⟩ = false := by unfold relOk; dsimp only; rw [decide_eq_false hm]; simp
    rw [hf]
    clear hf
    have h0 : ¬ mod = 0 := fun e => hm (.inl e)
    have h0b : (mod != 0) = true := by simpa using h0
    by_cases h2 : mod < 2
    · refine calls_of_wpQ Tryd.func18 rfl ?_
      intro Q hQ
      simp only [Tryd.ntmps18, List.size_toArray, List.length_cons, List.length_nil, Nat.reduceAdd, Nat.reduceSub, Array.replicate_succ, Array.replicate_zero, List.push_toArray, List.append_toArray, List.nil_append, List.cons_append]
      go_wp2
      refine ends_ret hQ (results_tmp rfl _ _ _) rfl ?_
      exact ⟨rfl, hb1⟩
    · have h3 : 1000000 < mod := by omega
      clear hm
      refine calls_of_wpQ Tryd.func18 rfl ?_
      intro Q hQ
      simp only [Tryd.ntmps18, List.size_toArray, List.length_cons, List.length_nil, Nat.reduceAdd, Nat.reduceSub, Array.replicate_succ, Array.replicate_zero, List.push_toArray, List.append_toArray, List.nil_append, List.cons_append]
      go_wp2
      refine ends_ret hQ (results_tmp rfl _ _ _) rfl ?_
      exact ⟨rfl, hb1⟩
theorem rel_sl (x : Rl) (v : Sl) (w : World) (B : Nat) (hn : v.2.1 ≤ 8796093022208) (h : Spans w B v.1 v.2.1 x.spans) :
    Calls Tryd.prog 18 #[.agg #[.int .i64 x.mod, .bool x.not, slV v]] w fun e w' => e = .returned (.bool (relOk x)) ∧ Below w.heap.size w w' := rel_any x v.1 v.2.1 v.2.2 w B hn h
end Go.Proofs.YtfafinnklniniaaDoor
