/-
  WHAT IS PROVED HERE: peers as data (three numbers each); what the reference's has hands back. Condition: the slice is of at most 2^43 elements.
-/
import Derived.Test.YtfaigomhnhgjfaaQuorum1
import Derived.Test.YtfaigomhnhgjfaaQuorumS
import Derived.Test.YtfaigomhnhgjfaaEnds
import Derived.Test.YtfaigomhnhgjfaaMem
namespace Go.Proofs.Ytfaigomhnhgjfaa
open Go.RowKit

def prCells (i : Pr) : List Value := [.int .i64 i.id, .int .i64 i.nx, .int .i64 i.mt]
def prsL (is : List Pr) : List Value := is.flatMap prCells
def Prs (w : World) (B : Nat) (A : Option Addr) (n : Nat) (is : List Pr) : Prop := Reads w B 37 3 A n (prsL is)
theorem prsL_len : ∀ is : List Pr, (prsL is).length = is.length * 3
  | [] => rfl
  | r :: rs => by
    have := prsL_len rs
    unfold prsL at *
    simp only [List.flatMap_cons, List.length_append, List.length_cons, this, prCells, List.length_nil]
    omega
theorem prsL_at : ∀ (is : List Pr) (k : Nat) (r : Pr), is[k]? = some r → (prsL is)[k * 3]? = some (.int .i64 r.id) ∧ (prsL is)[k * 3 + 1]? = some (.int .i64 r.nx) ∧ (prsL is)[k * 3 + 2]? = some (.int .i64 r.mt)
  | r :: rs, 0, r', h => by
    simp only [List.getElem?_cons_zero, Option.some.injEq] at h
    subst h
    simp [prsL, prCells]
  | r :: rs, k + 1, r', h => by
    have ih := prsL_at rs k r' (by simpa using h)
    have e : ∀ j, (prsL (r :: rs))[j + 3]? = (prsL rs)[j]? := by
      intro j
      simp [prsL, prCells]
    rw [show (k + 1) * 3 = k * 3 + 3 from by omega, show k * 3 + 3 + 1 = k * 3 + 1 + 3 from by omega, show k * 3 + 3 + 2 = k * 3 + 2 + 3 from by omega, e, e, e]
    exact ih
theorem prsL_take (rs : List Pr) : ∀ k, (prsL rs).take (k * 3) = prsL (rs.take k) := by
  intro k
  induction k generalizing rs with
  | zero => simp [prsL]
  | succ k ih =>
    cases rs with
    | nil => simp [prsL]
    | cons r rs =>
      have := ih rs
      rw [show (k + 1) * 3 = k * 3 + 3 from by omega]
      simpa [prsL, prCells] using this
section
variable {w w' : World} {B n : Nat} {A : Option Addr} {is : List Pr}
theorem Prs.len (h : Prs w B A n is) : is.length = n := by
  have := h.1
  rw [prsL_len] at this
  omega
theorem Prs.at_ {k : Nat} (h : Prs w B A n is) (hk : k < n) :
    ∃ b o r, A = some ⟨b, o, none⟩ ∧ b < w.heap.size ∧ is.drop k = r :: is.drop (k + 1) ∧ w.cell? ⟨b, o + k * 3, none⟩ = some (.int .i64 r.id) ∧ w.cell? ⟨b, o + k * 3 + 1, none⟩ = some (.int .i64 r.nx) ∧ w.cell? ⟨b, o + k * 3 + 2, none⟩ = some (.int .i64 r.mt) := by
  obtain ⟨b, o, e, hb, _, hc⟩ := h.2 (by omega)
  have hl : k < is.length := by have := h.len; omega
  obtain ⟨c0, c1, c2⟩ := prsL_at is k is[k] (List.getElem?_eq_getElem hl)
  exact ⟨b, o, is[k], e, hb, List.drop_eq_getElem_cons hl, hc _ _ c0, hc _ _ c1, hc _ _ c2⟩
theorem Prs.to (h : Prs w B A n is) (hb : Below w.heap.size w w') : Prs w' B A n is := Reads.to h hb
theorem Prs.top (h : Prs w B A n is) : Prs w w.heap.size A n is := ⟨h.1, fun hn => by obtain ⟨b, o, e1, e2, _, e3⟩ := h.2 hn; exact ⟨b, o, e1, e2, .inl e2, e3⟩⟩
theorem Prs.take {k : Nat} (h : Prs w B A n is) (hk : k ≤ n) : Prs w B A k (is.take k) := by
  have h1 := Reads.take h hk
  rw [prsL_take] at h1
  exact h1
end

set_option maxHeartbeats 800000 in
theorem has_any (v p self last : Int) (A : Option Addr) (n cap : Nat) (ps : List Pr) (w : World) {B : Nat} (hm : n ≤ 8796093022208) (h0 : Prs w B A n ps) :
    Calls Try.prog 19 #[.int .i64 v, .int .i64 p, .int .i64 self, .int .i64 last, .slice A n cap] w fun e w' => e = .returned (.bool (hasB v p self last ps)) ∧ Below w.heap.size w w' := by
  obtain ⟨R, hR⟩ : ∃ R, hasB v p self last ps = R := ⟨_, rfl⟩
  rw [hR]
  have h := hid_mk h0.top
  have hlen := hid_mk h0.len
  clear h0
  by_cases hs : v = self
  · subst hs
    have hRo : Hid (R = decide (p ≤ last)) := by rw [Hid, ← hR]; unfold hasB; rw [if_pos rfl]
    replace hR := hid_mk hR
    refine calls_of_wpQ Try.func19 rfl ?_
    intro Q hQ
    simp only [Try.ntmps19, List.size_toArray, List.length_cons, List.length_nil, Nat.reduceAdd, Nat.reduceSub, Array.replicate_succ, Array.replicate_zero, List.push_toArray, List.append_toArray, List.nil_append, List.cons_append]
    go_wp2
    refine ends_ret hQ (results_tmp rfl _ _ _) rfl ?_
    exact ⟨ret_bool hRo.out.symm, Below.refl _ _⟩
  have hRo : Hid (R = hasF v p (ps.drop 0)) := by rw [Hid, ← hR]; unfold hasB; rw [if_neg hs]; rfl
  replace hR := hid_mk hR
  have hse : (v == self) = false := by simpa using hs
  replace hs := hid_mk hs
  refine calls_of_wpQ Try.func19 rfl ?_
  intro Q hQ
  simp only [Try.ntmps19, List.size_toArray, List.length_cons, List.length_nil, Nat.reduceAdd, Nat.reduceSub, Array.replicate_succ, Array.replicate_zero, List.push_toArray, List.append_toArray, List.nil_append, List.cons_append]
  go_wp2
  go_loopw [21] (fun iv wr => ∃ (k : Nat), iv = .int .i64 k ∧ k ≤ n ∧ Hid (R = hasF v p (ps.drop k)) ∧ Hid (Below w.heap.size w wr)) (fun iv _ => n - (intOf iv).toNat)
  case atStart => exact ⟨0, rfl, Nat.zero_le _, hRo, hid_mk (Below.refl _ _)⟩
  case round =>
    clear hRo
    obtain ⟨k, rfl, hk, hRk, hb⟩ := hrel
    by_cases hlt : k < n
    · obtain ⟨b, o, i, rfl, hbl, hdr, c0, c1, c2⟩ := (h.out.to hb.out).at_ hlt
      obtain ⟨I, N, M⟩ := i
      dsimp only at c0 c1 c2
      have hb2 : Hid (Below w.heap.size w (wr.alloc (.cells #[.int .i64 I, .int .i64 N, .int .i64 M] 37))) := hb.out.alloc hb.out.size _
      by_cases hx : I = v ∧ p ≤ M
      · have hRf : Hid (R = true) := by rw [Hid, hRk.out, hdr, hasF, if_pos hx]
        replace hdr := hid_mk hdr
        obtain ⟨rfl, hpm⟩ := hx
        go_wp2
        refine ends_ret hQ (results_tmp rfl _ _ _) rfl ?_
        exact ⟨ret_bool hRf.out.symm, hb2.out⟩
      · have hRn : Hid (R = hasF v p (ps.drop (k + 1))) := by rw [Hid, hRk.out, hdr, hasF, if_neg hx]
        replace hdr := hid_mk hdr
        by_cases hI : I = v
        · subst hI
          have hpm : ¬ p ≤ M := fun e => hx ⟨rfl, e⟩
          clear hx
          go_wp2
          go_roundw
          case rel => exact ⟨k + 1, by go_num, by omega, hRn, hb2.out⟩
          case measure => simp [intOf]; omega
        · have hI2 : (I == v) = false := by simpa using hI
          clear hx
          replace hI := hid_mk hI
          go_wp2
          go_roundw
          case rel => exact ⟨k + 1, by go_num, by omega, hRn, hb2.out⟩
          case measure => simp [intOf]; omega
    · have hRf : Hid (R = decide (p ≤ 0)) := by rw [Hid, hRk.out, List.drop_eq_nil_of_le (by rw [hlen.out]; omega)]; rfl
      go_wp2
      refine ends_ret hQ (results_tmp rfl _ _ _) rfl ?_
      exact ⟨ret_bool hRf.out.symm, hb.out⟩
end Go.Proofs.Ytfaigomhnhgjfaa
