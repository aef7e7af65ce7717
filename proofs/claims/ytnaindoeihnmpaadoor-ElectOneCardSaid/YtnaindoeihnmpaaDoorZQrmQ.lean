/-
  WHAT IS PROVED HERE: plain laws of voters' texts: what is read by splitting at commas and what is read sign by sign is the same; what is written is read again; what is read, written again, is the text. No program in sight. No condition.
-/
import Derived.Test.YtnaindoeihnmpaaDoorZGJrn
import Derived.Lib.SplitLaws
import Derived.Lib.Join
namespace Go.Proofs.YtnaindoeihnmpaaDoor
open Go.RowKit

def numB (c : UInt8) : Int := (c.toNat : Int) - 48
/-- the parts between commas -/
def spl : List UInt8 → List (List UInt8)
  | [] => [[]]
  | c :: l => if c = 44 then [] :: spl l else match spl l with
    | p :: ps => (c :: p) :: ps
    | [] => [[c]]
def oneL : List (List UInt8) → Option (List Int)
  | [] => some []
  | p :: ps => match p with
    | [c] => (oneL ps).map (numB c :: ·)
    | _ => none
/-- sign by sign: true: a number is due -/
def rdL : Bool → List UInt8 → Option (List Int)
  | _, [] => some []
  | true, c :: l => (rdL false l).map (numB c :: ·)
  | false, c :: l => if c = 44 then rdL true l else none
def okR (o : Option (List Int)) : Option (List Int) := match o with
  | some l => if rightL l then some l else none
  | none => none
def parseQ (l : List UInt8) : Option (List Int) := if 14 < l.length then none else okR (oneL (spl l))
def parseR (l : List UInt8) : Option (List Int) := if l.length % 2 = 0 ∨ 13 < l.length then none else okR (rdL true l)
/-- a voter's sign -/
def sgn (v : Int) : UInt8 := UInt8.ofNat (48 + v).toNat
def txtL : List Int → List UInt8
  | [] => []
  | [v] => [sgn v]
  | v :: u :: vs => sgn v :: 44 :: txtL (u :: vs)

theorem spl_ne : ∀ l, spl l ≠ []
  | [] => by simp [spl]
  | c :: l => by
    unfold spl
    split
    · simp
    · split <;> simp
theorem index_comma (c : UInt8) (l : List UInt8) : Lib.index (c :: l) [44] = if c = 44 then 0 else if Lib.index l [44] == -1 then -1 else Lib.index l [44] + 1 := by
  by_cases h : c = 44
  · subst h
    rw [Lib.index, if_pos (by simp), if_pos rfl]
  · rw [Lib.index, if_neg (by simp [List.isPrefixOf, Ne.symm h]), if_neg h]
theorem splitK_spl : ∀ l : List UInt8, Lib.splitK [44] 0 (Lib.count l [44]) l = spl l
  | [] => by rw [Lib.count_miss (by simp [Lib.index])]; rfl
  | c :: l => by
    have ih := splitK_spl l
    by_cases h : c = 44
    · subst h
      rw [Lib.count_cons_eq, Nat.add_comm, Lib.splitK, index_comma, if_pos rfl, if_neg (by decide), spl, if_pos rfl]
      simp [ih]
    · rw [Lib.count_cons_ne c 44 l h, spl, if_neg h]
      have hx := index_comma c l
      rw [if_neg h] at hx
      by_cases hm : Lib.index l [44] = -1
      · rw [Lib.count_miss hm] at ih ⊢
        rw [← ih]
        rfl
      · have hge := Lib.index_ge l [44]
        obtain ⟨j, hj⟩ : ∃ j : Nat, Lib.index l [44] = j := ⟨(Lib.index l [44]).toNat, by omega⟩
        rw [hj] at hx
        rw [if_neg (by simp)] at hx
        rw [Lib.count_hit (by simp) hj] at ih ⊢
        rw [Nat.add_comm] at ih ⊢
        rw [Lib.splitK, hj, if_neg (by simp)] at ih
        rw [Lib.splitK, hx, if_neg (by simp; omega), ← ih]
        have e1 : ((j : Int) + 1).toNat = j + 1 := by omega
        have e2 : ((j : Int)).toNat = j := by omega
        rw [e1, e2]
        simp [Nat.add_assoc]
theorem one_cons (c : UInt8) (ps : List (List UInt8)) : oneL ([c] :: ps) = (oneL ps).map (numB c :: ·) := rfl
/-- what is read by parts is read sign by sign -/
theorem one_rd : ∀ (l : List UInt8) (o : List Int), oneL (spl l) = some o → l.length + 1 = 2 * o.length ∧ rdL true l = some o
  | [], o, h => by simp [spl, oneL] at h
  | [c], o, h => by
    by_cases hc : c = 44
    · subst hc; simp [spl, oneL] at h
    · simp [spl, hc, oneL] at h
      subst h
      simp [rdL]
  | c :: d :: l, o, h => by
    by_cases hc : c = 44
    · subst hc; rw [spl, if_pos rfl] at h; simp [oneL] at h
    · rw [spl, if_neg hc] at h
      by_cases hd : d = 44
      · subst hd
        rw [spl, if_pos rfl] at h
        simp only [one_cons] at h
        cases hr : oneL (spl l) with
        | none => rw [hr] at h; simp at h
        | some r =>
          rw [hr] at h
          simp at h
          subst h
          obtain ⟨h1, h2⟩ := one_rd l r hr
          refine ⟨by simp; omega, ?_⟩
          simp [rdL, h2]
      · rw [spl, if_neg hd] at h
        cases hs : spl l with
        | nil => exact absurd hs (spl_ne l)
        | cons p ps => rw [hs] at h; simp [oneL] at h
def digits (o : List Int) : Prop := ∀ v ∈ o, 1 ≤ v ∧ v ≤ 9
theorem asc_digits : ∀ {l : List Int} {u : Option Int}, ascL u l = true → digits l
  | [], _, _ => by intro v hv; cases hv
  | v :: vs, none, h => by
    unfold ascL at h
    split at h
    · cases h
    · intro x hx
      rcases List.mem_cons.1 hx with rfl | hx
      · omega
      · exact asc_digits h x hx
  | v :: vs, some u, h => by
    unfold ascL at h
    split at h
    · cases h
    · intro x hx
      rcases List.mem_cons.1 hx with rfl | hx
      · omega
      · exact asc_digits h x hx
theorem right_digits {l : List Int} (h : rightL l = true) : digits l := by
  unfold rightL at h
  simp at h
  exact asc_digits h.1
theorem right_len {l : List Int} (h : rightL l = true) : 1 ≤ l.length ∧ l.length ≤ 7 := by
  unfold rightL at h
  simp at h
  exact h.2
theorem num_comma {c : UInt8} (h : 1 ≤ numB c) : c ≠ 44 := by
  rintro rfl
  exact absurd h (by decide)
theorem rd_one : ∀ (l : List UInt8) (o : List Int), l.length % 2 = 1 → rdL true l = some o → digits o → oneL (spl l) = some o
  | [], _, h, _, _ => by simp at h
  | [c], o, _, h, hd => by
    simp [rdL] at h
    subst h
    have hc := num_comma (hd (numB c) (by simp)).1
    simp [spl, hc, oneL]
  | c :: d :: l, o, hl, h, hd => by
    rw [rdL] at h
    cases hr : rdL false (d :: l) with
    | none => rw [hr] at h; simp at h
    | some r =>
      rw [hr] at h
      simp at h
      subst h
      have hc := num_comma (hd _ (List.mem_cons_self ..)).1
      rw [rdL] at hr
      split at hr
      · rename_i hdd
        subst hdd
        have ih := rd_one l r (by simp at hl; omega) hr (fun v hv => hd v (List.mem_cons_of_mem _ hv))
        rw [spl, if_neg hc, spl, if_pos rfl]
        simp [one_cons, ih]
      · cases hr
theorem parse_eq (l : List UInt8) : parseQ l = parseR l := by
  have h1 : ∀ o, parseQ l = some o → parseR l = some o := by
    intro o h
    unfold parseQ at h
    split at h
    · cases h
    · cases ho : oneL (spl l) with
      | none => rw [ho] at h; simp [okR] at h
      | some p =>
        rw [ho] at h
        simp only [okR] at h
        split at h
        · rename_i hr
          injection h with h; subst h
          obtain ⟨h3, h4⟩ := one_rd l p ho
          have h5 := right_len hr
          unfold parseR
          rw [if_neg (by omega), h4]
          simp only [okR, hr, if_true]
        · cases h
  have h2 : ∀ o, parseR l = some o → parseQ l = some o := by
    intro o h
    unfold parseR at h
    split at h
    · cases h
    · rename_i hl
      cases ho : rdL true l with
      | none => rw [ho] at h; simp [okR] at h
      | some p =>
        rw [ho] at h
        simp only [okR] at h
        split at h
        · rename_i hr
          injection h with h; subst h
          have h4 := rd_one l p (by omega) ho (right_digits hr)
          unfold parseQ
          rw [if_neg (by omega), h4]
          simp only [okR, hr, if_true]
        · cases h
  cases hq : parseQ l with
  | some o => exact (h1 o hq).symm
  | none =>
    cases hr : parseR l with
    | none => rfl
    | some o => rw [h2 o hr] at hq; cases hq
theorem parse_right {l : List UInt8} {o : List Int} (h : parseQ l = some o) : rightL o = true := by
  unfold parseQ at h
  split at h
  · cases h
  · cases ho : oneL (spl l) with
    | none => rw [ho] at h; simp [okR] at h
    | some p =>
      rw [ho] at h
      simp only [okR] at h
      split at h
      · rename_i hr
        injection h with h; subst h; exact hr
      · cases h
theorem num_sgn {v : Int} (h : 1 ≤ v ∧ v ≤ 9) : numB (sgn v) = v := by
  obtain ⟨k, rfl⟩ := Int.eq_ofNat_of_zero_le (show 0 ≤ v by omega)
  unfold numB sgn
  have : (48 + (k : Int)).toNat = 48 + k := by omega
  rw [this, UInt8.toNat_ofNat', Nat.mod_eq_of_lt (by omega)]
  omega
theorem sgn_num {c : UInt8} (h : 1 ≤ numB c ∧ numB c ≤ 9) : sgn (numB c) = c := by
  unfold numB at h
  unfold sgn numB
  have : (48 + ((c.toNat : Int) - 48)).toNat = c.toNat := by omega
  rw [this]
  exact UInt8.toNat_inj.1 (by rw [UInt8.toNat_ofNat', Nat.mod_eq_of_lt c.toNat_lt])
/-- what is written is read -/
theorem rd_txt : ∀ (o : List Int), o ≠ [] → digits o → rdL true (txtL o) = some o ∧ (txtL o).length + 1 = 2 * o.length
  | [], h, _ => absurd rfl h
  | [v], _, hd => by
    simp [txtL, rdL, num_sgn (hd v (by simp))]
  | v :: u :: vs, _, hd => by
    obtain ⟨h1, h2⟩ := rd_txt (u :: vs) (by simp) (fun x hx => hd x (List.mem_cons_of_mem _ hx))
    rw [txtL]
    refine ⟨?_, by simp at h2 ⊢; omega⟩
    rw [rdL, rdL, if_pos rfl, h1]
    simp [num_sgn (hd v (by simp))]
theorem parse_txt {o : List Int} (h : rightL o = true) : parseQ (txtL o) = some o := by
  have hl := right_len h
  obtain ⟨h1, h2⟩ := rd_txt o (by rintro rfl; simp at hl) (right_digits h)
  rw [parse_eq]
  unfold parseR
  rw [if_neg (by omega), h1]
  simp only [okR, h, if_true]
/-- what is read, written again, is the text -/
theorem txt_rd : ∀ (l : List UInt8) (o : List Int), l.length % 2 = 1 → rdL true l = some o → digits o → txtL o = l
  | [], _, h, _, _ => by simp at h
  | [c], o, _, h, hd => by
    simp [rdL] at h
    subst h
    simp [txtL, sgn_num (hd (numB c) (by simp))]
  | c :: d :: l, o, hl, h, hd => by
    rw [rdL] at h
    cases hr : rdL false (d :: l) with
    | none => rw [hr] at h; simp at h
    | some r =>
      rw [hr] at h
      simp at h
      subst h
      rw [rdL] at hr
      split at hr
      · rename_i hdd
        subst hdd
        have ih := txt_rd l r (by simp at hl; omega) hr (fun v hv => hd v (List.mem_cons_of_mem _ hv))
        cases r with
        | nil =>
          simp [txtL] at ih
          subst ih
          simp at hl
        | cons u us => rw [txtL, ih, sgn_num (hd _ (List.mem_cons_self ..))]
      · cases hr
theorem txt_parse {l : List UInt8} {o : List Int} (h : parseQ l = some o) : txtL o = l := by
  have hr := parse_right h
  rw [parse_eq] at h
  unfold parseR at h
  split at h
  · cases h
  · rename_i hl
    cases ho : rdL true l with
    | none => rw [ho] at h; simp [okR] at h
    | some p =>
      rw [ho] at h
      simp only [okR] at h
      split at h
      · injection h with h; subst h
        exact txt_rd l p (by omega) ho (right_digits hr)
      · cases h
theorem join_txt : ∀ o : List Int, Lib.join (o.map fun v => [sgn v]) [44] = txtL o
  | [] => rfl
  | [v] => by simp [Lib.join_one, txtL]
  | v :: u :: vs => by
    have ih := join_txt (u :: vs)
    rw [txtL, ← ih, List.map_cons, List.map_cons, Lib.join_cons, Lib.join_cons]
    simp [Lib.joinTail]
end Go.Proofs.YtnaindoeihnmpaaDoor
