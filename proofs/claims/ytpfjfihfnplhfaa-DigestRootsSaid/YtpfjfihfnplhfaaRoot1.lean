/-
  WHAT IS PROVED HERE: what the reference's digits, shifted and above hand back. Conditions: a number of an int, at most 1000 digits.
-/
import Derived.Test.YtpfjfihfnplhfaaRef4
import Derived.Lib.MinMax
namespace Go.Proofs.Ytpfjfihfnplhfaa
open Go.RowKit

def vnat (k : Nat) : Value := .int .i64 k
def Dig (l : List Nat) : Prop := ∀ e ∈ l, e < 65536
theorem intJ_ : (Try.prog.info? 3).map (fun i => (i.zero, i.size, i.bytes)) = some (some (.int .i64 0), 1, 8) := by kernel_rfl
theorem info_parts8_ {P : Program} {t : TypeId} {z : Value} (h : (P.info? t).map (fun i => (i.zero, i.size, i.bytes)) = some (some z, 1, 8)) : ∃ i, P.info? t = some i ∧ i.zero = some z ∧ i.size = 1 ∧ i.bytes = 8 := by
  cases hi : P.info? t with
  | none => rw [hi] at h; cases h
  | some i =>
    rw [hi] at h
    injection h with h
    exact ⟨i, rfl, congrArg Prod.fst h, congrArg (fun x => x.2.1) h, congrArg (fun x => x.2.2) h⟩
theorem vnat_one (xs : List Nat) : ∀ u ∈ xs.map vnat, u.oneCell' = true := by
  intro u hu
  obtain ⟨x, _, rfl⟩ := List.mem_map.1 hu
  rfl
def RetDig (w : World) (l : List Nat) (e : Ending) (w' : World) : Prop := ∃ A n c, e = .returned (.slice A n c) ∧ n ≤ c ∧ Reads w' w'.heap.size 3 1 A n (l.map vnat) ∧ Below w.heap.size w w' ∧ Dig l ∧ l.length = n
def digN : Nat → Nat → List Nat
  | 0, _ => []
  | f + 1, n => if n = 0 then [] else n % 65536 :: digN f (n / 65536)
theorem digN_len : ∀ (f n : Nat), (digN f n).length ≤ f
  | 0, _ => by simp [digN]
  | f + 1, n => by
    have ih := digN_len f (n / 65536)
    unfold digN
    split <;> simp <;> omega
theorem topR {w : World} {B size n : Nat} {e : TypeId} {A : Option Addr} {xs : List Value} (h : Reads w B e size A n xs) : Reads w w.heap.size e size A n xs :=
  ⟨h.1, fun hn => by obtain ⟨b, o, e1, e2, _, e3⟩ := h.2 hn; exact ⟨b, o, e1, e2, .inl e2, e3⟩⟩
theorem digits_any (n : Nat) (w : World) (hn : n ≤ 9223372036854775807) :
    Calls Try.prog 34 #[.int .i64 n] w (RetDig w (digN 4 n)) := by
  obtain ⟨j0, hj0, hjz, hj1, hj2⟩ := info_parts8_ intJ_
  have own0 : OwnM (w.alloc (.cells #[] 3)) w.heap.size 3 (.slice (some ⟨w.heap.size, 0, none⟩) 0 0) 0 (([] : List Nat).map vnat) := (OwnM.of (World.ownsRow_lit (base := w.heap.size) (e := 3) (size := 1) w #[] 0 (Nat.le_refl _) (by unfold maxLen; omega) (by simp)))
  have hb0 : Hid (Below w.heap.size w (w.alloc (.cells #[] 3))) := (Below.refl _ _).alloc (Nat.le_refl _) _
  refine calls_of_wpQ Try.func34 rfl ?_
  intro Q hQ
  simp only [Try.ntmps34, List.size_toArray, List.length_cons, List.length_nil, Nat.reduceAdd, Nat.reduceSub, Array.replicate_succ, Array.replicate_zero, List.push_toArray, List.append_toArray, List.nil_append, List.cons_append]
  go_wp2
  go_loopw [0, 3] (fun iv o wr => ∃ (m f k co : Nat) (Ao : Option Addr) (outs : List Nat), iv = .int .i64 m ∧ m ≤ 9223372036854775807 ∧ m < 65536 ^ f ∧ f ≤ 4 ∧ o = .slice Ao k co ∧ k ≤ co ∧ k + f = 4 ∧ OwnM wr w.heap.size 3 (.slice Ao k co) k (outs.map vnat) ∧ Hid (digN 4 n = outs ++ digN f m) ∧ Hid (Dig outs) ∧ Hid (Below w.heap.size w wr)) (fun iv _ _ => (intOf iv).toNat)
  case atStart => exact ⟨n, 4, 0, 0, _, [], rfl, hn, by omega, by omega, rfl, Nat.le_refl _, by omega, own0, rfl, by simp [Dig, Hid], hb0⟩
  case round =>
    clear own0 hb0
    obtain ⟨m, f, k, co, Ao, outs, rfl, hm, hmf, hf, rfl, hkc, hkf, hown, hdn, hdg, hb⟩ := hrel
    rcases Nat.eq_zero_or_pos m with rfl | hmp
    · have hdn2 : digN 4 n = outs := by
        rw [hdn.out]
        cases f <;> simp [digN]
      have hol := hid_mk hown.1
      go_wp2
      refine ends_ret hQ (results_tmp rfl _ _ _) rfl ?_
      refine ⟨Ao, k, co, rfl, hkc, ?_, hb.out, by rw [hdn2]; exact hdg.out, ?_⟩
      · rw [hdn2]; exact hown.reads
      · rw [hdn2]; have := hol.out; simpa using this
    · obtain ⟨g, rfl⟩ : ∃ g, f = g + 1 := by
        cases f with
        | zero => simp at hmf; omega
        | succ g => exact ⟨g, rfl⟩
      obtain ⟨d, hd⟩ : ∃ d, m % 65536 = d := ⟨_, rfl⟩
      obtain ⟨q, hq⟩ : ∃ q, m / 65536 = q := ⟨_, rfl⟩
      have hdn2 : Hid (digN 4 n = (outs ++ [d]) ++ digN g q) := by
        rw [Hid, hdn.out, digN, if_neg (by omega), hd, hq, List.append_assoc]; rfl
      have e1 : (m : Int) % 65536 = (d : Int) := by omega
      have e2 : (m : Int) / 65536 = (q : Int) := by omega
      have hqg : q < 65536 ^ g := by
        rw [← hq]
        rw [Nat.pow_succ] at hmf
        exact Nat.div_lt_of_lt_mul (by rw [Nat.mul_comm]; exact hmf)
      have hqm : q < m := by omega
      have hdg2 : Hid (Dig (outs ++ [d])) := by
        intro e he
        rcases List.mem_append.1 he with h | h
        · exact hdg.out e h
        · simp at h; omega
      have hmp' : (0 : Int) < m := by omega
      replace hd := hid_mk hd
      replace hq := hid_mk hq
      go_wp2_with (at_builtin; refine wpl_append_new rfl (.tmp 7) (.tmp 10) 62 rfl 3 j0 _ 8 Try.underlying62 hj0 hjz hj1 hj2 rfl hb.out (.slice Ao k co) k _ rfl hown ([d].map vnat) 1 1 rfl _ rfl (by simp [Act.eval]) (vnat_one _) (by omega) (by omega) ?_; intro A5 c5 w5 hown5 hc5 q5 st hs5; rw [← List.map_append] at hown5)
      go_roundw
      case rel => exact ⟨q, g, k + 1, c5, A5, outs ++ [d], rfl, by omega, hqg, by omega, rfl, hc5, by omega, hown5, hdn2, hdg2, hid_mk q5⟩
      case measure => simp [intOf]; omega
def aboveN (a b : List Nat) : Nat → Bool
  | 0 => false
  | i + 1 => if a.getD i 0 ≠ b.getD i 0 then decide (b.getD i 0 < a.getD i 0) else aboveN a b i
def aboveM (a b : List Nat) : Bool := aboveN a b (max a.length b.length)
theorem madeCells_rep (n : Nat) : (madeCells #[Value.int .i64 0] n).toList = (List.replicate n 0).map vnat := by
  apply List.ext_getElem?
  intro i
  rw [Array.getElem?_toList]
  unfold madeCells
  rcases Nat.lt_or_ge i n with h | h
  · rw [Array.getElem?_map, Array.getElem?_range]
    simp [h, vnat, Nat.mod_one]
  · rw [Array.getElem?_eq_none (by simpa using h), List.getElem?_eq_none (by simpa using h)]
theorem shifted_any (A : Option Addr) (m c : Nat) (l : List Nat) (n : Nat) (w : World) {B : Nat} (h : Reads w B 3 1 A m (l.map vnat)) (hd : Dig l) (hm : m ≤ 1000) (hn : n ≤ 1000) :
    Calls Try.prog 33 #[.slice A m c, .int .i64 n] w (RetDig w (List.replicate n 0 ++ l)) := by
  obtain ⟨j0, hj0, hjz, hj1, hj2⟩ := info_parts8_ intJ_
  obtain ⟨wm, hmk, hown, hgr⟩ := run_makeSlice_full (P := Try.prog) (w := w) w.heap.size 62 3 j0 _ 1 Try.underlying62 hj0 hjz hj1 .i64 .i64 n (by omega) (by rw [hj2]; omega) (by unfold maxLen; omega) (Nat.le_refl _)
  have hown2 := OwnM.of hown
  rw [show (Value.int IntKind.i64 0).cells = #[Value.int .i64 0] from rfl, Nat.mul_one, madeCells_rep] at hown2
  have hb1 : Below w.heap.size w wm := grown_below (Below.refl _ _) hgr (by simp)
  have h2 := topR (h.to hb1)
  have hl : l.length = m := by have := h.1; simpa using this
  clear hown hgr h
  replace hl := hid_mk hl
  refine calls_of_wpQ Try.func33 rfl ?_
  intro Q hQ
  simp only [Try.ntmps33, List.size_toArray, List.length_cons, List.length_nil, Nat.reduceAdd, Nat.reduceSub, Array.replicate_succ, Array.replicate_zero, List.push_toArray, List.append_toArray, List.nil_append, List.cons_append]
  go_wp2_with (at_builtin; refine wpl_append rfl (.tmp 6) (.tmp 7) 62 rfl 3 j0 _ 8 Try.underlying62 hj0 hjz hj1 hj2 rfl hb1 (.slice (some ⟨w.heap.size, 0, none⟩) n n) n _ rfl hown2 wm.heap.size A m c _ (by simp [Act.eval]) h2 (vnat_one _) (by omega) (by omega) ?_; intro A5 c5 w5 hown5 hc5 q5 st hs5)
  refine ends_ret hQ (results_tmp rfl _ _ _) rfl ?_
  refine ⟨A5, n + m, c5, rfl, hc5, ?_, q5, ?_, ?_⟩
  · rw [List.map_append]; exact hown5.reads
  · intro e he
    rcases List.mem_append.1 he with h | h
    · simp at h; omega
    · exact hd e h
  · rw [List.length_append, hl.out, List.length_replicate]
theorem getD_of {l : List Nat} {i x : Nat} (h : l[i]? = some x) : l.getD i 0 = x := by rw [List.getD_eq_getElem?_getD, h]; rfl
theorem getD_out {l : List Nat} {i : Nat} (h : l.length ≤ i) : l.getD i 0 = 0 := by rw [List.getD_eq_getElem?_getD, List.getElem?_eq_none h]; rfl
theorem aboveN_step (a b : List Nat) (i : Nat) : aboveN a b (i + 1) = if a.getD i 0 ≠ b.getD i 0 then decide (b.getD i 0 < a.getD i 0) else aboveN a b i := rfl
theorem reads_at {w : World} {B n : Nat} {A : Option Addr} {l : List Nat} (h : Reads w B 3 1 A n (l.map vnat)) {k : Nat} (hk : k < n) : ∃ b o x, A = some ⟨b, o, none⟩ ∧ b < w.heap.size ∧ l[k]? = some x ∧ w.cell? ⟨b, o + k, none⟩ = some (.int .i64 x) := by
  obtain ⟨b, o, e, hlt, _, hc⟩ := h.2 (by omega)
  have hl : l.length = n := by have := h.1; simpa using this
  obtain ⟨x, hx⟩ : ∃ x, l[k]? = some x := ⟨_, List.getElem?_eq_getElem (by omega)⟩
  exact ⟨b, o, x, e, hlt, hx, hc k _ (by rw [List.getElem?_map, hx]; rfl)⟩
set_option maxHeartbeats 1600000 in
theorem above_any_ (A : Option Addr) (n c : Nat) (l : List Nat) (A' : Option Addr) (n' c' : Nat) (l' : List Nat) (w : World) {B B' : Nat} (h : Reads w B 3 1 A n (l.map vnat)) (h' : Reads w B' 3 1 A' n' (l'.map vnat)) (hn : n ≤ 1000) (hn' : n' ≤ 1000) (hd : Dig l) (hd' : Dig l') :
    Calls Try.prog 36 #[.slice A n c, .slice A' n' c'] w fun e w' => e = .returned (.bool (aboveM l l')) ∧ Below w.heap.size w w' := by
  have hl : l.length = n := by have := h.1; simpa using this
  have hl' : l'.length = n' := by have := h'.1; simpa using this
  have ham : aboveM l l' = aboveN l l' (max n n') := by unfold aboveM; rw [hl, hl']
  rw [ham]
  obtain ⟨mx, hmx⟩ : ∃ m, max n n' = m := ⟨_, rfl⟩
  have hm1 : mx ≤ 1000 := by omega
  rw [hmx]
  replace hl := hid_mk hl
  replace hl' := hid_mk hl'
  replace ham := hid_mk ham
  obtain ⟨R, hR⟩ : ∃ R, aboveN l l' mx = R := ⟨_, rfl⟩
  rw [hR]
  replace hR := hid_mk hR
  by_cases hgt : n < n'
  case' pos => obtain rfl : n' = mx := by omega
  case' neg => obtain rfl : n = mx := by omega
  all_goals
    replace hmx := hid_mk hmx
    refine calls_of_wpQ Try.func36 rfl ?_
    intro Q hQ
    simp only [Try.ntmps36, List.size_toArray, List.length_cons, List.length_nil, Nat.reduceAdd, Nat.reduceSub, Array.replicate_succ, Array.replicate_zero, List.push_toArray, List.append_toArray, List.nil_append, List.cons_append]
    go_wp2
    go_loopw [6] (fun iv wr => ∃ (k : Nat), iv = .int .i64 ((k : Int) - 1) ∧ k ≤ 1000 ∧ Hid (R = aboveN l l' k) ∧ w = wr) (fun iv _ => (intOf iv + 1).toNat)
    case atStart => exact ⟨_, rfl, hm1, hR.out.symm, rfl⟩
    case round =>
      obtain ⟨k, rfl, hk, hr, rfl⟩ := hrel
      rcases Nat.eq_zero_or_pos k with rfl | hkp
      · have hrf : R = false := by rw [hr.out]; rfl
        subst hrf
        go_wp2
        refine ends_ret hQ (results_tmp rfl _ _ _) rfl ?_
        exact ⟨rfl, Below.refl _ _⟩
      · obtain ⟨i, rfl⟩ : ∃ i, k = i + 1 := ⟨k - 1, by omega⟩
        have e1 : ((i + 1 : Nat) : Int) - 1 = (i : Int) := by omega
        rw [e1]
        have i0 : (0 : Int) ≤ (i : Int) := by omega
        have hst := aboveN_step l l' i
        obtain ⟨x, hx⟩ : ∃ x, l.getD i 0 = x := ⟨_, rfl⟩
        obtain ⟨y, hy⟩ : ∃ y, l'.getD i 0 = y := ⟨_, rfl⟩
        rw [hx, hy] at hst
        have w1 : IntKind.i64.wrap ((i : Int) - 1) = (i : Int) - 1 := IntWalk.i64_in _ (by omega)
        have hc1 : (∃ b o, A = some ⟨b, o, none⟩ ∧ b < w.heap.size ∧ i < n ∧ w.cell? ⟨b, o + i, none⟩ = some (.int .i64 x)) ∨ (n ≤ i ∧ x = 0) := by
          by_cases h1 : i < n
          · obtain ⟨b, o, z, e2, h2, h3, h4⟩ := reads_at h h1
            rw [getD_of h3] at hx
            subst hx
            exact .inl ⟨b, o, e2, h2, h1, h4⟩
          · exact .inr ⟨by omega, by rw [← hx]; exact getD_out (by rw [hl.out]; omega)⟩
        have hc2 : (∃ b o, A' = some ⟨b, o, none⟩ ∧ b < w.heap.size ∧ i < n' ∧ w.cell? ⟨b, o + i, none⟩ = some (.int .i64 y)) ∨ (n' ≤ i ∧ y = 0) := by
          by_cases h1 : i < n'
          · obtain ⟨b, o, z, e2, h2, h3, h4⟩ := reads_at h' h1
            rw [getD_of h3] at hy
            subst hy
            exact .inl ⟨b, o, e2, h2, h1, h4⟩
          · exact .inr ⟨by omega, by rw [← hy]; exact getD_out (by rw [hl'.out]; omega)⟩
        replace hx := hid_mk hx
        replace hy := hid_mk hy
        have hcases : (x = y) ∨ (x ≠ y ∧ y < x) ∨ (x ≠ y ∧ x < y ∧ ¬ y < x) := by omega
        have hfin : Hid (R = if x ≠ y then decide (y < x) else aboveN l l' i) := by rw [Hid, hr.out, hst]
        clear hst hr e1
        rcases hc1 with ⟨b1, o1, rfl, hb1, hi1, c1⟩ | ⟨hi1, rfl⟩
        all_goals
          rcases hc2 with ⟨b2, o2, rfl, hb2, hi2, c2⟩ | ⟨hi2, rfl⟩
          all_goals
            rcases hcases with hxy | ⟨hxy, hlt⟩ | ⟨hxy, hlt, hlt2⟩
            · have hf2 : Hid (R = aboveN l l' i) := by rw [Hid, hfin.out, if_neg (by omega)]
              try subst hxy
              go_wp2
              first
                | done
                | (go_roundw
                   case rel => first | exact ⟨i, rfl, by omega, hf2, rfl⟩ | exact ⟨i, rfl, by omega, hf2, trivial⟩
                   case measure => simp [intOf] <;> omega)
            · first
                | omega
                | (have hf2 : R = true := by (rw [hfin.out, if_pos hxy]; exact decide_eq_true hlt)
                   subst hf2
                   go_wp2
                   first
                     | done
                     | (refine ends_ret hQ (results_tmp rfl _ _ _) rfl ?_
                        exact ⟨rfl, Below.refl _ _⟩))
            · first
                | omega
                | (have hf2 : R = false := by (rw [hfin.out, if_pos hxy]; exact decide_eq_false (by omega))
                   subst hf2
                   go_wp2
                   first
                     | done
                     | (refine ends_ret hQ (results_tmp rfl _ _ _) rfl ?_
                        exact ⟨rfl, Below.refl _ _⟩))
end Go.Proofs.Ytpfjfihfnplhfaa
