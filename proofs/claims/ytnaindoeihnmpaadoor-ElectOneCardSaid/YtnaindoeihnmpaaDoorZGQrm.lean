/-
  WHAT IS PROVED HERE: what quorum.Parse and the reference's Parse hand back. Condition: the variable internal/bytealg.MaxLen holds a number.
  WHAT IS PROVED HERE: Parse in each case; what the reference's Ints hands back. Conditions as at the contracts.
-/
import Derived.Test.YtnaindoeihnmpaaDoorZQrmQ
import Derived.Test.YtnaindoeihnmpaaDoorZOpenS
import Derived.Test.YtnaindoeihnmpaaDoorZGJrn
import Derived.Test.YtnaindoeihnmpaaDoorZShelfB
namespace Go.Proofs.YtnaindoeihnmpaaDoor
open Go.RowKit

theorem intJ : (Tryd.prog.info? 3).map (fun i => (i.zero, i.size, i.bytes)) = some (some (.int .i64 0), 1, 8) := by kernel_rfl
theorem info_parts8 {P : Program} {t : TypeId} {z : Value} (h : (P.info? t).map (fun i => (i.zero, i.size, i.bytes)) = some (some z, 1, 8)) : ∃ i, P.info? t = some i ∧ i.zero = some z ∧ i.size = 1 ∧ i.bytes = 8 := by
  cases hi : P.info? t with
  | none => rw [hi] at h; simp at h
  | some i => rw [hi] at h; simp at h; exact ⟨i, rfl, h.1, h.2.1, h.2.2⟩
theorem vint_one (xs : List Int) : ∀ u ∈ xs.map vint, u.oneCell' = true := by
  intro u hu
  obtain ⟨x, _, rfl⟩ := List.mem_map.1 hu
  rfl
/-- what reading a text hands back -/
def RetQ (w : World) (p : Option (List Int)) (e : Ending) (w' : World) : Prop :=
  ∃ A n c, e = .returned (.tuple #[.slice A n c, .int .i64 (if p.isSome then 0 else 160)]) ∧ Ints w' 0 A n (p.getD []) ∧ n ≤ c ∧ n ≤ 7 ∧ Below w.heap.size w w'
/-- what the reference's reading hands back -/
def RetQR (w : World) (p : Option (List Int)) (e : Ending) (w' : World) : Prop :=
  ∃ A n c, e = .returned (.tuple #[.slice A n c, .bool p.isSome]) ∧ (p.isSome = true → Ints w' 0 A n (p.getD [])) ∧ n ≤ c ∧ n ≤ 7 ∧ Below w.heap.size w w'
theorem one_bad {p : List UInt8} (ps : List (List UInt8)) (h : p.length ≠ 1) : oneL (p :: ps) = none := by
  match p, h with
  | [], _ => rfl
  | [c], h => exact absurd rfl h
  | _ :: _ :: _, _ => rfl
def partsOf (s : ByteArray) : List ByteArray := Lib.splitB ⟨#[44]⟩ 0 (Lib.countB s ⟨#[44]⟩) s
theorem parts_spl (s : ByteArray) : (partsOf s).map (·.data.toList) = spl s.data.toList := by
  unfold partsOf
  rw [Lib.splitB_data]
  exact splitK_spl _
theorem parts_len (s : ByteArray) : (partsOf s).length = Lib.countB s ⟨#[44]⟩ + 1 := Lib.splitB_all ⟨#[44]⟩ (by decide) 0 _ s rfl
theorem opt_map_app {o : Option (List Int)} (outs : List Int) (x : Int) : (o.map (x :: ·)).map (outs ++ ·) = o.map ((outs ++ [x]) ++ ·) := by
  cases o <;> simp
set_option maxRecDepth 100000 in
set_option maxHeartbeats 1600000 in
theorem Parse_any (s : ByteArray) (w : World) (m : Int) (hm : w.cell? ⟨1, 0, none⟩ = some (.int .i64 m)) :
    Calls Tryd.prog 43 #[.string s] w (RetQ w (parseQ s.data.toList)) := by
  obtain ⟨p, hp⟩ : ∃ p, parseQ s.data.toList = p := ⟨_, rfl⟩
  rw [hp]
  by_cases hbig : 14 < s.size
  · have hpn : p = none := by rw [← hp]; unfold parseQ; rw [if_pos (by simpa using hbig)]
    subst hpn
    replace hp := hid_mk hp
    refine calls_of_wpQ Tryd.func43 rfl ?_
    intro Q hQ
    simp only [Tryd.ntmps43, List.size_toArray, List.length_cons, List.length_nil, Nat.reduceAdd, Nat.reduceSub, Array.replicate_succ, Array.replicate_zero, List.push_toArray, List.append_toArray, List.nil_append, List.cons_append]
    go_wp2
    refine ends_ret hQ (results_tmp2 rfl _ _ _) rfl ?_
    exact ⟨none, 0, 0, rfl, Reads.none_, Nat.le_refl _, by omega, Below.refl _ _⟩
  have hpe : Hid (p = okR (oneL (spl s.data.toList))) := by rw [Hid, ← hp]; unfold parseQ; rw [if_neg (by simpa using hbig)]
  replace hp := hid_mk hp
  obtain ⟨j0, hj0, hjz, hj1, hj2⟩ := info_parts8 intJ
  have hcl := Lib.countB_le ⟨#[44]⟩ (by decide) s.size s (Nat.le_refl _)
  obtain ⟨N, hN⟩ : ∃ N, Lib.countB s ⟨#[44]⟩ + 1 = N := ⟨_, rfl⟩
  obtain ⟨ps, hps⟩ : ∃ ps, partsOf s = ps := ⟨_, rfl⟩
  have hpsl : Hid (ps.length = N) := by rw [Hid, ← hps, parts_len, hN]
  have hpss : Hid (spl s.data.toList = (ps.drop 0).map (·.data.toList)) := by rw [Hid, List.drop_zero, ← hps, parts_spl]
  have hN15 : N ≤ 15 := by omega
  have hps2 : Hid (Lib.splitB ⟨#[44]⟩ 0 (Lib.countB s ⟨#[44]⟩) s = ps) := hps
  replace hps := hid_mk hps
  replace hN := hid_mk hN
  clear hcl
  refine calls_of_wpQ Tryd.func43 rfl ?_
  intro Q hQ
  simp only [Tryd.ntmps43, List.size_toArray, List.length_cons, List.length_nil, Nat.reduceAdd, Nat.reduceSub, Array.replicate_succ, Array.replicate_zero, List.push_toArray, List.append_toArray, List.nil_append, List.cons_append]
  go_wp2_with fail
  refine (Tryd.strings_Split s ⟨#[44]⟩ m w (by omega) hm (by decide)).mono ?_
  rw [hN.out, hps2.out]
  rintro e w1 ⟨rfl, hw1⟩
  have hst : Hid (Strs w1 0 (some ⟨w.heap.size, 0, none⟩) N ps) := by
    rw [Hid, hw1]
    have h := reads_new w (ps.map Value.string).toArray 9 N 1 0 (by simp [hpsl.out])
    exact h
  have hb1 : Hid (Below w.heap.size w w1) := by rw [Hid, hw1]; exact (Below.refl _ _).alloc (Nat.le_refl _) _
  have own0 : OwnM w1 w1.heap.size 3 (.slice none 0 0) 0 ((([] : List Int)).map vint) := OwnM.nil
  replace hw1 := hid_mk hw1
  clear hm
  go_wp2
  go_loopw [4, 13] (fun ov iv wr => ∃ (k co : Nat) (Ao : Option Addr) (outs : List Int), iv = .int .i64 k ∧ k ≤ N ∧ ov = .slice Ao k co ∧ k ≤ co ∧ OwnM wr w1.heap.size 3 (.slice Ao k co) k (outs.map vint) ∧ Hid (oneL (spl s.data.toList) = (oneL ((ps.drop k).map (·.data.toList))).map (outs ++ ·)) ∧ Hid (Below w1.heap.size w1 wr)) (fun _ iv _ => N - (intOf iv).toNat)
  case atStart => exact ⟨0, 0, none, [], rfl, Nat.zero_le _, rfl, Nat.le_refl _, own0, (by rw [Hid, hpss.out]; simp), hid_mk (Below.refl _ _)⟩
  case round =>
    clear own0
    obtain ⟨k, co, Ao, outs, rfl, hk, rfl, hkc, hown, hone, hb⟩ := hrel
    have q1 := hid_mk (after (w := w) hb.out hb1.out).1
    by_cases hlt : k < N
    · obtain ⟨b, o, t, heq, hbl, hd, hsq, hc⟩ := (hst.out.to hb.out).at_ hlt
      injection heq with heq
      injection heq with e1 e2
      subst e1; subst e2
      rw [Nat.zero_add] at hc
      replace hsq := hid_mk hsq
      by_cases ht : t.size = 1
      · obtain ⟨c, hc1⟩ := Lib.one_byte t ht
        have hnx : Hid (oneL (spl s.data.toList) = (oneL ((ps.drop (k + 1)).map (·.data.toList))).map ((outs ++ [numB c]) ++ ·)) := by
          rw [Hid, hone.out, hd.out, hc1, List.map_cons, one_cons, opt_map_app]
        have ht0 : 0 < t.size := by omega
        have ht1 : (0 : Int) < t.size := by omega
        have ht2 : ((t.size : Int) != 1) = false := by simp; omega
        have htc : t[0] = c := by subst hc1; rfl
        have hn1 : numB c = (c.toNat : Int) - 48 := rfl
        have hn2 := c.toNat_lt
        have hn3 : IntKind.i64.wrap ((c.toNat : Int) - 48) = numB c := by rw [hn1]; exact IntWalk.i64_in _ (by omega)
        replace hn1 := hid_mk hn1
        replace hc1 := hid_mk hc1
        replace ht := hid_mk ht
        go_wp2_with (at_builtin; refine wpl_append_new rfl (.tmp 20) (.tmp 25) 25 rfl 3 j0 _ 8 Tryd.underlying25 hj0 hjz hj1 hj2 rfl hb.out (.slice Ao k co) k _ rfl hown ([numB c].map vint) 1 1 rfl _ rfl (by simp [Act.eval]) (vint_one _) (by omega) (by omega) ?_; intro A5 c5 w5 hown5 hc5 q5 st hs5; rw [← List.map_append] at hown5)
        go_roundw
        case rel => exact ⟨k + 1, c5, A5, outs ++ [numB c], by go_num, by omega, rfl, hc5, hown5, hnx, hid_mk q5⟩
        case measure => simp [intOf]; omega
      · have hpn : p = none := by
          have h1 := hone.out
          rw [hd.out, List.map_cons, one_bad _ (by simpa using ht)] at h1
          rw [hpe.out, h1]; rfl
        subst hpn
        have ht2 : ((t.size : Int) != 1) = true := by simp; omega
        replace ht := hid_mk ht
        go_wp2
        refine ends_ret hQ (results_tmp2 rfl _ _ _) rfl ?_
        exact ⟨none, 0, 0, rfl, Reads.none_, Nat.le_refl _, by omega, q1.out⟩
    · have hpo : Hid (p = okR (some outs)) := by
        rw [Hid, hpe.out, hone.out, List.drop_eq_nil_of_le (by rw [hpsl.out]; omega)]
        simp [oneL]
      have hrd : Ints wr 0 Ao k outs := hown.reads
      cases hr : rightL outs
      · have hpn : p = none := by rw [hpo.out]; simp [okR, hr]
        subst hpn
        replace hr := hid_mk hr
        go_wp2_with fail
        refine (qRight_any _ _ _ outs _ _ (by omega) hrd).mono ?_
        rw [hr.out]
        rintro e w2 ⟨rfl, rfl⟩
        go_wp2
        refine ends_ret hQ (results_tmp2 rfl _ _ _) rfl ?_
        exact ⟨none, 0, 0, rfl, Reads.none_, Nat.le_refl _, by omega, q1.out⟩
      · have hpn : p = some outs := by rw [hpo.out]; simp [okR, hr]
        have hk7 := (right_len hr).2
        have hko : outs.length = k := hrd.len
        subst hpn
        replace hr := hid_mk hr
        go_wp2_with fail
        refine (qRight_any _ _ _ outs _ _ (by omega) hrd).mono ?_
        rw [hr.out]
        rintro e w2 ⟨rfl, rfl⟩
        go_wp2
        refine ends_ret hQ (results_tmp2 rfl _ _ _) rfl ?_
        exact ⟨Ao, k, co, rfl, hrd, hkc, by omega, q1.out⟩
end Go.Proofs.YtnaindoeihnmpaaDoor
namespace Go.Proofs.YtnaindoeihnmpaaDoor
open Go.RowKit

theorem take_snoc {α : Type} {xs : List α} {k : Nat} {y : α} (hd : xs.drop k = y :: xs.drop (k + 1)) : xs.take (k + 1) = xs.take k ++ [y] := by
  have hk : k < xs.length := by
    rcases Nat.lt_or_ge k xs.length with h' | h'
    · exact h'
    · rw [List.drop_eq_nil_of_le h'] at hd; cases hd
  have h2 : xs[k]'hk = y := by rw [List.drop_eq_getElem_cons hk] at hd; injection hd
  rw [List.take_succ_eq_append_getElem hk, h2]
/-- cell by cell the same -/
def sameL : List Int → List Int → Bool
  | [], [] => true
  | x :: xs, y :: ys => x == y && sameL xs ys
  | _, _ => false
theorem sameL_eq : ∀ {xs ys : List Int}, sameL xs ys = decide (xs = ys)
  | [], [] => rfl
  | [], y :: ys => by simp [sameL]
  | x :: xs, [] => by simp [sameL]
  | x :: xs, y :: ys => by
    rw [sameL, sameL_eq]
    by_cases h : x = y <;> simp [h]
theorem Parse_yes (s : ByteArray) (w : World) (m : Int) (hm : w.cell? ⟨1, 0, none⟩ = some (.int .i64 m)) {o : List Int} (hp : parseQ s.data.toList = some o) :
    Calls Tryd.prog 43 #[.string s] w fun e w' => ∃ A n c, e = .returned (.tuple #[.slice A n c, .int .i64 0]) ∧ Ints w' 0 A n o ∧ n ≤ c ∧ n ≤ 7 ∧ Below w.heap.size w w' := by
  refine (Parse_any s w m hm).mono ?_
  intro e w' h
  unfold RetQ at h
  rw [hp] at h
  exact h
theorem Parse_no (s : ByteArray) (w : World) (m : Int) (hm : w.cell? ⟨1, 0, none⟩ = some (.int .i64 m)) (hp : parseQ s.data.toList = none) :
    Calls Tryd.prog 43 #[.string s] w fun e w' => ∃ A c, e = .returned (.tuple #[.slice A 0 c, .int .i64 160]) ∧ Below w.heap.size w w' := by
  refine (Parse_any s w m hm).mono ?_
  intro e w' h
  unfold RetQ at h
  rw [hp] at h
  obtain ⟨A, n, c, h1, h2, _, _, h3⟩ := h
  have h0 : n = 0 := by simpa using h2.len.symm
  subst h0
  exact ⟨A, c, h1, h3⟩
end Go.Proofs.YtnaindoeihnmpaaDoor
