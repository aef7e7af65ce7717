/-
  WHAT IS PROVED HERE: plain laws of voters' texts: what is read by splitting at commas and what is read sign by sign is the same; what is written is read again; what is read, written again, is the text. No program in sight. No condition.
  WHAT IS PROVED HERE: what quorum.Parse and the reference's Parse hand back. Condition: the variable internal/bytealg.MaxLen holds a number.
  WHAT IS PROVED HERE: Parse in each case; what the reference's Ints hands back. Conditions as at the contracts.
-/
import Derived.Test.YtncdjmpdbinanaaGreatDoorZGJrn
import Derived.Lib.SplitLaws
import Derived.Lib.Join
import Derived.Test.YtncdjmpdbinanaaGreatDoorZGOpN
import Derived.Test.YtncdjmpdbinanaaGreatDoorZShelfB
namespace Go.Proofs.YtncdjmpdbinanaaGreatDoor
open Go.RowKit

def numB (c : UInt8) : Int := (c.toNat : Int) - 48
/-- the parts between commas -/
def spl : List UInt8 → List (List UInt8)
  | [] => [[]]
  | c :: l => if c = 44 then [] :: spl l else match spl l with
    | p :: ps => (c :: p) :: ps
    | [] => [[c]]
def oneL : List (List UInt8) → Option (List Int)
  | [] => some []
  | p :: ps => match p with
    | [c] => (oneL ps).map (numB c :: ·)
    | _ => none
/-- sign by sign: true: a number is due -/
def rdL : Bool → List UInt8 → Option (List Int)
  | _, [] => some []
  | true, c :: l => (rdL false l).map (numB c :: ·)
  | false, c :: l => if c = 44 then rdL true l else none
def okR (o : Option (List Int)) : Option (List Int) := match o with
  | some l => if rightL l then some l else none
  | none => none
def parseQ (l : List UInt8) : Option (List Int) := if 14 < l.length then none else okR (oneL (spl l))
def parseR (l : List UInt8) : Option (List Int) := if l.length % 2 = 0 ∨ 13 < l.length then none else okR (rdL true l)
theorem index_comma (c : UInt8) (l : List UInt8) : Lib.index (c :: l) [44] = if c = 44 then 0 else if Lib.index l [44] == -1 then -1 else Lib.index l [44] + 1 := by
  by_cases h : c = 44
  · subst h
    rw [Lib.index, if_pos (by simp), if_pos rfl]
  · rw [Lib.index, if_neg (by simp [List.isPrefixOf, Ne.symm h]), if_neg h]
theorem splitK_spl : ∀ l : List UInt8, Lib.splitK [44] 0 (Lib.count l [44]) l = spl l
  | [] => by rw [Lib.count_miss (by simp [Lib.index])]; rfl
  | c :: l => by
    have ih := splitK_spl l
    by_cases h : c = 44
    · subst h
      rw [Lib.count_cons_eq, Nat.add_comm, Lib.splitK, index_comma, if_pos rfl, if_neg (by decide), spl, if_pos rfl]
      simp [ih]
    · rw [Lib.count_cons_ne c 44 l h, spl, if_neg h]
      have hx := index_comma c l
      rw [if_neg h] at hx
      by_cases hm : Lib.index l [44] = -1
      · rw [Lib.count_miss hm] at ih ⊢
        rw [← ih]
        rfl
      · have hge := Lib.index_ge l [44]
        obtain ⟨j, hj⟩ : ∃ j : Nat, Lib.index l [44] = j := ⟨(Lib.index l [44]).toNat, by omega⟩
        rw [hj] at hx
        rw [if_neg (by simp)] at hx
        rw [Lib.count_hit (by simp) hj] at ih ⊢
        rw [Nat.add_comm] at ih ⊢
        rw [Lib.splitK, hj, if_neg (by simp)] at ih
        rw [Lib.splitK, hx, if_neg (by simp; omega), ← ih]
        have e1 : ((j : Int) + 1).toNat = j + 1 := by omega
        have e2 : ((j : Int)).toNat = j := by omega
        rw [e1, e2]
        simp [Nat.add_assoc]
theorem one_cons (c : UInt8) (ps : List (List UInt8)) : oneL ([c] :: ps) = (oneL ps).map (numB c :: ·) := rfl
def digits (o : List Int) : Prop := ∀ v ∈ o, 1 ≤ v ∧ v ≤ 9
theorem asc_digits : ∀ {l : List Int} {u : Option Int}, ascL u l = true → digits l
  | [], _, _ => by intro v hv; cases hv
  | v :: vs, none, h => by
    unfold ascL at h
    split at h
    · cases h
    · intro x hx
      rcases List.mem_cons.1 hx with rfl | hx
      · omega
      · exact asc_digits h x hx
  | v :: vs, some u, h => by
    unfold ascL at h
    split at h
    · cases h
    · intro x hx
      rcases List.mem_cons.1 hx with rfl | hx
      · omega
      · exact asc_digits h x hx
theorem right_digits {l : List Int} (h : rightL l = true) : digits l := by
  unfold rightL at h
  simp at h
  exact asc_digits h.1
theorem right_len {l : List Int} (h : rightL l = true) : 1 ≤ l.length ∧ l.length ≤ 7 := by
  unfold rightL at h
  simp at h
  exact h.2
theorem parse_right {l : List UInt8} {o : List Int} (h : parseQ l = some o) : rightL o = true := by
  unfold parseQ at h
  split at h
  · cases h
  · cases ho : oneL (spl l) with
    | none => rw [ho] at h; simp [okR] at h
    | some p =>
      rw [ho] at h
      simp only [okR] at h
      split at h
      · rename_i hr
        injection h with h; subst h; exact hr
      · cases h
end Go.Proofs.YtncdjmpdbinanaaGreatDoor
namespace Go.Proofs.YtncdjmpdbinanaaGreatDoor
open Go.RowKit

theorem intJ : (Tryz.prog.info? 3).map (fun i => (i.zero, i.size, i.bytes)) = some (some (.int .i64 0), 1, 8) := by kernel_rfl
theorem info_parts8 {P : Program} {t : TypeId} {z : Value} (h : (P.info? t).map (fun i => (i.zero, i.size, i.bytes)) = some (some z, 1, 8)) : ∃ i, P.info? t = some i ∧ i.zero = some z ∧ i.size = 1 ∧ i.bytes = 8 := by
  cases hi : P.info? t with
  | none => rw [hi] at h; simp at h
  | some i => rw [hi] at h; simp at h; exact ⟨i, rfl, h.1, h.2.1, h.2.2⟩
theorem vint_one (xs : List Int) : ∀ u ∈ xs.map vint, u.oneCell' = true := by
  intro u hu
  obtain ⟨x, _, rfl⟩ := List.mem_map.1 hu
  rfl
/-- what reading a text hands back -/
def RetQ (w : World) (p : Option (List Int)) (e : Ending) (w' : World) : Prop :=
  ∃ A n c, e = .returned (.tuple #[.slice A n c, .int .i64 (if p.isSome then 0 else 160)]) ∧ Ints w' 0 A n (p.getD []) ∧ n ≤ c ∧ n ≤ 7 ∧ Below w.heap.size w w'
/-- what the reference's reading hands back -/
def RetQR (w : World) (p : Option (List Int)) (e : Ending) (w' : World) : Prop :=
  ∃ A n c, e = .returned (.tuple #[.slice A n c, .bool p.isSome]) ∧ (p.isSome = true → Ints w' 0 A n (p.getD [])) ∧ n ≤ c ∧ n ≤ 7 ∧ Below w.heap.size w w'
theorem one_bad {p : List UInt8} (ps : List (List UInt8)) (h : p.length ≠ 1) : oneL (p :: ps) = none := by
  match p, h with
  | [], _ => rfl
  | [c], h => exact absurd rfl h
  | _ :: _ :: _, _ => rfl
def partsOf (s : ByteArray) : List ByteArray := Lib.splitB ⟨#[44]⟩ 0 (Lib.countB s ⟨#[44]⟩) s
theorem parts_spl (s : ByteArray) : (partsOf s).map (·.data.toList) = spl s.data.toList := by
  unfold partsOf
  rw [Lib.splitB_data]
  exact splitK_spl _
theorem parts_len (s : ByteArray) : (partsOf s).length = Lib.countB s ⟨#[44]⟩ + 1 := Lib.splitB_all ⟨#[44]⟩ (by decide) 0 _ s rfl
theorem opt_map_app {o : Option (List Int)} (outs : List Int) (x : Int) : (o.map (x :: ·)).map (outs ++ ·) = o.map ((outs ++ [x]) ++ ·) := by
  cases o <;> simp
set_option maxRecDepth 100000 in
set_option maxHeartbeats 1600000 in
theorem Parse_any (s : ByteArray) (w : World) (m : Int) (hm : w.cell? ⟨0, 0, none⟩ = some (.int .i64 m)) :
    Calls Tryz.prog 83 #[.string s] w (RetQ w (parseQ s.data.toList)) := by
  obtain ⟨p, hp⟩ : ∃ p, parseQ s.data.toList = p := ⟨_, rfl⟩
  rw [hp]
  by_cases hbig : 14 < s.size
  · have hpn : p = none := by rw [← hp]; unfold parseQ; rw [if_pos (by simpa using hbig)]
    subst hpn
    replace hp := hid_mk hp
    refine calls_of_wpQ Tryz.func83 rfl ?_
    intro Q hQ
    simp only [Tryz.ntmps83, List.size_toArray, List.length_cons, List.length_nil, Nat.reduceAdd, Nat.reduceSub, Array.replicate_succ, Array.replicate_zero, List.push_toArray, List.append_toArray, List.nil_append, List.cons_append]
    go_wp2
    refine ends_ret hQ (results_tmp2 rfl _ _ _) rfl ?_
    exact ⟨none, 0, 0, rfl, Reads.none_, Nat.le_refl _, by omega, Below.refl _ _⟩
  have hpe : Hid (p = okR (oneL (spl s.data.toList))) := by rw [Hid, ← hp]; unfold parseQ; rw [if_neg (by simpa using hbig)]
  replace hp := hid_mk hp
  obtain ⟨j0, hj0, hjz, hj1, hj2⟩ := info_parts8 intJ
  have hcl := Lib.countB_le ⟨#[44]⟩ (by decide) s.size s (Nat.le_refl _)
  obtain ⟨N, hN⟩ : ∃ N, Lib.countB s ⟨#[44]⟩ + 1 = N := ⟨_, rfl⟩
  obtain ⟨ps, hps⟩ : ∃ ps, partsOf s = ps := ⟨_, rfl⟩
  have hpsl : Hid (ps.length = N) := by rw [Hid, ← hps, parts_len, hN]
  have hpss : Hid (spl s.data.toList = (ps.drop 0).map (·.data.toList)) := by rw [Hid, List.drop_zero, ← hps, parts_spl]
  have hN15 : N ≤ 15 := by omega
  have hps2 : Hid (Lib.splitB ⟨#[44]⟩ 0 (Lib.countB s ⟨#[44]⟩) s = ps) := hps
  replace hps := hid_mk hps
  replace hN := hid_mk hN
  clear hcl
  refine calls_of_wpQ Tryz.func83 rfl ?_
  intro Q hQ
  simp only [Tryz.ntmps83, List.size_toArray, List.length_cons, List.length_nil, Nat.reduceAdd, Nat.reduceSub, Array.replicate_succ, Array.replicate_zero, List.push_toArray, List.append_toArray, List.nil_append, List.cons_append]
  go_wp2_with fail
  refine (Tryz.strings_Split s ⟨#[44]⟩ m w (by omega) hm (by decide)).mono ?_
  rw [hN.out, hps2.out]
  rintro e w1 ⟨rfl, hw1⟩
  have hst : Hid (Strs w1 0 (some ⟨w.heap.size, 0, none⟩) N ps) := by
    rw [Hid, hw1]
    have h := reads_new w (ps.map Value.string).toArray 9 N 1 0 (by simp [hpsl.out])
    exact h
  have hb1 : Hid (Below w.heap.size w w1) := by rw [Hid, hw1]; exact (Below.refl _ _).alloc (Nat.le_refl _) _
  have own0 : OwnM w1 w1.heap.size 3 (.slice none 0 0) 0 ((([] : List Int)).map vint) := OwnM.nil
  replace hw1 := hid_mk hw1
  clear hm
  go_wp2
  go_loopw [4, 13] (fun ov iv wr => ∃ (k co : Nat) (Ao : Option Addr) (outs : List Int), iv = .int .i64 k ∧ k ≤ N ∧ ov = .slice Ao k co ∧ k ≤ co ∧ OwnM wr w1.heap.size 3 (.slice Ao k co) k (outs.map vint) ∧ Hid (oneL (spl s.data.toList) = (oneL ((ps.drop k).map (·.data.toList))).map (outs ++ ·)) ∧ Hid (Below w1.heap.size w1 wr)) (fun _ iv _ => N - (intOf iv).toNat)
  case atStart => exact ⟨0, 0, none, [], rfl, Nat.zero_le _, rfl, Nat.le_refl _, own0, (by rw [Hid, hpss.out]; simp), hid_mk (Below.refl _ _)⟩
  case round =>
    clear own0
    obtain ⟨k, co, Ao, outs, rfl, hk, rfl, hkc, hown, hone, hb⟩ := hrel
    have q1 := hid_mk (after (w := w) hb.out hb1.out).1
    by_cases hlt : k < N
    · obtain ⟨b, o, t, heq, hbl, hd, hsq, hc⟩ := (hst.out.to hb.out).at_ hlt
      injection heq with heq
      injection heq with e1 e2
      subst e1; subst e2
      rw [Nat.zero_add] at hc
      replace hsq := hid_mk hsq
      by_cases ht : t.size = 1
      · obtain ⟨c, hc1⟩ := Lib.one_byte t ht
        have hnx : Hid (oneL (spl s.data.toList) = (oneL ((ps.drop (k + 1)).map (·.data.toList))).map ((outs ++ [numB c]) ++ ·)) := by
          rw [Hid, hone.out, hd.out, hc1, List.map_cons, one_cons, opt_map_app]
        have ht0 : 0 < t.size := by omega
        have ht1 : (0 : Int) < t.size := by omega
        have ht2 : ((t.size : Int) != 1) = false := by simp; omega
        have htc : t[0] = c := by subst hc1; rfl
        have hn1 : numB c = (c.toNat : Int) - 48 := rfl
        have hn2 := c.toNat_lt
        have hn3 : IntKind.i64.wrap ((c.toNat : Int) - 48) = numB c := by rw [hn1]; exact IntWalk.i64_in _ (by omega)
        replace hn1 := hid_mk hn1
        replace hc1 := hid_mk hc1
        replace ht := hid_mk ht
        go_wp2_with (at_builtin; refine wpl_append_new rfl (.tmp 20) (.tmp 25) 25 rfl 3 j0 _ 8 Tryz.underlying25 hj0 hjz hj1 hj2 rfl hb.out (.slice Ao k co) k _ rfl hown ([numB c].map vint) 1 1 rfl _ rfl (by simp [Act.eval]) (vint_one _) (by omega) (by omega) ?_; intro A5 c5 w5 hown5 hc5 q5 st hs5; rw [← List.map_append] at hown5)
        go_roundw
        case rel => exact ⟨k + 1, c5, A5, outs ++ [numB c], by go_num, by omega, rfl, hc5, hown5, hnx, hid_mk q5⟩
        case measure => simp [intOf]; omega
      · have hpn : p = none := by
          have h1 := hone.out
          rw [hd.out, List.map_cons, one_bad _ (by simpa using ht)] at h1
          rw [hpe.out, h1]; rfl
        subst hpn
        have ht2 : ((t.size : Int) != 1) = true := by simp; omega
        replace ht := hid_mk ht
        go_wp2
        refine ends_ret hQ (results_tmp2 rfl _ _ _) rfl ?_
        exact ⟨none, 0, 0, rfl, Reads.none_, Nat.le_refl _, by omega, q1.out⟩
    · have hpo : Hid (p = okR (some outs)) := by
        rw [Hid, hpe.out, hone.out, List.drop_eq_nil_of_le (by rw [hpsl.out]; omega)]
        simp [oneL]
      have hrd : Ints wr 0 Ao k outs := hown.reads
      cases hr : rightL outs
      · have hpn : p = none := by rw [hpo.out]; simp [okR, hr]
        subst hpn
        replace hr := hid_mk hr
        go_wp2_with fail
        refine (qRight_any _ _ _ outs _ _ (by omega) hrd).mono ?_
        rw [hr.out]
        rintro e w2 ⟨rfl, rfl⟩
        go_wp2
        refine ends_ret hQ (results_tmp2 rfl _ _ _) rfl ?_
        exact ⟨none, 0, 0, rfl, Reads.none_, Nat.le_refl _, by omega, q1.out⟩
      · have hpn : p = some outs := by rw [hpo.out]; simp [okR, hr]
        have hk7 := (right_len hr).2
        have hko : outs.length = k := hrd.len
        subst hpn
        replace hr := hid_mk hr
        go_wp2_with fail
        refine (qRight_any _ _ _ outs _ _ (by omega) hrd).mono ?_
        rw [hr.out]
        rintro e w2 ⟨rfl, rfl⟩
        go_wp2
        refine ends_ret hQ (results_tmp2 rfl _ _ _) rfl ?_
        exact ⟨Ao, k, co, rfl, hrd, hkc, by omega, q1.out⟩
theorem rd_true (c : UInt8) (l : List UInt8) : rdL true (c :: l) = (rdL false l).map (numB c :: ·) := rfl
theorem rd_false (c : UInt8) (l : List UInt8) : rdL false (c :: l) = if c = 44 then rdL true l else none := rfl
set_option maxRecDepth 100000 in
set_option maxHeartbeats 1600000 in
theorem refParse_any (s : ByteArray) (w : World) :
    Calls Tryz.prog 88 #[.string s] w (RetQR w (parseR s.data.toList)) := by
  obtain ⟨p, hp⟩ : ∃ p, parseR s.data.toList = p := ⟨_, rfl⟩
  rw [hp]
  obtain ⟨r, hr2⟩ : ∃ r, s.size % 2 = r := ⟨_, rfl⟩
  have r1 : (s.size : Int).tmod 2 = (r : Int) := by rw [← hr2]; rfl
  have r2 : (s.size : Int) % 2 = (r : Int) := by omega
  by_cases hbad : r = 0 ∨ 13 < s.size
  · have hpn : p = none := by rw [← hp]; unfold parseR; rw [if_pos (by simpa [hr2] using hbad)]
    subst hpn
    replace hp := hid_mk hp
    rcases Nat.eq_zero_or_pos r with rfl | hrp
    · clear hbad
      replace hr2 := hid_mk hr2
      refine calls_of_wpQ Tryz.func88 rfl ?_
      intro Q hQ
      simp only [Tryz.ntmps88, List.size_toArray, List.length_cons, List.length_nil, Nat.reduceAdd, Nat.reduceSub, Array.replicate_succ, Array.replicate_zero, List.push_toArray, List.append_toArray, List.nil_append, List.cons_append]
      go_wp2
      refine ends_ret hQ (results_tmp2 rfl _ _ _) rfl ?_
      exact ⟨none, 0, 0, rfl, (fun h => by cases h), Nat.le_refl _, by omega, by go_grown⟩
    · have hb13 : 13 < s.size := by omega
      have r3 : ((r : Int) == 0) = false := by simp; omega
      have r4 : ¬ r = 0 := by omega
      clear hbad
      replace hr2 := hid_mk hr2
      refine calls_of_wpQ Tryz.func88 rfl ?_
      intro Q hQ
      simp only [Tryz.ntmps88, List.size_toArray, List.length_cons, List.length_nil, Nat.reduceAdd, Nat.reduceSub, Array.replicate_succ, Array.replicate_zero, List.push_toArray, List.append_toArray, List.nil_append, List.cons_append]
      go_wp2
      refine ends_ret hQ (results_tmp2 rfl _ _ _) rfl ?_
      exact ⟨none, 0, 0, rfl, (fun h => by cases h), Nat.le_refl _, by omega, by go_grown⟩
  have hpe : Hid (p = okR (rdL true (s.data.toList.drop 0))) := by rw [Hid, ← hp, List.drop_zero]; unfold parseR; rw [if_neg (by simpa [hr2] using hbad)]
  have hs13 : s.size ≤ 13 := by omega
  have hrp : r = 1 := by omega
  subst hrp
  replace hr2 := hid_mk hr2
  clear hbad
  replace hp := hid_mk hp
  obtain ⟨j0, hj0, hjz, hj1, hj2⟩ := info_parts8 intJ
  have own0 : OwnM (w.alloc (.cells #[] 3)) w.heap.size 3 (.slice (some ⟨w.heap.size, 0, none⟩) 0 0) 0 (([] : List Int).map vint) := (OwnM.of (World.ownsRow_lit (base := w.heap.size) (e := 3) (size := 1) w #[] 0 (Nat.le_refl _) (by unfold maxLen; omega) (by simp)))
  have hb0 : Hid (Below w.heap.size w (w.alloc (.cells #[] 3))) := (Below.refl _ _).alloc (Nat.le_refl _) _
  obtain ⟨F, hF⟩ : ∃ F, rdL true (s.data.toList.drop 0) = F := ⟨_, rfl⟩
  rw [hF] at hpe
  replace hF := hid_mk hF
  refine calls_of_wpQ Tryz.func88 rfl ?_
  intro Q hQ
  simp only [Tryz.ntmps88, List.size_toArray, List.length_cons, List.length_nil, Nat.reduceAdd, Nat.reduceSub, Array.replicate_succ, Array.replicate_zero, List.push_toArray, List.append_toArray, List.nil_append, List.cons_append]
  go_wp2
  go_loopw [4, 5] (fun ov iv wr => ∃ (j k co : Nat) (Ao : Option Addr) (outs : List Int) (ev : Bool), iv = .int .i64 j ∧ j ≤ s.size ∧ Hid (2 * k = j + (if ev then 0 else 1)) ∧ Hid (j % 2 = if ev then 0 else 1) ∧ ov = .slice Ao k co ∧ k ≤ co ∧ OwnM wr w.heap.size 3 (.slice Ao k co) k (outs.map vint) ∧ Hid (F = (rdL ev (s.data.toList.drop j)).map (outs ++ ·)) ∧ Hid (Below w.heap.size w wr)) (fun _ iv _ => s.size - (intOf iv).toNat)
  case atStart => exact ⟨0, 0, 0, _, [], true, rfl, Nat.zero_le _, rfl, rfl, rfl, Nat.le_refl _, own0, (by rw [Hid, hF.out]; simp), hb0⟩
  case round =>
    clear own0 hb0
    obtain ⟨j, k, co, Ao, outs, ev, rfl, hj, hk2, hj2m, rfl, hkc, hown, hrd, hb⟩ := hrel
    by_cases hlt : j < s.size
    · obtain ⟨c, hc⟩ : ∃ c, s[j] = c := ⟨_, rfl⟩
      have hd : s.data.toList.drop j = c :: s.data.toList.drop (j + 1) := by
        have hl : j < s.data.toList.length := by simpa using hlt
        rw [List.drop_eq_getElem_cons hl]
        congr 1
      have k0 : (0 : Int) ≤ j := by omega
      have k1 : (j : Int) < s.size := by omega
      have hcn := c.toNat_lt
      cases ev
      · have hjm : j % 2 = 1 := by have h := hj2m.out; simpa using h
        have y2 : (j : Int).tmod 2 = 1 := by have : (j : Int).tmod 2 = ((j % 2 : Nat) : Int) := rfl
                                             rw [this, hjm]; rfl
        have y3 : (j : Int) % 2 = 1 := by omega
        by_cases h44 : c = 44
        · have hnx : Hid (F = (rdL true (s.data.toList.drop (j + 1))).map (outs ++ ·)) := by rw [Hid, hrd.out, hd, rd_false, if_pos h44]
          have hkn : Hid (2 * k = j + 1 + (if true then 0 else 1)) := by have h := hk2.out; simp at h; rw [Hid]; simp; omega
          have hjn : Hid ((j + 1) % 2 = if true then 0 else 1) := by rw [Hid]; simp; omega
          have hc44 : ((c.toNat : Int) != 44) = false := by rw [h44]; rfl
          have hc45 : ((c.toNat : Int) == 44) = true := by rw [h44]; rfl
          replace hd := hid_mk hd
          replace h44 := hid_mk h44
          replace hjm := hid_mk hjm
          go_wp2
          go_roundw
          case rel => exact ⟨j + 1, k, co, Ao, outs, true, by go_num, by omega, hkn, hjn, rfl, hkc, hown, hnx, hb⟩
          case measure => simp [intOf]; omega
        · have hpn : p = none := by rw [hpe.out, hrd.out, hd, rd_false, if_neg h44]; rfl
          subst hpn
          have hcn4 : (c.toNat : Int) ≠ 44 := fun e => h44 (UInt8.toNat_inj.1 (by rw [show (44 : UInt8).toNat = 44 from rfl]; omega))
          have hc44 : ((c.toNat : Int) != 44) = true := by simpa using hcn4
          replace hd := hid_mk hd
          replace h44 := hid_mk h44
          replace hjm := hid_mk hjm
          go_wp2
          refine ends_ret hQ (results_tmp2 rfl _ _ _) rfl ?_
          exact ⟨none, 0, 0, rfl, (fun h => by cases h), Nat.le_refl _, by omega, hb.out⟩
      · have hjm : j % 2 = 0 := by have h := hj2m.out; simpa using h
        have y2 : (j : Int).tmod 2 = 0 := by have : (j : Int).tmod 2 = ((j % 2 : Nat) : Int) := rfl
                                             rw [this, hjm]; rfl
        have y3 : (j : Int) % 2 = 0 := by omega
        have hkj : 2 * k = j := by have h := hk2.out; simpa using h
        have hnx : Hid (F = (rdL false (s.data.toList.drop (j + 1))).map ((outs ++ [numB c]) ++ ·)) := by rw [Hid, hrd.out, hd, rd_true, opt_map_app]
        have hkn : Hid (2 * (k + 1) = j + 1 + (if false then 0 else 1)) := by rw [Hid]; simp; omega
        have hjn : Hid ((j + 1) % 2 = if false then 0 else 1) := by rw [Hid]; simp; omega
        have hn1 : numB c = (c.toNat : Int) - 48 := rfl
        have hn3 : IntKind.i64.wrap ((c.toNat : Int) - 48) = numB c := by rw [hn1]; exact IntWalk.i64_in _ (by omega)
        replace hn1 := hid_mk hn1
        replace hd := hid_mk hd
        replace hjm := hid_mk hjm
        replace hkj := hid_mk hkj
        have hk14 : k ≤ 14 := by have := hkj.out; omega
        go_wp2_with (at_builtin; refine wpl_append_new rfl (.tmp 34) (.tmp 40) 25 rfl 3 j0 _ 8 Tryz.underlying25 hj0 hjz hj1 hj2 rfl hb.out (.slice Ao k co) k _ rfl hown ([numB c].map vint) 1 1 rfl _ rfl (by simp [Act.eval]) (vint_one _) (by omega) (by omega) ?_; intro A5 c5 w5 hown5 hc5 q5 st hs5; rw [← List.map_append] at hown5)
        go_roundw
        case rel => exact ⟨j + 1, k + 1, c5, A5, outs ++ [numB c], false, by go_num, by omega, hkn, hjn, rfl, hc5, hown5, hnx, hid_mk q5⟩
        case measure => simp [intOf]; omega
    · obtain rfl : j = s.size := by omega
      have hev : ev = false := by
        have h1 := hj2m.out
        have h2 := hr2.out
        cases ev
        · rfl
        · simp at h1; omega
      subst hev
      have hk7 : k ≤ 7 := by have h := hk2.out; simp at h; omega
      have hpo : Hid (p = okR (some outs)) := by
        rw [Hid, hpe.out, hrd.out, List.drop_eq_nil_of_le (by simp)]
        simp [rdL]
      have hrd2 : Ints wr 0 Ao k outs := hown.reads
      cases hr : rightL outs
      · have hpn : p = none := by rw [hpo.out]; simp [okR, hr]
        subst hpn
        replace hr := hid_mk hr
        go_wp2_with fail
        refine (qrefRight_any _ _ _ outs _ _ (by omega) hrd2).mono ?_
        rw [hr.out]
        rintro e w2 ⟨rfl, rfl⟩
        go_wp2
        refine ends_ret hQ (results_tmp2 rfl _ _ _) rfl ?_
        exact ⟨Ao, k, co, rfl, (fun h => by cases h), hkc, hk7, hb.out⟩
      · have hpn : p = some outs := by rw [hpo.out]; simp [okR, hr]
        subst hpn
        replace hr := hid_mk hr
        go_wp2_with fail
        refine (qrefRight_any _ _ _ outs _ _ (by omega) hrd2).mono ?_
        rw [hr.out]
        rintro e w2 ⟨rfl, rfl⟩
        go_wp2
        refine ends_ret hQ (results_tmp2 rfl _ _ _) rfl ?_
        exact ⟨Ao, k, co, rfl, (fun _ => hrd2), hkc, hk7, hb.out⟩
end Go.Proofs.YtncdjmpdbinanaaGreatDoor
namespace Go.Proofs.YtncdjmpdbinanaaGreatDoor
open Go.RowKit

theorem take_snoc {α : Type} {xs : List α} {k : Nat} {y : α} (hd : xs.drop k = y :: xs.drop (k + 1)) : xs.take (k + 1) = xs.take k ++ [y] := by
  have hk : k < xs.length := by
    rcases Nat.lt_or_ge k xs.length with h' | h'
    · exact h'
    · rw [List.drop_eq_nil_of_le h'] at hd; cases hd
  have h2 : xs[k]'hk = y := by rw [List.drop_eq_getElem_cons hk] at hd; injection hd
  rw [List.take_succ_eq_append_getElem hk, h2]
/-- cell by cell the same -/
def sameL : List Int → List Int → Bool
  | [], [] => true
  | x :: xs, y :: ys => x == y && sameL xs ys
  | _, _ => false
theorem sameL_eq : ∀ {xs ys : List Int}, sameL xs ys = decide (xs = ys)
  | [], [] => rfl
  | [], y :: ys => by simp [sameL]
  | x :: xs, [] => by simp [sameL]
  | x :: xs, y :: ys => by
    rw [sameL, sameL_eq]
    by_cases h : x = y <;> simp [h]
set_option maxRecDepth 100000 in
set_option maxHeartbeats 400000 in
theorem Ints_any (a : Option Addr) (len cap : Nat) (xs : List Int) (a' : Option Addr) (len' cap' : Nat) (ys : List Int) (w : World) (B B' : Nat) (hm : len ≤ 140737488355328) (hm' : len' ≤ 140737488355328)
    (h : Ints w B a len xs) (h' : Ints w B' a' len' ys) :
    Calls Tryz.prog 63 #[.slice a len cap, .slice a' len' cap'] w fun e w' => e = .returned (.bool (decide (xs = ys))) ∧ Below w.heap.size w w' := by
  have hl := hid_mk h.len
  have hl' := hid_mk h'.len
  by_cases e : len = len'
  · subst e
    go_enter Tryz.func63, Tryz.ntmps63
    go_wp2
    go_loopw [13] (fun i wr => ∃ k : Nat, k ≤ len ∧ i = .int .i64 k ∧ Below w.heap.size w wr ∧ Hid (sameL xs ys = sameL (xs.drop k) (ys.drop k))) (fun i _ => len - (intOf i).toNat)
    case atStart => exact ⟨0, Nat.zero_le _, rfl, Below.refl _ _, by simp [Hid]⟩
    case round =>
      obtain ⟨k, hk, rfl, hb, hn⟩ := hrel
      by_cases hlt : k < len
      · obtain ⟨b, o, x, rfl, _, hd, hc⟩ := (h.below hb).at_ hlt
        obtain ⟨b', o', y, rfl, _, hd', hc'⟩ := (h'.below hb).at_ hlt
        have hki : (k : Int) < len := by omega
        have hk0 : (0 : Int) ≤ k := by omega
        by_cases ht : x = y
        · have ht1 : (x != y) = false := by simp [ht]
          replace ht := hid_mk ht
          go_wp2
          go_quiet (fail)
          all_goals go_wp2
          all_goals
            go_roundw
            case rel => exact ⟨k + 1, by omega, by go_num, below_drewN hb _, by rw [Hid, hn.out, hd.out, hd'.out]; simp [sameL, ht.out]⟩
            case measure => simp [intOf]; omega
        · have ht1 : (x != y) = true := by simp [ht]
          replace ht := hid_mk ht
          go_wp2
          go_quiet (fail)
          all_goals go_wp2
          all_goals
            go_ret
            exact ⟨ret_bool (by rw [← sameL_eq, hn.out, hd.out, hd'.out]; simp [sameL, ht.out]), below_drewN hb _⟩
      · have he := hid_mk (h.end_ hk hlt)
        have he' := hid_mk (h'.end_ hk hlt)
        go_wp2
        go_ret
        exact ⟨ret_bool (by rw [← sameL_eq, hn.out, he.out, he'.out]; simp [sameL]), hb⟩
  · have e1 : ((len : Int) != (len' : Int)) = true := by simp; omega
    have e2 : ((len : Nat) != (len' : Nat)) = true := by simp; omega
    go_enter Tryz.func63, Tryz.ntmps63
    go_wp2
    go_ret
    exact ⟨ret_bool (by symm; simp only [decide_eq_false_iff_not]; rintro rfl; exact e (by rw [← hl.out, hl'.out])), Below.refl _ _⟩
theorem Parse_yes (s : ByteArray) (w : World) (m : Int) (hm : w.cell? ⟨0, 0, none⟩ = some (.int .i64 m)) {o : List Int} (hp : parseQ s.data.toList = some o) :
    Calls Tryz.prog 83 #[.string s] w fun e w' => ∃ A n c, e = .returned (.tuple #[.slice A n c, .int .i64 0]) ∧ Ints w' 0 A n o ∧ n ≤ c ∧ n ≤ 7 ∧ Below w.heap.size w w' := by
  refine (Parse_any s w m hm).mono ?_
  intro e w' h
  unfold RetQ at h
  rw [hp] at h
  exact h
theorem Parse_no (s : ByteArray) (w : World) (m : Int) (hm : w.cell? ⟨0, 0, none⟩ = some (.int .i64 m)) (hp : parseQ s.data.toList = none) :
    Calls Tryz.prog 83 #[.string s] w fun e w' => ∃ A c, e = .returned (.tuple #[.slice A 0 c, .int .i64 160]) ∧ Below w.heap.size w w' := by
  refine (Parse_any s w m hm).mono ?_
  intro e w' h
  unfold RetQ at h
  rw [hp] at h
  obtain ⟨A, n, c, h1, h2, _, _, h3⟩ := h
  have h0 : n = 0 := by simpa using h2.len.symm
  subst h0
  exact ⟨A, c, h1, h3⟩
theorem RParse_yes (s : ByteArray) (w : World) {o : List Int} (hp : parseR s.data.toList = some o) :
    Calls Tryz.prog 88 #[.string s] w fun e w' => ∃ A n c, e = .returned (.tuple #[.slice A n c, .bool true]) ∧ Ints w' 0 A n o ∧ n ≤ c ∧ n ≤ 7 ∧ Below w.heap.size w w' := by
  refine (refParse_any s w).mono ?_
  intro e w' h
  unfold RetQR at h
  rw [hp] at h
  obtain ⟨A, n, c, h1, h2, h3, h4, h5⟩ := h
  exact ⟨A, n, c, h1, h2 rfl, h3, h4, h5⟩
theorem RParse_no (s : ByteArray) (w : World) (hp : parseR s.data.toList = none) :
    Calls Tryz.prog 88 #[.string s] w fun e w' => ∃ A n c, e = .returned (.tuple #[.slice A n c, .bool false]) ∧ Below w.heap.size w w' := by
  refine (refParse_any s w).mono ?_
  intro e w' h
  unfold RetQR at h
  rw [hp] at h
  obtain ⟨A, n, c, h1, h2, h3, h4, h5⟩ := h
  exact ⟨A, n, c, h1, h5⟩
end Go.Proofs.YtncdjmpdbinanaaGreatDoor
