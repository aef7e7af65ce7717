/-
  WHAT IS PROVED HERE: a first body makes one item; what is got of a store. No condition.
-/
import Derived.Test.YtngaeencnklbdaaSto3
import Derived.Lib.LazyBuf
namespace Go.Proofs.Ytngaeencnklbdaa
open Go.RowKit

theorem itemJ3 : (Try.prog.info? 35).map (fun i => (i.zero, i.size, i.bytes)) = some (some (.agg #[.string ByteArray.empty, .string ByteArray.empty, .int .i64 0]), 3, 40) := by kernel_rfl
theorem info_parts40 {P : Program} {t : TypeId} {z : Value} (h : (P.info? t).map (fun i => (i.zero, i.size, i.bytes)) = some (some z, 3, 40)) : ∃ i, P.info? t = some i ∧ i.zero = some z ∧ i.size = 3 ∧ i.bytes = 40 := by
  obtain ⟨i, hi, he⟩ := Option.map_eq_some_iff.1 h
  injection he with e1 e2
  injection e2 with e2 e3
  exact ⟨i, hi, e1, e2, e3⟩
theorem itm_one (is : List Itm) : ∀ u ∈ itmsL is, u.oneCell' = true := by
  intro u hu
  obtain ⟨i, _, hi⟩ := List.mem_flatMap.1 hu
  simp [itmCells] at hi
  rcases hi with rfl | rfl | rfl <;> rfl
theorem Clone_nil (w : World) : Calls Try.prog 27 #[.slice none 0 0] w fun e w' => e = .returned (.slice none 0 0) ∧ w = w' := by
  have heq : (binOp .eql 22 (.slice none 0 0) (.slice none 0 0)).run Try.prog w = .ok (.bool true) w := Go.run_eql_slice_nil w 22 35 none 0 0 Try.underlying22
  refine calls_of_wpQ Try.func27 rfl ?_
  intro Q hQ
  simp only [Try.ntmps27, List.size_toArray, List.length_cons, List.length_nil, Nat.reduceAdd, Nat.reduceSub, Array.replicate_succ, Array.replicate_zero, List.push_toArray, List.append_toArray, List.nil_append, List.cons_append]
  go_wp2
  refine ends_ret hQ (results_tmp rfl _ _ _) rfl ?_
  exact ⟨rfl, rfl⟩
theorem Insert_nil (i : Itm) (A : Option Addr) (c : Nat) (w : World) {B : Nat} (h : Itms w B A 1 [i]) :
    Calls Try.prog 26 #[.slice none 0 0, .int .i64 0, .slice A 1 c] w fun e w' => ∃ A' c', e = .returned (.slice A' 1 c') ∧ 1 ≤ c' ∧ Itms w' w.heap.size A' 1 [i] ∧ Below w.heap.size w w' := by
  obtain ⟨j0, hj0, hjz, hj1, hj2⟩ := info_parts40 itemJ3
  have hsl := run_slice_from (P := Try.prog) (w := w) 22 35 Try.underlying22 j0 hj0 3 hj1 none 0 0 0 (by omega) (by omega)
  have hown : w.ownsRow w.heap.size 35 3 (.slice none 0 0) 0 [] := ⟨rfl, .inl ⟨rfl, rfl⟩⟩
  refine calls_of_wpQ Try.func26 rfl ?_
  intro Q hQ
  simp only [Try.ntmps26, List.size_toArray, List.length_cons, List.length_nil, Nat.reduceAdd, Nat.reduceSub, Array.replicate_succ, Array.replicate_zero, List.push_toArray, List.append_toArray, List.nil_append, List.cons_append]
  go_wp2_with (at_builtin; refine wpList_append_any _ rfl (.tmp 23) (.tmp 24) _ rfl w.heap.size 35 j0 _ 3 40 Try.underlying22 hj0 hjz hj1 hj2 rfl (by omega) _ 0 [] rfl hown B A 1 c (itmsL [i]) rfl h (itm_one [i]) (by simp only [maxLen]; omega) (by omega) (Nat.le_refl _) ?_; intro v1 w1 hown1 hg1 hat1; obtain ⟨A1, c1, rfl, hc1, hc2⟩ := own_slice hown1)
  refine ends_ret hQ (results_tmp rfl _ _ _) rfl ?_
  refine ⟨A1, c1, rfl, hc1, reads_of_own hown1, ?_⟩
  exact grown_below (Below.refl _ _) hg1 (show ∀ k, (Value.slice none 0 0).ownBlock = some k → w.heap.size ≤ k from fun k hk => by cases hk)
def D97 : ByteArray := dB (leafT ⟨#[97]⟩)
theorem cut_nil {key : ByteArray} {p : Nat} (h : Cut [] key p) : p = 0 := by have := h.1; simpa using this
theorem Put_nil (w : World) :
    Calls Try.prog 8 #[.agg #[.slice none 0 0], .string ⟨#[97]⟩] w fun e w' => ∃ A c, e = .returned (.tuple #[.agg #[.slice A 1 c], .string D97, .int .i64 0]) ∧ Below w.heap.size w w' := by
  have hr : Hid (rightI [] = true) := show rightI [] = true from by decide
  have hasc : Asc [] := by intro j k a b _ h; simp at h
  have hI : ∀ W : World, Itms W W.heap.size none 0 [] := fun W => Reads.none_
  obtain ⟨D, hD⟩ : ∃ D, D97 = D := ⟨_, rfl⟩
  have hD' : Hid (dB (leafT ⟨#[97]⟩) = D) := hD
  rw [hD]
  replace hD := hid_mk hD
  replace hasc := hid_mk hasc
  obtain ⟨bd, hbd⟩ : ∃ b : ByteArray, (⟨#[97]⟩ : ByteArray) = b := ⟨_, rfl⟩
  have hbs : bd.size = 1 := by rw [← hbd]; rfl
  have s2 := str_nil bd
  have s2' := s2
  rw [toList_nil] at s2'
  rw [decide_eq_false (by omega)] at s2 s2'
  rw [hbd] at hD' ⊢
  have hb0 : Hid (Below w.heap.size w ((w.alloc (.cells #[.slice none 0 0] 24)).alloc (.cells #[.slice none 0 0] 24))) := ((Below.refl _ w).alloc (Nat.le_refl _) _).alloc (by rw [World.size_alloc]; omega) _
  have hBx : Hid (Blk ((w.alloc (.cells #[.slice none 0 0] 24)).alloc (.cells #[.slice none 0 0] 24)) w.heap.size 24 #[.slice none 0 0]) := (Blk.new w 24 #[.slice none 0 0]).alloc _
  have hBy : Hid (Blk ((w.alloc (.cells #[.slice none 0 0] 24)).alloc (.cells #[.slice none 0 0] 24)) (w.heap.size + 1) 24 #[.slice none 0 0]) := by
    have h := Blk.new (w.alloc (.cells #[.slice none 0 0] 24)) 24 #[.slice none 0 0]
    rw [World.size_alloc] at h
    exact h
  replace hbd := hid_mk hbd
  refine calls_of_wpQ Try.func8 rfl ?_
  intro Q hQ
  simp only [Try.ntmps8, List.size_toArray, List.length_cons, List.length_nil, Nat.reduceAdd, Nat.reduceSub, Array.replicate_succ, Array.replicate_zero, List.push_toArray, List.append_toArray, List.nil_append, List.cons_append]
  go_wp2_with fail
  refine (Right_any [] none 0 0 _ (by omega) (hI _)).mono ?_
  rw [hr.out]
  rintro e w1 ⟨rfl, hb1⟩
  have q1 := hid_mk (after (w := w) hb1 hb0.out).1
  have x1 := hid_mk (hBx.out.keep hb1)
  have y1 := hid_mk (hBy.out.keep hb1)
  clear hb1 hBx hBy hb0
  go_wp2_with fail
  refine (Leaf_any bd _ (by omega)).mono ?_
  rw [hD'.out]
  rintro e w2 ⟨rfl, hb2⟩
  have q2 := hid_mk (after (w := w) hb2 q1.out).1
  have x2 := hid_mk (x1.out.keep hb2)
  have y2 := hid_mk (y1.out.keep hb2)
  have cx2 : w2.cell? ⟨w.heap.size, 0, none⟩ = some (.slice none 0 0) := x2.out.cell 0
  have lx2 := x2.out.lt
  clear hb2 x1 y1 q1
  go_wp2_with fail
  refine (find_any [] none 0 0 D _ (by omega) (hI _) hasc.out).mono ?_
  rintro e w3 ⟨p, hcut, rfl, hb3⟩
  obtain rfl := cut_nil hcut
  have q3 := hid_mk (after (w := w) hb3 q2.out).1
  have x3 := hid_mk (x2.out.keep hb3)
  have y3 := hid_mk (y2.out.keep hb3)
  have cx3 : w3.cell? ⟨w.heap.size, 0, none⟩ = some (.slice none 0 0) := x3.out.cell 0
  have lx3 := x3.out.lt
  have ly3 := y3.out.lt
  have cy3 : w3.cell? ⟨w.heap.size + 1, 0, none⟩ = some (.slice none 0 0) := y3.out.cell 0
  have fy3 := y3.out.frozen 0
  clear hb3 x2 y2 q2 cx2 lx2 hcut
  go_wp2_with fail
  refine (Clone_nil _).mono ?_
  rintro e w4 ⟨rfl, rfl⟩
  have hnew : Itms (w3.alloc (.cells #[.string D, .string bd, .int .i64 1] 35)) w3.heap.size (some ⟨w3.heap.size, 0, none⟩) 1 [⟨D, bd, 1⟩] := reads_new w3 #[.string D, .string bd, .int .i64 1] 35 1 3 w3.heap.size rfl
  have q3a : Hid (Below w.heap.size w (w3.alloc (.cells #[.string D, .string bd, .int .i64 1] 35))) := q3.out.alloc q3.out.size _
  have y3a : Hid (Blk (w3.alloc (.cells #[.string D, .string bd, .int .i64 1] 35)) (w.heap.size + 1) 24 #[.slice none 0 0]) := y3.out.alloc _
  go_wp2_with fail
  refine (Insert_nil ⟨D, bd, 1⟩ _ _ _ hnew).mono ?_
  rintro e w5 ⟨A5, c5, rfl, hc5, hI5, hb5⟩
  have q5 := hid_mk (after (w := w) hb5 q3a.out).1
  have y5 := hid_mk (y3a.out.keep hb5)
  have cy5 : w5.cell? ⟨w.heap.size + 1, 0, none⟩ = some (.slice none 0 0) := y5.out.cell 0
  have fy5 := y5.out.frozen 0
  have ly5 := y5.out.lt
  clear hb5 cx3 lx3 ly3 cy3 fy3
  go_wp2
  refine ends_ret hQ (v := .tuple #[.agg #[.slice A5 1 c5], .string D, .int .i64 0]) (by simp [results, Try.results8, go_sem, cy5]) rfl ?_
  refine ⟨A5, c5, rfl, ?_⟩
  go_grown
  exact q5.out
theorem alive_any (w : World) : Calls Try.prog 10 #[] w fun e w' => e = .returned (.bool true) ∧ Below w.heap.size w w' := by
  have h32 : D97.size = 32 := dB_32 _
  obtain ⟨D, hD⟩ : ∃ D, D97 = D := ⟨_, rfl⟩
  rw [hD] at h32
  have h32' : (D.size : Int) = 32 := by omega
  replace hD := hid_mk hD
  refine calls_of_wpQ Try.func10 rfl ?_
  intro Q hQ
  simp only [Try.ntmps10, List.size_toArray, List.length_nil, Nat.reduceSub, Array.replicate_succ, Array.replicate_zero, List.push_toArray, List.append_toArray, List.nil_append, List.cons_append]
  go_wp2_with fail
  refine (Put_nil _).mono ?_
  rw [hD.out]
  rintro e w1 ⟨A1, c1, rfl, hb1⟩
  go_wp2
  refine ends_ret hQ (results_tmp rfl _ _ _) rfl ?_
  refine ⟨rfl, ?_⟩
  go_grown
  exact hb1.size
/-- what is got of a store: a body, or why not -/
def getE (is : List Itm) (key : ByteArray) : ByteArray × Int :=
  if rightI is then (if atI is key < 0 then (⟨#[]⟩, 60) else match is[(atI is key).toNat]? with
    | none => (⟨#[]⟩, 60)
    | some i => if rotB i then (⟨#[]⟩, 61) else (i.b, 0)) else (⟨#[]⟩, 1)
theorem Get_any (is : List Itm) (A : Option Addr) (n cap : Nat) (ky : ByteArray) (w : World) {B : Nat} (hm : n ≤ 8796093022208) (h0 : Itms w B A n is) :
    Calls Try.prog 17 #[.agg #[.slice A n cap], .string ky] w fun e w' => e = .returned (.tuple #[.string (getE is ky).1, .int .i64 (getE is ky).2]) ∧ Below w.heap.size w w' := by
  have hlen := hid_mk h0.len
  have hb0 : Hid (Below w.heap.size w (w.alloc (.cells #[.slice A n cap] 24))) := (Below.refl _ w).alloc (Nat.le_refl _) _
  have hB0 : Hid (Blk (w.alloc (.cells #[.slice A n cap] 24)) w.heap.size 24 #[.slice A n cap]) := Blk.new w 24 #[.slice A n cap]
  have h1 : Itms (w.alloc (.cells #[.slice A n cap] 24)) w.heap.size A n is := h0.top.to hb0.out
  clear h0
  cases hr : rightI is
  · have hE : Hid (getE is ky = (⟨#[]⟩, 1)) := by unfold Hid getE; rw [hr]; rfl
    rw [hE.out]
    replace hr := hid_mk hr
    refine calls_of_wpQ Try.func17 rfl ?_
    intro Q hQ
    simp only [Try.ntmps17, List.size_toArray, List.length_cons, List.length_nil, Nat.reduceAdd, Nat.reduceSub, Array.replicate_succ, Array.replicate_zero, List.push_toArray, List.append_toArray, List.nil_append, List.cons_append]
    go_wp2_with fail
    refine (Right_any is A n cap _ hm h1).mono ?_
    rw [hr.out]
    rintro e w1 ⟨rfl, hb1⟩
    have q1 := hid_mk (after (w := w) hb1 hb0.out).1
    clear hb1
    go_wp2
    refine ends_ret hQ (results_tmp2 rfl _ _ _) rfl ?_
    exact ⟨rfl, q1.out⟩
  · obtain ⟨hl4, hok, hasc⟩ := rightI_all hr
    have hbz : Hid (∀ i ∈ is, i.b.size ≤ 137438953472) := fun i hi => by have := itmOk_size (hok i hi); omega
    have hn4 : n ≤ 4096 := by rw [← hlen.out]; exact hl4
    obtain ⟨E, hE⟩ : ∃ E, getE is ky = E := ⟨_, rfl⟩
    have hE2 : Hid (E = ((if atI is ky < 0 then (⟨#[]⟩, 60) else match is[(atI is ky).toNat]? with
      | none => (⟨#[]⟩, 60)
      | some i => if rotB i then (⟨#[]⟩, 61) else (i.b, 0)) : ByteArray × Int)) := by rw [Hid, ← hE]; unfold getE; rw [hr]; rfl
    rw [hE]
    replace hE := hid_mk hE
    replace hr := hid_mk hr
    replace hasc := hid_mk hasc
    clear hl4 hok
    refine calls_of_wpQ Try.func17 rfl ?_
    intro Q hQ
    simp only [Try.ntmps17, List.size_toArray, List.length_cons, List.length_nil, Nat.reduceAdd, Nat.reduceSub, Array.replicate_succ, Array.replicate_zero, List.push_toArray, List.append_toArray, List.nil_append, List.cons_append]
    go_wp2_with fail
    refine (Right_any is A n cap _ hm h1).mono ?_
    rw [hr.out]
    rintro e w1 ⟨rfl, hb1⟩
    have q1 := hid_mk (after (w := w) hb1 hb0.out).1
    have hB1 := hid_mk (hB0.out.keep hb1)
    have cB : w1.cell? ⟨w.heap.size, 0, none⟩ = some (.slice A n cap) := hB1.out.cell 0
    have lB := hB1.out.lt
    have h2 : Itms w1 w1.heap.size A n is := (h1.to hb1).top
    clear hb1 h1 hb0 hB0
    go_wp2_with fail
    refine (find_any is A n cap ky _ hm h2 hasc.out).mono ?_
    rintro e w2 ⟨p, hcut, rfl, hb2⟩
    have q2 := hid_mk (after (w := w) hb2 q1.out).1
    have hB2 := hid_mk (hB1.out.keep hb2)
    have cB2 : w2.cell? ⟨w.heap.size, 0, none⟩ = some (.slice A n cap) := hB2.out.cell 0
    have lB2 := hB2.out.lt
    have h3 : Itms w2 w2.heap.size A n is := (h2.to hb2).top
    have hat := cut_at hcut hasc.out
    replace hcut := hid_mk hcut
    clear hb2 cB lB h2 hB1
    by_cases hf : (is[p]?).map (·.k) = some ky
    · rw [if_pos hf] at hat
      have hpn : p < n := by
        rw [← hlen.out]
        rcases Nat.lt_or_ge p is.length with h | h
        · exact h
        · rw [List.getElem?_eq_none h] at hf; cases hf
      obtain ⟨b, o, i, rfl, hbl, hik, c0, c1, c2⟩ := h3.at_ hpn
      rw [hat, if_neg (by omega), Int.toNat_natCast, hik] at hE2
      have hbs := hbz.out i (List.mem_of_getElem? hik)
      have hrot := rotten_any i w2 hbs
      obtain ⟨K, Bd, rf⟩ := i
      unfold itmV at hrot
      dsimp only at c0 c1 c2 hrot
      obtain ⟨rb, hrb⟩ : ∃ b, rotB ⟨K, Bd, rf⟩ = b := ⟨_, rfl⟩
      rw [hrb] at hrot
      have hE3 : Hid (E = ((if rb then (⟨#[]⟩, 61) else (Bd, 0)) : ByteArray × Int)) := by rw [Hid, hE2.out]; dsimp only; rw [hrb]
      have hd : Hid (decide ((is[p]?).map (·.k) = some ky) = true) := decide_eq_true hf
      rw [hd.out]
      have p0 : (0 : Int) ≤ p := by omega
      have p1 : (p : Int) < n := by omega
      replace hik := hid_mk hik
      replace hat := hid_mk hat
      replace hrb := hid_mk hrb
      replace hf := hid_mk hf
      clear hE2
      have hI2 := hid_mk h3
      cases rb
      · have hE4 : E = (Bd, 0) := by have h := hE3.out; simpa using h
        subst hE4
        go_wp2_with fail
        refine hrot.mono ?_
        rintro e w3 ⟨rfl, hb3⟩
        have q3 := hid_mk (after (w := w) hb3 q2.out).1
        have cB3 : w3.cell? ⟨w.heap.size, 0, none⟩ = some (.slice (some ⟨b, o, none⟩) n cap) := (hB2.out.keep hb3).cell 0
        have d1 : w3.cell? ⟨b, o + p * 3 + 1, none⟩ = some (.string Bd) := ((bcell hb3).1 _ _ hbl).trans c1
        have dl : b < w3.heap.size := Nat.lt_of_lt_of_le hbl hb3.size
        have lB3 : w.heap.size < w3.heap.size := Nat.lt_of_lt_of_le lB2 hb3.size
        clear hb3
        go_wp2
        refine ends_ret hQ (results_tmp2 rfl _ _ _) rfl ?_
        exact ⟨rfl, q3.out⟩
      · have hE4 : E = (⟨#[]⟩, 61) := by have h := hE3.out; simpa using h
        subst hE4
        go_wp2_with fail
        refine hrot.mono ?_
        rintro e w3 ⟨rfl, hb3⟩
        have q3 := hid_mk (after (w := w) hb3 q2.out).1
        clear hb3
        go_wp2
        refine ends_ret hQ (results_tmp2 rfl _ _ _) rfl ?_
        exact ⟨rfl, q3.out⟩
    · rw [if_neg hf] at hat
      have hE4 : E = (⟨#[]⟩, 60) := by rw [hE2.out, hat]; rfl
      subst hE4
      have hd : Hid (decide ((is[p]?).map (·.k) = some ky) = false) := decide_eq_false hf
      rw [hd.out]
      replace hat := hid_mk hat
      replace hf := hid_mk hf
      clear hE2
      go_wp2
      refine ends_ret hQ (results_tmp2 rfl _ _ _) rfl ?_
      exact ⟨rfl, q2.out⟩
end Go.Proofs.Ytngaeencnklbdaa
