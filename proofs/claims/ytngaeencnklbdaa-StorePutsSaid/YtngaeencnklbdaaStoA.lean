/-
  WHAT IS PROVED HERE: what putting a body makes of a store. Condition: at most 2^41 items.
-/
import Derived.Test.YtngaeencnklbdaaSto9
namespace Go.Proofs.Ytngaeencnklbdaa
open Go.RowKit

/-- an item, laid ahead of the first whose key is greater -/
def insF (x : Itm) : List Itm → List Itm
  | [] => [x]
  | i :: is => if sL x.k i.k then x :: i :: is else i :: insF x is
/-- what putting a body makes of a store, its key, and the error -/
def putE (is : List Itm) (body : ByteArray) : List Itm × ByteArray × Int :=
  if rightI is = false ∨ body.size = 0 then ([], ⟨#[]⟩, 1) else if 512 < body.size then ([], ⟨#[]⟩, 2) else
    if atI is (dB (leafT body)) < 0 then (if is.length = 4096 then ([], ⟨#[]⟩, 130) else (insF ⟨dB (leafT body), body, 1⟩ is, dB (leafT body), 0))
    else match is[(atI is (dB (leafT body))).toNat]? with
      | none => ([], ⟨#[]⟩, 130)
      | some i => if rotB i then ([], ⟨#[]⟩, 61) else if i.r = 1073741824 then ([], ⟨#[]⟩, 130) else (withI is (dB (leafT body)) (i.r + 1), dB (leafT body), 0)
def RetP (w : World) (R : List Itm × ByteArray × Int) (e : Ending) (w' : World) : Prop := ∃ v, e = .returned (.tuple #[.agg #[v], .string R.2.1, .int .i64 R.2.2]) ∧ OwnI w' w.heap.size v R.1.length R.1 ∧ Below w.heap.size w w'
theorem insF_cut (x : Itm) : ∀ (is : List Itm) (p : Nat), Cut is x.k p → ((is[p]?).map (·.k) ≠ some x.k) → insF x is = is.take p ++ x :: is.drop p
  | [], p, h, _ => by
    have := cut_nil h
    subst this; rfl
  | i :: is, 0, h, hne => by
    have h1 := h.2.2 0 i (Nat.le_refl _) rfl
    have h2 : sL x.k i.k = true := by
      rcases sL_tri h1 with h3 | h3
      · exact h3
      · exact absurd (by simp [h3]) hne
    rw [insF, if_pos h2]; rfl
  | i :: is, p + 1, h, hne => by
    have h1 := h.2.1 0 i (by omega) rfl
    have h2 := sL_asym h1
    have hc : Cut is x.k p := ⟨by have := h.1; simp at this; omega, fun j y hj hy => h.2.1 (j + 1) y (by omega) (by simpa using hy), fun j y hj hy => h.2.2 (j + 1) y (by omega) (by simpa using hy)⟩
    rw [insF, if_neg (by rw [h2]; simp), insF_cut x is p hc (by simpa using hne)]
    rfl
theorem insF_len (x : Itm) : ∀ is : List Itm, (insF x is).length = is.length + 1
  | [] => rfl
  | i :: is => by
    rw [insF]
    split
    · rfl
    · rw [List.length_cons, insF_len x is]; rfl
theorem withI_len (is : List Itm) (k : ByteArray) (r : Int) : (withI is k r).length = is.length := by unfold withI; rw [List.length_map]
set_option maxRecDepth 100000 in
set_option maxHeartbeats 3200000 in
theorem Put_any (is : List Itm) (A : Option Addr) (n cap : Nat) (bd : ByteArray) (w : World) {B : Nat} (hm : n ≤ 3518437208800) (h0 : Itms w B A n is) :
    Calls Try.prog 8 #[.agg #[.slice A n cap], .string bd] w (RetP w (putE is bd)) := by
  have hlen := hid_mk h0.len
  have hb0 : Hid (Below w.heap.size w ((w.alloc (.cells #[.slice A n cap] 24)).alloc (.cells #[.slice none 0 0] 24))) := ((Below.refl _ w).alloc (Nat.le_refl _) _).alloc (by rw [World.size_alloc]; omega) _
  have hX0 : Hid (Blk ((w.alloc (.cells #[.slice A n cap] 24)).alloc (.cells #[.slice none 0 0] 24)) w.heap.size 24 #[.slice A n cap]) := (Blk.new w 24 #[.slice A n cap]).alloc _
  have hR0 : Hid (Blk ((w.alloc (.cells #[.slice A n cap] 24)).alloc (.cells #[.slice none 0 0] 24)) (w.heap.size + 1) 24 #[.slice none 0 0]) := by
    have h1 := Blk.new (w.alloc (.cells #[.slice A n cap] 24)) 24 #[.slice none 0 0]
    rw [World.size_alloc] at h1
    exact h1
  have h1 : Itms ((w.alloc (.cells #[.slice A n cap] 24)).alloc (.cells #[.slice none 0 0] 24)) w.heap.size A n is := h0.top.to hb0.out
  clear h0
  obtain ⟨E, hE⟩ : ∃ E, putE is bd = E := ⟨_, rfl⟩
  rw [hE]
  cases hr : rightI is
  · have hE4 : E = ([], ⟨#[]⟩, 1) := by rw [← hE]; unfold putE; rw [if_pos (.inl hr)]
    subst hE4
    replace hE := hid_mk hE
    replace hr := hid_mk hr
    refine calls_of_wpQ Try.func8 rfl ?_
    intro Q hQ
    simp only [Try.ntmps8, List.size_toArray, List.length_cons, List.length_nil, Nat.reduceAdd, Nat.reduceSub, Array.replicate_succ, Array.replicate_zero, List.push_toArray, List.append_toArray, List.nil_append, List.cons_append]
    go_wp2_with fail
    refine (Right_any is A n cap _ (by omega) h1).mono ?_
    rw [hr.out]
    rintro e w1 ⟨rfl, hb1⟩
    have q1 := hid_mk (after (w := w) hb1 hb0.out).1
    have hR1 := hid_mk (hR0.out.keep hb1)
    have r0 : w1.cell? ⟨w.heap.size + 1, 0, none⟩ = some (.slice none 0 0) := hR1.out.cell 0
    have r1 := hR1.out.frozen 0
    have rl := hR1.out.lt
    clear hb1 h1 hX0 hb0 hR0
    go_wp2
    refine ends_ret hQ (v := .tuple #[.agg #[.slice none 0 0], .string ⟨#[]⟩, .int .i64 1]) (by simp [results, Try.results8, go_sem, r0]) rfl ?_
    exact ⟨.slice none 0 0, rfl, own_nil _ _, q1.out.setCell (p := ⟨w.heap.size + 1, 0, none⟩) (by simp) _⟩
  have s2 := str_nil bd
  have s2' := s2
  rw [toList_nil] at s2'
  by_cases hz : bd.size = 0
  · have hE4 : E = ([], ⟨#[]⟩, 1) := by rw [← hE]; unfold putE; rw [if_pos (.inr hz)]
    subst hE4
    rw [decide_eq_true hz] at s2 s2'
    replace hE := hid_mk hE
    replace hr := hid_mk hr
    refine calls_of_wpQ Try.func8 rfl ?_
    intro Q hQ
    simp only [Try.ntmps8, List.size_toArray, List.length_cons, List.length_nil, Nat.reduceAdd, Nat.reduceSub, Array.replicate_succ, Array.replicate_zero, List.push_toArray, List.append_toArray, List.nil_append, List.cons_append]
    go_wp2_with fail
    refine (Right_any is A n cap _ (by omega) h1).mono ?_
    rw [hr.out]
    rintro e w1 ⟨rfl, hb1⟩
    have q1 := hid_mk (after (w := w) hb1 hb0.out).1
    have hR1 := hid_mk (hR0.out.keep hb1)
    have r0 : w1.cell? ⟨w.heap.size + 1, 0, none⟩ = some (.slice none 0 0) := hR1.out.cell 0
    have r1 := hR1.out.frozen 0
    have rl := hR1.out.lt
    clear hb1 h1 hX0 hb0 hR0
    go_wp2
    refine ends_ret hQ (v := .tuple #[.agg #[.slice none 0 0], .string ⟨#[]⟩, .int .i64 1]) (by simp [results, Try.results8, go_sem, r0]) rfl ?_
    exact ⟨.slice none 0 0, rfl, own_nil _ _, q1.out.setCell (p := ⟨w.heap.size + 1, 0, none⟩) (by simp) _⟩
  rw [decide_eq_false hz] at s2 s2'
  by_cases hbig : 512 < bd.size
  · have hE4 : E = ([], ⟨#[]⟩, 2) := by rw [← hE]; unfold putE; rw [if_neg (by rintro (h | h); (rw [hr] at h; cases h); exact hz h), if_pos hbig]
    subst hE4
    replace hE := hid_mk hE
    replace hr := hid_mk hr
    refine calls_of_wpQ Try.func8 rfl ?_
    intro Q hQ
    simp only [Try.ntmps8, List.size_toArray, List.length_cons, List.length_nil, Nat.reduceAdd, Nat.reduceSub, Array.replicate_succ, Array.replicate_zero, List.push_toArray, List.append_toArray, List.nil_append, List.cons_append]
    go_wp2_with fail
    refine (Right_any is A n cap _ (by omega) h1).mono ?_
    rw [hr.out]
    rintro e w1 ⟨rfl, hb1⟩
    have q1 := hid_mk (after (w := w) hb1 hb0.out).1
    have hR1 := hid_mk (hR0.out.keep hb1)
    have r0 : w1.cell? ⟨w.heap.size + 1, 0, none⟩ = some (.slice none 0 0) := hR1.out.cell 0
    have r1 := hR1.out.frozen 0
    have rl := hR1.out.lt
    clear hb1 h1 hX0 hb0 hR0
    go_wp2
    refine ends_ret hQ (v := .tuple #[.agg #[.slice none 0 0], .string ⟨#[]⟩, .int .i64 2]) (by simp [results, Try.results8, go_sem, r0]) rfl ?_
    exact ⟨.slice none 0 0, rfl, own_nil _ _, q1.out.setCell (p := ⟨w.heap.size + 1, 0, none⟩) (by simp) _⟩
  obtain ⟨hl4, hok, hasc⟩ := rightI_all hr
  have hn4 : n ≤ 4096 := by rw [← hlen.out]; exact hl4
  have hokI : Hid (∀ i ∈ is, 0 ≤ i.r ∧ i.r ≤ 1073741824 ∧ i.b.size ≤ 137438953472) := fun i hi => by have := itmOk_size (hok i hi); omega
  obtain ⟨D, hD⟩ : ∃ D, dB (leafT bd) = D := ⟨_, rfl⟩
  have hE2 : Hid (E = ((if atI is D < 0 then (if is.length = 4096 then ([], ⟨#[]⟩, 130) else (insF ⟨D, bd, 1⟩ is, D, 0))
    else match is[(atI is D).toNat]? with
      | none => ([], ⟨#[]⟩, 130)
      | some i => if rotB i then ([], ⟨#[]⟩, 61) else if i.r = 1073741824 then ([], ⟨#[]⟩, 130) else (withI is D (i.r + 1), D, 0)) : List Itm × ByteArray × Int)) := by
    rw [Hid, ← hE, ← hD]; unfold putE; rw [if_neg (by rintro (h | h); (rw [hr] at h; cases h); exact hz h), if_neg hbig]
  replace hE := hid_mk hE
  replace hr := hid_mk hr
  replace hasc := hid_mk hasc
  replace hD := hid_mk hD
  clear hl4 hok
  refine calls_of_wpQ Try.func8 rfl ?_
  intro Q hQ
  simp only [Try.ntmps8, List.size_toArray, List.length_cons, List.length_nil, Nat.reduceAdd, Nat.reduceSub, Array.replicate_succ, Array.replicate_zero, List.push_toArray, List.append_toArray, List.nil_append, List.cons_append]
  go_wp2_with fail
  refine (Right_any is A n cap _ (by omega) h1).mono ?_
  rw [hr.out]
  rintro e w1 ⟨rfl, hb1⟩
  have q1 := hid_mk (after (w := w) hb1 hb0.out).1
  have hR1 := hid_mk (hR0.out.keep hb1)
  have hX1 := hid_mk (hX0.out.keep hb1)
  have h2 : Itms w1 w1.heap.size A n is := (h1.to hb1).top
  clear hb1 h1 hX0 hb0 hR0
  go_wp2_with fail
  refine (Leaf_any bd _ (by omega)).mono ?_
  rw [hD.out]
  rintro e w2 ⟨rfl, hb2⟩
  have q2 := hid_mk (after (w := w) hb2 q1.out).1
  have hR2 := hid_mk (hR1.out.keep hb2)
  have hX2 := hid_mk (hX1.out.keep hb2)
  have x0 : w2.cell? ⟨w.heap.size, 0, none⟩ = some (.slice A n cap) := hX2.out.cell 0
  have xl := hX2.out.lt
  have h3 : Itms w2 w2.heap.size A n is := (h2.to hb2).top
  clear hb2 h2 hR1 hX1 q1
  go_wp2_with fail
  refine (find_any is A n cap D _ (by omega) h3 hasc.out).mono ?_
  rintro e w3 ⟨p, hcut, rfl, hb3⟩
  have q3 := hid_mk (after (w := w) hb3 q2.out).1
  have hR3 := hid_mk (hR2.out.keep hb3)
  have hX3 := hid_mk (hX2.out.keep hb3)
  have x3 : w3.cell? ⟨w.heap.size, 0, none⟩ = some (.slice A n cap) := hX3.out.cell 0
  have xl3 := hX3.out.lt
  have r0 : w3.cell? ⟨w.heap.size + 1, 0, none⟩ = some (.slice none 0 0) := hR3.out.cell 0
  have r1 := hR3.out.frozen 0
  have rl := hR3.out.lt
  have h4 : Itms w3 w3.heap.size A n is := (h3.to hb3).top
  have hat := cut_at hcut hasc.out
  clear hb3 x0 xl h3 hR2 hX2 q2
  have hw3 := q3.out.size
  by_cases hf : (is[p]?).map (·.k) = some D
  · rw [if_pos hf] at hat
    have hpn : p < n := by
      rw [← hlen.out]
      rcases Nat.lt_or_ge p is.length with h | h
      · exact h
      · rw [List.getElem?_eq_none h] at hf; cases hf
    obtain ⟨b, o, i, rfl, hbl, hik, c0, c1, c2⟩ := h4.at_ hpn
    rw [hat, if_neg (by omega), Int.toNat_natCast, hik] at hE2
    have hri := hokI.out i (List.mem_of_getElem? hik)
    have hki : i.k = D := by rw [hik] at hf; simpa using hf
    have hws := withI_set hasc.out hik hki (i.r + 1)
    have hst := itmsL_set2 is p i hik (i.r + 1)
    have hrot := rotten_any i (w3.alloc (.cells #[.string i.k, .string i.b, .int .i64 i.r] 35)) hri.2.2
    have hitm2 := (itmsL_at is p i hik).2.2
    obtain ⟨K, Bd, rf⟩ := i
    unfold itmV at hrot
    dsimp only at c0 c1 c2 hE2 hri hws hst hrot hitm2
    obtain ⟨rb, hrb⟩ : ∃ b, rotB ⟨K, Bd, rf⟩ = b := ⟨_, rfl⟩
    rw [hrb] at hrot hE2
    have hd : Hid (decide ((is[p]?).map (·.k) = some D) = true) := decide_eq_true hf
    rw [hd.out]
    have p0 : (0 : Int) ≤ p := by omega
    have p1 : (p : Int) < n := by omega
    have q3a : Hid (Below w.heap.size w (w3.alloc (.cells #[.string K, .string Bd, .int .i64 rf] 35))) := q3.out.alloc hw3 _
    have hR3a : Hid (Blk (w3.alloc (.cells #[.string K, .string Bd, .int .i64 rf] 35)) (w.heap.size + 1) 24 #[.slice none 0 0]) := hR3.out.alloc _
    have hX3a : Hid (Blk (w3.alloc (.cells #[.string K, .string Bd, .int .i64 rf] 35)) w.heap.size 24 #[.slice (some ⟨b, o, none⟩) n cap]) := hX3.out.alloc _
    have hN3a : Hid (Blk (w3.alloc (.cells #[.string K, .string Bd, .int .i64 rf] 35)) w3.heap.size 35 #[.string K, .string Bd, .int .i64 rf]) := Blk.new w3 35 #[.string K, .string Bd, .int .i64 rf]
    have h5 : Itms (w3.alloc (.cells #[.string K, .string Bd, .int .i64 rf] 35)) w3.heap.size (some ⟨b, o, none⟩) n is := h4.to (by go_grown)
    replace hik := hid_mk hik
    replace hat := hid_mk hat
    replace hf := hid_mk hf
    replace hki := hid_mk hki
    replace hws := hid_mk hws
    replace hst := hid_mk hst
    replace hitm2 := hid_mk hitm2
    replace hrb := hid_mk hrb
    replace hcut := hid_mk hcut
    replace h4 := hid_mk h4
    replace h5 := hid_mk h5
    cases rb
    · by_cases hmax : rf = 1073741824
      · have hE4 : E = ([], ⟨#[]⟩, 130) := by have h := hE2.out; rw [if_neg (by simp), if_pos hmax] at h; exact h
        subst hE4
        clear hE2
        have hge : decide ((1073741824 : Int) ≤ rf) = true := decide_eq_true (by omega)
        replace hmax := hid_mk hmax
        go_wp2_with fail
        refine hrot.mono ?_
        rintro e w4 ⟨rfl, hb4⟩
        have q4 := hid_mk (after (w := w) hb4 q3a.out).1
        have hR4 := hid_mk (hR3a.out.keep hb4)
        have hN4 := hid_mk (hN3a.out.keep hb4)
        have n2 : w4.cell? ⟨w3.heap.size, 2, none⟩ = some (.int .i64 rf) := hN4.out.cell 2
        have nl := hN4.out.lt
        have r4 : w4.cell? ⟨w.heap.size + 1, 0, none⟩ = some (.slice none 0 0) := hR4.out.cell 0
        have r5 := hR4.out.frozen 0
        have rl4 := hR4.out.lt
        clear hb4 x3 xl3 r0 r1 rl
        go_wp2
        refine ends_ret hQ (v := .tuple #[.agg #[.slice none 0 0], .string ⟨#[]⟩, .int .i64 130]) (by simp [results, Try.results8, go_sem, r4]) rfl ?_
        exact ⟨.slice none 0 0, rfl, own_nil _ _, q4.out.setCell (p := ⟨w.heap.size + 1, 0, none⟩) (by simp) _⟩
      · have hE4 : E = (is.set p ⟨K, Bd, rf + 1⟩, D, 0) := by have h := hE2.out; rw [if_neg (by simp), if_neg hmax, hws.out] at h; exact h
        subst hE4
        clear hE2
        go_wp2_with fail
        refine hrot.mono ?_
        rintro e w4 ⟨rfl, hb4⟩
        have q4 := hid_mk (after (w := w) hb4 q3a.out).1
        have hR4 := hid_mk (hR3a.out.keep hb4)
        have hX4 := hid_mk (hX3a.out.keep hb4)
        have hN4 := hid_mk (hN3a.out.keep hb4)
        have n2 : w4.cell? ⟨w3.heap.size, 2, none⟩ = some (.int .i64 rf) := hN4.out.cell 2
        have nl := hN4.out.lt
        have x4 : w4.cell? ⟨w.heap.size, 0, none⟩ = some (.slice (some ⟨b, o, none⟩) n cap) := hX4.out.cell 0
        have xl4 := hX4.out.lt
        have h6 : Hid (Itms w4 w4.heap.size (some ⟨b, o, none⟩) n is) := Itms.top (h5.out.to hb4)
        have hge : decide ((1073741824 : Int) ≤ rf) = false := decide_eq_false (by omega)
        have hrw : IntKind.i64.wrap (rf + 1) = rf + 1 := IntWalk.i64_in _ (by omega)
        have hw4 := q4.out.size
        clear hb4 x3 xl3 r0 r1 rl
        go_wp2_with fail
        refine (Clone_any is (some ⟨b, o, none⟩) n cap _ hm h6.out).mono ?_
        rintro e w5 ⟨v5, rfl, own5, hb5⟩
        obtain ⟨g, c5, rfl, hc5, _, hgB, hgl⟩ := own5.some_ (by omega)
        have q5 := hid_mk (after (w := w) hb5 q4.out).1
        have hR5 := hid_mk (hR4.out.keep hb5)
        have hgne := own_ne own5 hR5.out
        have hgne' : w.heap.size + 1 ≠ g := by simpa [Value.ownBlock] using hgne
        have d2 : w5.cell? ⟨g, p * 3 + 2, none⟩ = some (.int .i64 rf) := (World.ownsRow.cellAt own5 (p * 3 + 2) (by omega)).trans hitm2.out
        have f2 : w5.frozen? ⟨g, p * 3 + 2, none⟩ = false := World.ownsRow.frozenAt own5 (p * 3 + 2)
        have hsto := (World.ownsRow.stored own5 (p * 3 + 2) (.int .i64 (rf + 1))).1
        rw [hst.out] at hsto
        have hR6 : Hid (Blk (w5.setCell ⟨g, p * 3 + 2, none⟩ (.int .i64 (rf + 1))) (w.heap.size + 1) 24 #[.slice none 0 0]) := hR5.out.far (by simpa using hgne') _
        have s0 : (w5.setCell ⟨g, p * 3 + 2, none⟩ (.int .i64 (rf + 1))).cell? ⟨w.heap.size + 1, 0, none⟩ = some (.slice none 0 0) := hR6.out.cell 0
        have s1 := hR6.out.frozen 0
        have sl := hR6.out.lt
        have own7 : OwnI ((w5.setCell ⟨g, p * 3 + 2, none⟩ (.int .i64 (rf + 1))).setCell ⟨w.heap.size + 1, 0, none⟩ (.slice (some ⟨g, 0, none⟩) n c5)) w4.heap.size (.slice (some ⟨g, 0, none⟩) n c5) n (is.set p ⟨K, Bd, rf + 1⟩) := own_far hsto hR6.out (by decide) 0 _
        have q7 : Below w.heap.size w ((w5.setCell ⟨g, p * 3 + 2, none⟩ (.int .i64 (rf + 1))).setCell ⟨w.heap.size + 1, 0, none⟩ (.slice (some ⟨g, 0, none⟩) n c5)) := (q5.out.setCell (p := ⟨g, p * 3 + 2, none⟩) (by simp; omega) _).setCell (p := ⟨w.heap.size + 1, 0, none⟩) (by simp) _
        replace own7 := hid_mk own7
        replace q7 := hid_mk q7
        clear hb5 own5 hsto hgne x4 xl4 n2 nl
        go_wp2
        refine ends_ret hQ (v := .tuple #[.agg #[.slice (some ⟨g, 0, none⟩) n c5], .string D, .int .i64 0]) (by simp [results, Try.results8, go_sem, s0]) rfl ?_
        refine ⟨.slice (some ⟨g, 0, none⟩) n c5, rfl, ?_, q7.out⟩
        have hl : (is.set p ⟨K, Bd, rf + 1⟩).length = n := by rw [List.length_set]; exact hlen.out
        dsimp only
        rw [hl]
        exact OwnI.low own7.out hw4
    · have hE4 : E = ([], ⟨#[]⟩, 61) := by have h := hE2.out; rw [if_pos rfl] at h; exact h
      subst hE4
      clear hE2
      go_wp2_with fail
      refine hrot.mono ?_
      rintro e w4 ⟨rfl, hb4⟩
      have q4 := hid_mk (after (w := w) hb4 q3a.out).1
      have hR4 := hid_mk (hR3a.out.keep hb4)
      have r4 : w4.cell? ⟨w.heap.size + 1, 0, none⟩ = some (.slice none 0 0) := hR4.out.cell 0
      have r5 := hR4.out.frozen 0
      have rl4 := hR4.out.lt
      clear hb4 x3 xl3 r0 r1 rl
      go_wp2
      refine ends_ret hQ (v := .tuple #[.agg #[.slice none 0 0], .string ⟨#[]⟩, .int .i64 61]) (by simp [results, Try.results8, go_sem, r4]) rfl ?_
      exact ⟨.slice none 0 0, rfl, own_nil _ _, q4.out.setCell (p := ⟨w.heap.size + 1, 0, none⟩) (by simp) _⟩
  · rw [if_neg hf] at hat
    rw [hat, if_pos (by omega)] at hE2
    have hins := insF_cut ⟨D, bd, 1⟩ is p hcut hf
    have hpn : p ≤ n := by rw [← hlen.out]; exact hcut.1
    have hd : Hid (decide ((is[p]?).map (·.k) = some D) = false) := decide_eq_false hf
    rw [hd.out]
    rw [hlen.out] at hE2
    replace hat := hid_mk hat
    replace hf := hid_mk hf
    replace hcut := hid_mk hcut
    replace hins := hid_mk hins
    by_cases hfull : n = 4096
    · have hE4 : E = ([], ⟨#[]⟩, 130) := by have h := hE2.out; rw [if_pos hfull] at h; exact h
      subst hE4
      clear hE2
      go_wp2
      refine ends_ret hQ (v := .tuple #[.agg #[.slice none 0 0], .string ⟨#[]⟩, .int .i64 130]) (by simp [results, Try.results8, go_sem, r0]) rfl ?_
      exact ⟨.slice none 0 0, rfl, own_nil _ _, q3.out.setCell (p := ⟨w.heap.size + 1, 0, none⟩) (by simp) _⟩
    · have hE4 : E = (insF ⟨D, bd, 1⟩ is, D, 0) := by have h := hE2.out; rw [if_neg hfull] at h; exact h
      subst hE4
      clear hE2
      have hnlt : n < 4096 := by omega
      go_wp2_with fail
      refine (Clone_any is A n cap _ hm h4).mono ?_
      rintro e w4 ⟨v4, rfl, own4, hb4⟩
      have q4 := hid_mk (after (w := w) hb4 q3.out).1
      have hR4 := hid_mk (hR3.out.keep hb4)
      obtain ⟨A4, c4, rfl, _, _⟩ := own_slice own4
      have hw4 := hb4.size
      have ownN : OwnI (w4.alloc (.cells #[.string D, .string bd, .int .i64 1] 35)) w3.heap.size (.slice A4 n c4) n is := World.ownsRow.alloc own4 _
      have hN : Blk (w4.alloc (.cells #[.string D, .string bd, .int .i64 1] 35)) w4.heap.size 35 #[.string D, .string bd, .int .i64 1] := Blk.new w4 35 #[.string D, .string bd, .int .i64 1]
      have hne4 : (Value.slice A4 n c4).ownBlock ≠ some w4.heap.size := fun e => by have h5 := (World.ownsRow.lt own4 _ e).2; omega
      have hR4a := hid_mk (hR4.out.alloc (.cells #[.string D, .string bd, .int .i64 1] 35))
      have q4a := hid_mk (q4.out.alloc (Nat.le_trans hw3 hw4) (.cells #[.string D, .string bd, .int .i64 1] 35))
      have hneR := own_ne ownN hR4a.out
      have hlow := hid_mk (fun k hk => (World.ownsRow.lt ownN k hk).1)
      replace hne4 := hid_mk hne4
      clear hb4 x3 xl3 r0 r1 rl
      go_wp2_with fail
      refine (Insert_any is ⟨D, bd, 1⟩ (.slice A4 n c4) n p w4.heap.size _ _ (by simp; omega) hn4 hpn ownN hN hne4.out).mono ?_
      rw [← hins.out]
      rintro e w5 ⟨v5, rfl, own5, g5⟩
      obtain ⟨A5, c5, rfl, _, _⟩ := own_slice own5
      have hR5 := hid_mk (Blk.grown hR4a.out g5 hneR)
      have q5 := hid_mk (q4a.out.grown g5 q4a.out.size (fun k hk => Nat.le_trans hw3 (hlow.out k hk)))
      have r0 : w5.cell? ⟨w.heap.size + 1, 0, none⟩ = some (.slice none 0 0) := hR5.out.cell 0
      have r1 := hR5.out.frozen 0
      have rl := hR5.out.lt
      have own6 := hid_mk (own_far own5 hR5.out (by decide) 0 (.slice A5 (n + 1) c5))
      clear own5 g5 own4 ownN hN hneR
      go_wp2
      refine ends_ret hQ (v := .tuple #[.agg #[.slice A5 (n + 1) c5], .string D, .int .i64 0]) (by simp [results, Try.results8, go_sem, r0]) rfl ?_
      refine ⟨.slice A5 (n + 1) c5, rfl, ?_, q5.out.setCell (p := ⟨w.heap.size + 1, 0, none⟩) (by simp) _⟩
      dsimp only
      rw [insF_len, hlen.out]
      exact OwnI.low own6.out hw3
end Go.Proofs.Ytngaeencnklbdaa
