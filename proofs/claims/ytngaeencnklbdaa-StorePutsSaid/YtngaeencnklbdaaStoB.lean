/-
  WHAT IS PROVED HERE: what the reference's Put hands back. Condition: at most 2^41 items.
-/
import Derived.Test.YtngaeencnklbdaaStoA
namespace Go.Proofs.Ytngaeencnklbdaa
open Go.RowKit

def restF (put : Bool) (x : Itm) (l : List Itm) : List Itm := if put then l else insF x l
theorem le_eq (a b : ByteArray) : (Op.bytesLess a.toList b.toList || a.toList == b.toList) = !sL b a := by
  rw [str_eq]
  cases hc : sL b a
  · rcases sL_tri hc with h1 | h1
    · unfold sL at h1; rw [h1]; rfl
    · rw [h1]; simp
  · have h1 := sL_asym hc
    have h2 := sL_ne hc
    unfold sL at h1
    rw [h1, decide_eq_false (fun e => h2 e.symm)]; rfl
set_option maxRecDepth 100000 in
set_option maxHeartbeats 6400000 in
theorem RPut_any (is : List Itm) (A : Option Addr) (n cap : Nat) (bd : ByteArray) (w : World) {B : Nat} (hm : n ≤ 3518437208800) (h0 : Itms w B A n is) :
    Calls Try.prog 9 #[.agg #[.slice A n cap], .string bd] w (RetP w (putE is bd)) := by
  obtain ⟨i0, hi0, hz0, hz1, hz2⟩ := info_parts40 itemJ3
  have hlen := hid_mk h0.len
  have hAb : Hid (∀ b o, A = some ⟨b, o, none⟩ → 0 < n → b < w.heap.size) := by
    intro b o e hn
    obtain ⟨b2, o2, ea, hlt, _⟩ := h0.top.2 hn
    rw [e] at ea; injection ea with ea; injection ea with ea; omega
  have hb0 : Hid (Below w.heap.size w (((w.alloc (.cells #[.slice A n cap] 24)).alloc (.cells #[.slice none 0 0] 24)).alloc (.cells #[.slice none 0 0] 24))) := (((Below.refl _ w).alloc (Nat.le_refl _) _).alloc (by rw [World.size_alloc]; omega) _).alloc (by rw [World.size_alloc, World.size_alloc]; omega) _
  have hX0 : Hid (Blk (((w.alloc (.cells #[.slice A n cap] 24)).alloc (.cells #[.slice none 0 0] 24)).alloc (.cells #[.slice none 0 0] 24)) w.heap.size 24 #[.slice A n cap]) := ((Blk.new w 24 #[.slice A n cap]).alloc _).alloc _
  have hR0 : Hid (Blk (((w.alloc (.cells #[.slice A n cap] 24)).alloc (.cells #[.slice none 0 0] 24)).alloc (.cells #[.slice none 0 0] 24)) (w.heap.size + 1) 24 #[.slice none 0 0]) := by
    have h1 := Blk.new (w.alloc (.cells #[.slice A n cap] 24)) 24 #[.slice none 0 0]
    rw [World.size_alloc] at h1
    exact h1.alloc _
  have hN0 : Hid (Blk (((w.alloc (.cells #[.slice A n cap] 24)).alloc (.cells #[.slice none 0 0] 24)).alloc (.cells #[.slice none 0 0] 24)) (w.heap.size + 1 + 1) 24 #[.slice none 0 0]) := by
    have h1 := Blk.new ((w.alloc (.cells #[.slice A n cap] 24)).alloc (.cells #[.slice none 0 0] 24)) 24 #[.slice none 0 0]
    rw [World.size_alloc, World.size_alloc] at h1
    exact h1
  have h1 : Itms (((w.alloc (.cells #[.slice A n cap] 24)).alloc (.cells #[.slice none 0 0] 24)).alloc (.cells #[.slice none 0 0] 24)) w.heap.size A n is := h0.top.to hb0.out
  have hx00 : (((w.alloc (.cells #[.slice A n cap] 24)).alloc (.cells #[.slice none 0 0] 24)).alloc (.cells #[.slice none 0 0] 24)).cell? ⟨w.heap.size, 0, none⟩ = some (.slice A n cap) := hX0.out.cell 0
  have hxl0 := hX0.out.lt
  have hI0 := hid_mk h0.top
  clear h0
  obtain ⟨E, hE⟩ : ∃ E, putE is bd = E := ⟨_, rfl⟩
  rw [hE]
  cases hr : rightI is
  · have hE4 : E = ([], ⟨#[]⟩, 1) := by rw [← hE]; unfold putE; rw [if_pos (.inl hr)]
    subst hE4
    replace hE := hid_mk hE
    replace hr := hid_mk hr
    refine calls_of_wpQ Try.func9 rfl ?_
    intro Q hQ
    simp only [Try.ntmps9, List.size_toArray, List.length_cons, List.length_nil, Nat.reduceAdd, Nat.reduceSub, Array.replicate_succ, Array.replicate_zero, List.push_toArray, List.append_toArray, List.nil_append, List.cons_append]
    go_wp2_with fail
    refine (RRight_any is A n cap _ (by omega) h1).mono ?_
    rw [hr.out]
    rintro e w1 ⟨rfl, hb1⟩
    have q1 := hid_mk (after (w := w) hb1 hb0.out).1
    have hR1 := hid_mk (hR0.out.keep hb1)
    have hN1 := hid_mk (hN0.out.keep hb1)
    have hX1 := hid_mk (hX0.out.keep hb1)
    clear hb1 h1 hX0 hb0 hR0 hN0 hx00 hxl0
    have r0_ : w1.cell? ⟨w.heap.size + 1, 0, none⟩ = some (.slice none 0 0) := hR1.out.cell 0
    have r1_ := hR1.out.frozen 0
    have rl_ := hR1.out.lt
    have n0_ : w1.cell? ⟨w.heap.size + 1 + 1, 0, none⟩ = some (.slice none 0 0) := hN1.out.cell 0
    have nl_ := hN1.out.lt
    go_wp2
    refine ends_ret hQ (v := .tuple #[.agg #[.slice none 0 0], .string ⟨#[]⟩, .int .i64 1]) (by simp [results, Try.results9, go_sem, r0_]) rfl ?_
    exact ⟨.slice none 0 0, rfl, own_nil _ _, q1.out.setCell (p := ⟨w.heap.size + 1, 0, none⟩) (by simp) _⟩
  have s2 := str_nil bd
  have s2' := s2
  rw [toList_nil] at s2'
  by_cases hz : bd.size = 0
  · have hE4 : E = ([], ⟨#[]⟩, 1) := by rw [← hE]; unfold putE; rw [if_pos (.inr hz)]
    subst hE4
    rw [decide_eq_true hz] at s2 s2'
    replace hE := hid_mk hE
    replace hr := hid_mk hr
    refine calls_of_wpQ Try.func9 rfl ?_
    intro Q hQ
    simp only [Try.ntmps9, List.size_toArray, List.length_cons, List.length_nil, Nat.reduceAdd, Nat.reduceSub, Array.replicate_succ, Array.replicate_zero, List.push_toArray, List.append_toArray, List.nil_append, List.cons_append]
    go_wp2_with fail
    refine (RRight_any is A n cap _ (by omega) h1).mono ?_
    rw [hr.out]
    rintro e w1 ⟨rfl, hb1⟩
    have q1 := hid_mk (after (w := w) hb1 hb0.out).1
    have hR1 := hid_mk (hR0.out.keep hb1)
    have hN1 := hid_mk (hN0.out.keep hb1)
    have hX1 := hid_mk (hX0.out.keep hb1)
    clear hb1 h1 hX0 hb0 hR0 hN0 hx00 hxl0
    have r0_ : w1.cell? ⟨w.heap.size + 1, 0, none⟩ = some (.slice none 0 0) := hR1.out.cell 0
    have r1_ := hR1.out.frozen 0
    have rl_ := hR1.out.lt
    have n0_ : w1.cell? ⟨w.heap.size + 1 + 1, 0, none⟩ = some (.slice none 0 0) := hN1.out.cell 0
    have nl_ := hN1.out.lt
    go_wp2
    refine ends_ret hQ (v := .tuple #[.agg #[.slice none 0 0], .string ⟨#[]⟩, .int .i64 1]) (by simp [results, Try.results9, go_sem, r0_]) rfl ?_
    exact ⟨.slice none 0 0, rfl, own_nil _ _, q1.out.setCell (p := ⟨w.heap.size + 1, 0, none⟩) (by simp) _⟩
  rw [decide_eq_false hz] at s2 s2'
  by_cases hbig : 512 < bd.size
  · have hE4 : E = ([], ⟨#[]⟩, 2) := by rw [← hE]; unfold putE; rw [if_neg (by rintro (h | h); (rw [hr] at h; cases h); exact hz h), if_pos hbig]
    subst hE4
    replace hE := hid_mk hE
    replace hr := hid_mk hr
    refine calls_of_wpQ Try.func9 rfl ?_
    intro Q hQ
    simp only [Try.ntmps9, List.size_toArray, List.length_cons, List.length_nil, Nat.reduceAdd, Nat.reduceSub, Array.replicate_succ, Array.replicate_zero, List.push_toArray, List.append_toArray, List.nil_append, List.cons_append]
    go_wp2_with fail
    refine (RRight_any is A n cap _ (by omega) h1).mono ?_
    rw [hr.out]
    rintro e w1 ⟨rfl, hb1⟩
    have q1 := hid_mk (after (w := w) hb1 hb0.out).1
    have hR1 := hid_mk (hR0.out.keep hb1)
    have hN1 := hid_mk (hN0.out.keep hb1)
    have hX1 := hid_mk (hX0.out.keep hb1)
    clear hb1 h1 hX0 hb0 hR0 hN0 hx00 hxl0
    have r0_ : w1.cell? ⟨w.heap.size + 1, 0, none⟩ = some (.slice none 0 0) := hR1.out.cell 0
    have r1_ := hR1.out.frozen 0
    have rl_ := hR1.out.lt
    have n0_ : w1.cell? ⟨w.heap.size + 1 + 1, 0, none⟩ = some (.slice none 0 0) := hN1.out.cell 0
    have nl_ := hN1.out.lt
    go_wp2
    refine ends_ret hQ (v := .tuple #[.agg #[.slice none 0 0], .string ⟨#[]⟩, .int .i64 2]) (by simp [results, Try.results9, go_sem, r0_]) rfl ?_
    exact ⟨.slice none 0 0, rfl, own_nil _ _, q1.out.setCell (p := ⟨w.heap.size + 1, 0, none⟩) (by simp) _⟩
  obtain ⟨hl4, hok, hasc⟩ := rightI_all hr
  have hn4 : n ≤ 4096 := by rw [← hlen.out]; exact hl4
  have hokI : Hid (∀ i ∈ is, 0 ≤ i.r ∧ i.r ≤ 1073741824 ∧ i.b.size ≤ 137438953472) := fun i hi => by have := itmOk_size (hok i hi); omega
  obtain ⟨D, hD⟩ : ∃ D, dB (leafT bd) = D := ⟨_, rfl⟩
  have hE2 : Hid (E = ((if atI is D < 0 then (if is.length = 4096 then ([], ⟨#[]⟩, 130) else (insF ⟨D, bd, 1⟩ is, D, 0))
    else match is[(atI is D).toNat]? with
      | none => ([], ⟨#[]⟩, 130)
      | some i => if rotB i then ([], ⟨#[]⟩, 61) else if i.r = 1073741824 then ([], ⟨#[]⟩, 130) else (withI is D (i.r + 1), D, 0)) : List Itm × ByteArray × Int)) := by
    rw [Hid, ← hE, ← hD]; unfold putE; rw [if_neg (by rintro (h | h); (rw [hr] at h; cases h); exact hz h), if_neg hbig]
    rfl
  have hal := atI_lt_ is D
  obtain ⟨at_, hat⟩ : ∃ a, atI is D = a := ⟨_, rfl⟩
  rw [hat] at hE2 hal
  rw [hlen.out] at hal hE2
  replace hE := hid_mk hE
  replace hr := hid_mk hr
  replace hasc := hid_mk hasc
  replace hD := hid_mk hD
  replace hat := hid_mk hat
  clear hl4 hok
  refine calls_of_wpQ Try.func9 rfl ?_
  intro Q hQ
  simp only [Try.ntmps9, List.size_toArray, List.length_cons, List.length_nil, Nat.reduceAdd, Nat.reduceSub, Array.replicate_succ, Array.replicate_zero, List.push_toArray, List.append_toArray, List.nil_append, List.cons_append]
  go_wp2_with fail
  refine (RRight_any is A n cap _ (by omega) h1).mono ?_
  rw [hr.out]
  rintro e w1 ⟨rfl, hb1⟩
  have q1 := hid_mk (after (w := w) hb1 hb0.out).1
  have hR1 := hid_mk (hR0.out.keep hb1)
  have hN1 := hid_mk (hN0.out.keep hb1)
  have hX1 := hid_mk (hX0.out.keep hb1)
  have h2 : Itms w1 w1.heap.size A n is := (h1.to hb1).top
  clear hb1 h1 hX0 hb0 hR0 hN0 hx00 hxl0
  go_wp2_with fail
  refine (RLeaf_any bd _ (by omega)).mono ?_
  rw [hD.out]
  rintro e w2 ⟨rfl, hb2⟩
  have q2 := hid_mk (after (w := w) hb2 q1.out).1
  have hR2 := hid_mk (hR1.out.keep hb2)
  have hX2 := hid_mk (hX1.out.keep hb2)
  have hN2 := hid_mk (hN1.out.keep hb2)
  have x0 : w2.cell? ⟨w.heap.size, 0, none⟩ = some (.slice A n cap) := hX2.out.cell 0
  have xl := hX2.out.lt
  have h3 : Itms w2 w2.heap.size A n is := (h2.to hb2).top
  clear hb2 h2 hR1 hX1 hN1 q1
  go_wp2_with fail
  refine (At_any is A n cap D _ (by omega) h3).mono ?_
  rw [hat.out]
  rintro e w3 ⟨rfl, hb3⟩
  have q3 := hid_mk (after (w := w) hb3 q2.out).1
  have hR3 := hid_mk (hR2.out.keep hb3)
  have hX3 := hid_mk (hX2.out.keep hb3)
  have hN3 := hid_mk (hN2.out.keep hb3)
  have x3 : w3.cell? ⟨w.heap.size, 0, none⟩ = some (.slice A n cap) := hX3.out.cell 0
  have xl3 := hX3.out.lt
  have h4 : Itms w3 w3.heap.size A n is := (h3.to hb3).top
  clear hb3 x0 xl h3 hR2 hX2 hN2 q2
  have hw3 := q3.out.size
  by_cases hneg : at_ < 0
  · have hE3 : Hid (E = if n = 4096 then ([], ⟨#[]⟩, 130) else (insF ⟨D, bd, 1⟩ is, D, 0)) := by have h := hE2.out; rw [if_pos hneg] at h; exact h
    have hd : decide ((0 : Int) ≤ at_) = false := decide_eq_false (by omega)
    clear hE2 hal
    by_cases hfull : n = 4096
    · have hE4 : E = ([], ⟨#[]⟩, 130) := by have h := hE3.out; rw [if_pos hfull] at h; exact h
      subst hE4
      have hfz : ((n : Int) == 4096) = true := by rw [hfull]; rfl
      clear hE3
      replace hfull := hid_mk hfull
      have r0_ : w3.cell? ⟨w.heap.size + 1, 0, none⟩ = some (.slice none 0 0) := hR3.out.cell 0
      have r1_ := hR3.out.frozen 0
      have rl_ := hR3.out.lt
      have n0_ : w3.cell? ⟨w.heap.size + 1 + 1, 0, none⟩ = some (.slice none 0 0) := hN3.out.cell 0
      have nl_ := hN3.out.lt
      go_wp2
      refine ends_ret hQ (v := .tuple #[.agg #[.slice none 0 0], .string ⟨#[]⟩, .int .i64 130]) (by simp [results, Try.results9, go_sem, r0_]) rfl ?_
      exact ⟨.slice none 0 0, rfl, own_nil _ _, q3.out.setCell (p := ⟨w.heap.size + 1, 0, none⟩) (by simp) _⟩
    · have hE4 : E = (insF ⟨D, bd, 1⟩ is, D, 0) := by have h := hE3.out; rw [if_neg hfull] at h; exact h
      subst hE4
      clear hE3
      have hfz : ((n : Int) == 4096) = false := by simp; omega
      have hnlt : n < 4096 := by omega
      have hZ0 : Hid (Blk (w3.alloc (.cells #[.slice none 0 0] 24)) w3.heap.size 24 #[.slice none 0 0]) := Blk.new w3 24 #[.slice none 0 0]
      have hR4 := hid_mk (hR3.out.alloc (.cells #[.slice none 0 0] 24))
      have q4 := hid_mk (q3.out.alloc hw3 (.cells #[.slice none 0 0] 24))
      have hX4 := hid_mk (hX3.out.alloc (.cells #[.slice none 0 0] 24))
      have own0 : Hid (OwnI (w3.alloc (.cells #[.slice none 0 0] 24)) w.heap.size (.slice none 0 0) 0 []) := own_nil _ _
      have h6 : Hid (Itms (w3.alloc (.cells #[.slice none 0 0] 24)) w3.heap.size A n is) := h4.to (by go_grown)
      have x4 : (w3.alloc (.cells #[.slice none 0 0] 24)).cell? ⟨w.heap.size, 0, none⟩ = some (.slice A n cap) := hX4.out.cell 0
      have xl4 := hX4.out.lt
      have hgne : w.heap.size + 1 ≠ w3.heap.size := by have := hR3.out.lt; omega
      have hgw : w.heap.size ≤ w3.heap.size := hw3
      have hA0 : Hid (∀ W : World, Below w3.heap.size w3 W → Itms W w3.heap.size A n is) := fun W hW => h4.to hW
      go_wp2
      clear x3 xl3
      go_loopw [11, 69] (fun pv iv wr => ∃ (k m : Nat) (put : Bool) (v : Value) (outs : List Itm), pv = .bool put ∧ iv = .int .i64 k ∧ k ≤ n ∧ m ≤ k + 1 ∧ (put = false → m ≤ k) ∧ Hid (OwnI wr w.heap.size v m outs) ∧ Hid (insF ⟨D, bd, 1⟩ is = outs ++ restF put ⟨D, bd, 1⟩ (is.drop k)) ∧ Hid (Blk wr w3.heap.size 24 #[v]) ∧ Hid (Blk wr (w.heap.size + 1) 24 #[.slice none 0 0]) ∧ Hid (Below w.heap.size w wr)) (fun _ iv _ => n - (intOf iv).toNat)
      case atStart => exact ⟨0, 0, false, _, [], rfl, rfl, Nat.zero_le _, by omega, fun _ => Nat.le_refl _, own0, rfl, hZ0, hR4, q4⟩
      case round =>
        clear own0 hZ0 hR4 q4 x4 xl4 hX4 h6
        obtain ⟨k, m, put, v, outs, rfl, rfl, hk, hm1, hm2, hown, hrest, hZ, hR, hb⟩ := hrel
        obtain ⟨Ao, co, rfl, hco1, hco2⟩ := own_slice hown.out
        have hgl := hZ.out.lt
        have z0 : wr.cell? ⟨w3.heap.size, 0, none⟩ = some (.slice Ao m co) := hZ.out.cell 0
        by_cases hlt : k < n
        · obtain ⟨b, o, i, rfl, hbl, hik, c0, c1, c2⟩ := (hI0.out.to hb.out).at_ hlt
          have hdr : is.drop k = i :: is.drop (k + 1) := by
            have hl : k < is.length := by rw [hlen.out]; exact hlt
            rw [List.drop_eq_getElem_cons hl]
            rw [List.getElem?_eq_getElem hl] at hik
            injection hik with hik
            rw [hik]
          rw [hdr] at hrest
          obtain ⟨K, Bd, rf⟩ := i
          dsimp only at c0 c1 c2
          have hqb : Hid (Below w.heap.size w (wr.alloc (.cells #[.string K, .string Bd, .int .i64 rf] 35))) := hb.out.alloc hb.out.size _
          have hZb : Hid (Blk (wr.alloc (.cells #[.string K, .string Bd, .int .i64 rf] 35)) w3.heap.size 24 #[.slice Ao m co]) := hZ.out.alloc _
          have hRb : Hid (Blk (wr.alloc (.cells #[.string K, .string Bd, .int .i64 rf] 35)) (w.heap.size + 1) 24 #[.slice none 0 0]) := hR.out.alloc _
          have k0 : (0 : Int) ≤ k := by omega
          have k1 : (k : Int) < n := by omega
          have hgt := le_eq K D
          replace hik := hid_mk hik
          replace hdr := hid_mk hdr
          cases put
          · obtain ⟨c, hc⟩ : ∃ c, sL D K = c := ⟨_, rfl⟩
            rw [hc] at hgt
            have hmk := hm2 rfl
            clear hm2
            cases c
            · have hrest2 : Hid (insF ⟨D, bd, 1⟩ is = (outs ++ [⟨K, Bd, rf⟩]) ++ restF false ⟨D, bd, 1⟩ (is.drop (k + 1))) := by
                rw [Hid, hrest.out]
                show outs ++ insF _ _ = _
                rw [insF, if_neg (by show ¬ sL D K = true; rw [hc]; simp), List.append_assoc]; rfl
              replace hc := hid_mk hc
              have hnew : Itms ((wr.alloc (.cells #[.string K, .string Bd, .int .i64 rf] 35)).alloc (.cells #[.string K, .string Bd, .int .i64 rf] 35)) w.heap.size (some ⟨wr.heap.size + 1, 0, none⟩) 1 [⟨K, Bd, rf⟩] := (by (have h1 := reads_new (wr.alloc (.cells #[.string K, .string Bd, .int .i64 rf] 35)) #[.string K, .string Bd, .int .i64 rf] 35 1 3 w.heap.size rfl; rw [World.size_alloc] at h1; exact h1))
              have hbA : Hid (Below w.heap.size w ((wr.alloc (.cells #[.string K, .string Bd, .int .i64 rf] 35)).alloc (.cells #[.string K, .string Bd, .int .i64 rf] 35))) := hqb.out.alloc hqb.out.size _
              have hZA : Hid (Blk ((wr.alloc (.cells #[.string K, .string Bd, .int .i64 rf] 35)).alloc (.cells #[.string K, .string Bd, .int .i64 rf] 35)) w3.heap.size 24 #[.slice Ao m co]) := hZb.out.alloc _
              have hRA : Hid (Blk ((wr.alloc (.cells #[.string K, .string Bd, .int .i64 rf] 35)).alloc (.cells #[.string K, .string Bd, .int .i64 rf] 35)) (w.heap.size + 1) 24 #[.slice none 0 0]) := hRb.out.alloc _
              have ownA : ((wr.alloc (.cells #[.string K, .string Bd, .int .i64 rf] 35)).alloc (.cells #[.string K, .string Bd, .int .i64 rf] 35)).ownsRow w.heap.size 35 3 (.slice Ao m co) (m) (itmsL outs) := World.ownsRow.alloc (World.ownsRow.alloc hown.out _) _
              have hsz := hqb.out.size
              go_wp2_with (at_builtin; refine wpList_append_any _ rfl (.tmp 90) (.tmp 92) _ rfl w.heap.size 35 i0 _ 3 40 Try.underlying22 hi0 hz0 hz1 hz2 rfl (by omega) _ (m) _ rfl ownA w.heap.size (some ⟨wr.heap.size + 1, 0, none⟩) 1 1 (itmsL [⟨K, Bd, rf⟩]) rfl hnew (itm_one [⟨K, Bd, rf⟩]) (by simp only [maxLen]; omega) (by omega) hbA.out.size ?_; intro v1 w9 hown2 hg2 hat2; obtain ⟨A1, c1, rfl, hd1, hd2⟩ := own_slice hown2; have hZ2 := hid_mk (Blk.grown hZA.out hg2 (own_ne ownA hZA.out)); have hR2 := hid_mk (Blk.grown hRA.out hg2 (own_ne ownA hRA.out)); have q2 := hid_mk (hbA.out.grown hg2 hbA.out.size (fun k hk => (World.ownsRow.lt ownA k hk).1)); have e0 : w9.cell? ⟨w3.heap.size, 0, none⟩ = some (.slice Ao m co) := hZ2.out.cell 0; have e1 := hZ2.out.frozen 0; have e2 := hZ2.out.lt;  clear hnew hg2 hat2 ownA)
              have own3 : Hid (OwnI (w9.setCell ⟨w3.heap.size, 0, none⟩ (.slice A1 (m + 1) c1)) w.heap.size (.slice A1 (m + 1) c1) (m + 1) (outs ++ [⟨K, Bd, rf⟩])) := (by (unfold OwnI Hid; rw [itmsL_app]; exact own_far hown2 hZ2.out (by decide) 0 _))
              have hZ3 : Hid (Blk (w9.setCell ⟨w3.heap.size, 0, none⟩ (.slice A1 (m + 1) c1)) w3.heap.size 24 #[.slice A1 (m + 1) c1]) := hZ2.out.set_ 0 _
              have hR3 : Hid (Blk (w9.setCell ⟨w3.heap.size, 0, none⟩ (.slice A1 (m + 1) c1)) (w.heap.size + 1) 24 #[.slice none 0 0]) := hR2.out.far (by simp; omega) _
              have q3 : Hid (Below w.heap.size w (w9.setCell ⟨w3.heap.size, 0, none⟩ (.slice A1 (m + 1) c1))) := q2.out.setCell (p := ⟨w3.heap.size, 0, none⟩) (by simp; omega) _
              go_roundw
              case rel => exact ⟨k + 1, m + 1, false, _, outs ++ [⟨K, Bd, rf⟩], rfl, by go_num, by omega, by omega, fun _ => by omega, own3, hrest2, hZ3, hR3, q3⟩
              case measure => simp [intOf]; omega
            · have hrest2 : Hid (insF ⟨D, bd, 1⟩ is = (outs ++ [⟨D, bd, 1⟩] ++ [⟨K, Bd, rf⟩]) ++ restF true ⟨D, bd, 1⟩ (is.drop (k + 1))) := by
                rw [Hid, hrest.out]
                show outs ++ insF _ _ = _
                rw [insF, if_pos (by show sL D K = true; exact hc), List.append_assoc, List.append_assoc]; rfl
              replace hc := hid_mk hc
              have hNb : Hid (Blk (wr.alloc (.cells #[.string K, .string Bd, .int .i64 rf] 35)) wr.heap.size 35 #[.string K, .string Bd, .int .i64 rf]) := Blk.new wr 35 #[.string K, .string Bd, .int .i64 rf]
              have hwro : ∀ j, (Value.slice Ao m co).ownBlock = some j → j < wr.heap.size := fun j hj => (World.ownsRow.lt hown.out j hj).2
              replace hwro := hid_mk hwro
              have hnew : Itms ((wr.alloc (.cells #[.string K, .string Bd, .int .i64 rf] 35)).alloc (.cells #[.string D, .string bd, .int .i64 1] 35)) w.heap.size (some ⟨wr.heap.size + 1, 0, none⟩) 1 [⟨D, bd, 1⟩] := (by (have h1 := reads_new (wr.alloc (.cells #[.string K, .string Bd, .int .i64 rf] 35)) #[.string D, .string bd, .int .i64 1] 35 1 3 w.heap.size rfl; rw [World.size_alloc] at h1; exact h1))
              have hbA : Hid (Below w.heap.size w ((wr.alloc (.cells #[.string K, .string Bd, .int .i64 rf] 35)).alloc (.cells #[.string D, .string bd, .int .i64 1] 35))) := hqb.out.alloc hqb.out.size _
              have hZA : Hid (Blk ((wr.alloc (.cells #[.string K, .string Bd, .int .i64 rf] 35)).alloc (.cells #[.string D, .string bd, .int .i64 1] 35)) w3.heap.size 24 #[.slice Ao m co]) := hZb.out.alloc _
              have hRA : Hid (Blk ((wr.alloc (.cells #[.string K, .string Bd, .int .i64 rf] 35)).alloc (.cells #[.string D, .string bd, .int .i64 1] 35)) (w.heap.size + 1) 24 #[.slice none 0 0]) := hRb.out.alloc _
              have ownA : ((wr.alloc (.cells #[.string K, .string Bd, .int .i64 rf] 35)).alloc (.cells #[.string D, .string bd, .int .i64 1] 35)).ownsRow w.heap.size 35 3 (.slice Ao m co) (m) (itmsL outs) := World.ownsRow.alloc (World.ownsRow.alloc hown.out _) _
              have hsz := hqb.out.size
              go_wp2_with (first | (at_builtin; refine wpList_append_any _ rfl (.tmp 82) (.tmp 86) _ rfl w.heap.size 35 i0 _ 3 40 Try.underlying22 hi0 hz0 hz1 hz2 rfl (by omega) _ (m) _ rfl ownA w.heap.size (some ⟨wr.heap.size + 1, 0, none⟩) 1 1 (itmsL [⟨D, bd, 1⟩]) rfl hnew (itm_one [⟨D, bd, 1⟩]) (by simp only [maxLen]; omega) (by omega) hbA.out.size ?_; intro v1 w9 hown2 hg2 hat2; obtain ⟨A1, c1, rfl, hd1, hd2⟩ := own_slice hown2; have hZ2 := hid_mk (Blk.grown hZA.out hg2 (own_ne ownA hZA.out)); have hR2 := hid_mk (Blk.grown hRA.out hg2 (own_ne ownA hRA.out)); have q2 := hid_mk (hbA.out.grown hg2 hbA.out.size (fun k hk => (World.ownsRow.lt ownA k hk).1)); have e0 : w9.cell? ⟨w3.heap.size, 0, none⟩ = some (.slice Ao m co) := hZ2.out.cell 0; have e1 := hZ2.out.frozen 0; have e2 := hZ2.out.lt; have hN2 := hid_mk (Blk.grown (hNb.out.alloc (.cells #[.string D, .string bd, .int .i64 1] 35)) hg2 (fun e => by have h9 := hwro.out _ e.symm; omega)); have own3 : Hid (OwnI (w9.setCell ⟨w3.heap.size, 0, none⟩ (.slice A1 (m + 1) c1)) w.heap.size (.slice A1 (m + 1) c1) (m + 1) (outs ++ [⟨D, bd, 1⟩])) := (by (unfold OwnI Hid; rw [itmsL_app]; exact own_far hown2 hZ2.out (by decide) 0 _)); have hZ3 : Hid (Blk (w9.setCell ⟨w3.heap.size, 0, none⟩ (.slice A1 (m + 1) c1)) w3.heap.size 24 #[.slice A1 (m + 1) c1]) := hZ2.out.set_ 0 _; have hR3 : Hid (Blk (w9.setCell ⟨w3.heap.size, 0, none⟩ (.slice A1 (m + 1) c1)) (w.heap.size + 1) 24 #[.slice none 0 0]) := hR2.out.far (by simp; omega) _; have q3 : Hid (Below w.heap.size w (w9.setCell ⟨w3.heap.size, 0, none⟩ (.slice A1 (m + 1) c1))) := q2.out.setCell (p := ⟨w3.heap.size, 0, none⟩) (by simp; omega) _; have hN3 : Hid (Blk (w9.setCell ⟨w3.heap.size, 0, none⟩ (.slice A1 (m + 1) c1)) wr.heap.size 35 #[.string K, .string Bd, .int .i64 rf]) := hN2.out.far (by simp; omega) _; have b0 : (w9.setCell ⟨w3.heap.size, 0, none⟩ (.slice A1 (m + 1) c1)).cell? ⟨w3.heap.size, 0, none⟩ = some (.slice A1 (m + 1) c1) := hZ3.out.cell 0; have bl := hZ3.out.lt; have n0 : (w9.setCell ⟨w3.heap.size, 0, none⟩ (.slice A1 (m + 1) c1)).cell? ⟨wr.heap.size, 0, none⟩ = some (.string K) := hN3.out.cell 0; have n1 : (w9.setCell ⟨w3.heap.size, 0, none⟩ (.slice A1 (m + 1) c1)).cell? ⟨wr.heap.size, 1, none⟩ = some (.string Bd) := hN3.out.cell 1; have n2 : (w9.setCell ⟨w3.heap.size, 0, none⟩ (.slice A1 (m + 1) c1)).cell? ⟨wr.heap.size, 2, none⟩ = some (.int .i64 rf) := hN3.out.cell 2; have nl := hN3.out.lt; have hnewB : Itms ((w9.setCell ⟨w3.heap.size, 0, none⟩ (.slice A1 (m + 1) c1)).alloc (.cells #[.string K, .string Bd, .int .i64 rf] 35)) w.heap.size (some ⟨w9.heap.size, 0, none⟩) 1 [⟨K, Bd, rf⟩] := (by (have h1 := reads_new (w9.setCell ⟨w3.heap.size, 0, none⟩ (.slice A1 (m + 1) c1)) #[.string K, .string Bd, .int .i64 rf] 35 1 3 w.heap.size rfl; rw [World.size_setCell] at h1; exact h1)); have hbAB : Hid (Below w.heap.size w ((w9.setCell ⟨w3.heap.size, 0, none⟩ (.slice A1 (m + 1) c1)).alloc (.cells #[.string K, .string Bd, .int .i64 rf] 35))) := q3.out.alloc q3.out.size _; have hZAB : Hid (Blk ((w9.setCell ⟨w3.heap.size, 0, none⟩ (.slice A1 (m + 1) c1)).alloc (.cells #[.string K, .string Bd, .int .i64 rf] 35)) w3.heap.size 24 #[.slice A1 (m + 1) c1]) := hZ3.out.alloc _; have hRAB : Hid (Blk ((w9.setCell ⟨w3.heap.size, 0, none⟩ (.slice A1 (m + 1) c1)).alloc (.cells #[.string K, .string Bd, .int .i64 rf] 35)) (w.heap.size + 1) 24 #[.slice none 0 0]) := hR3.out.alloc _; have ownAB : ((w9.setCell ⟨w3.heap.size, 0, none⟩ (.slice A1 (m + 1) c1)).alloc (.cells #[.string K, .string Bd, .int .i64 rf] 35)).ownsRow w.heap.size 35 3 (.slice A1 (m + 1) c1) ((m + 1)) (itmsL (outs ++ [⟨D, bd, 1⟩])) := World.ownsRow.alloc own3.out _; have hszB := q3.out.size;  clear hnew hg2 hat2 ownA) | (at_builtin; refine wpList_append_any _ rfl (.tmp 90) (.tmp 92) _ rfl w.heap.size 35 i0 _ 3 40 Try.underlying22 hi0 hz0 hz1 hz2 rfl (by omega) _ ((m + 1)) _ rfl ownAB w.heap.size (some ⟨w9.heap.size, 0, none⟩) 1 1 (itmsL [⟨K, Bd, rf⟩]) rfl hnewB (itm_one [⟨K, Bd, rf⟩]) (by simp only [maxLen]; omega) (by omega) hbAB.out.size ?_; intro v1 w9B hown2B hg2B hat2; obtain ⟨A1B, c1B, rfl, hd1B, hd2B⟩ := own_slice hown2B; have hZ2B := hid_mk (Blk.grown hZAB.out hg2B (own_ne ownAB hZAB.out)); have hR2B := hid_mk (Blk.grown hRAB.out hg2B (own_ne ownAB hRAB.out)); have q2B := hid_mk (hbAB.out.grown hg2B hbAB.out.size (fun k hk => (World.ownsRow.lt ownAB k hk).1)); have e0B : w9B.cell? ⟨w3.heap.size, 0, none⟩ = some (.slice A1 (m + 1) c1) := hZ2B.out.cell 0; have e1B := hZ2B.out.frozen 0; have e2B := hZ2B.out.lt;  clear hnewB hg2B hat2 ownAB))
              have own3B : Hid (OwnI (w9B.setCell ⟨w3.heap.size, 0, none⟩ (.slice A1B ((m + 1) + 1) c1B)) w.heap.size (.slice A1B ((m + 1) + 1) c1B) ((m + 1) + 1) ((outs ++ [⟨D, bd, 1⟩]) ++ [⟨K, Bd, rf⟩])) := (by (unfold OwnI Hid; rw [itmsL_app]; exact own_far hown2B hZ2B.out (by decide) 0 _))
              have hZ3B : Hid (Blk (w9B.setCell ⟨w3.heap.size, 0, none⟩ (.slice A1B ((m + 1) + 1) c1B)) w3.heap.size 24 #[.slice A1B ((m + 1) + 1) c1B]) := hZ2B.out.set_ 0 _
              have hR3B : Hid (Blk (w9B.setCell ⟨w3.heap.size, 0, none⟩ (.slice A1B ((m + 1) + 1) c1B)) (w.heap.size + 1) 24 #[.slice none 0 0]) := hR2B.out.far (by simp; omega) _
              have q3B : Hid (Below w.heap.size w (w9B.setCell ⟨w3.heap.size, 0, none⟩ (.slice A1B ((m + 1) + 1) c1B))) := q2B.out.setCell (p := ⟨w3.heap.size, 0, none⟩) (by simp; omega) _
              go_roundw
              case rel => exact ⟨k + 1, m + 1 + 1, true, _, outs ++ [⟨D, bd, 1⟩] ++ [⟨K, Bd, rf⟩], rfl, by go_num, by omega, by omega, by simp, own3B, hrest2, hZ3B, hR3B, q3B⟩
              case measure => simp [intOf]; omega
          · have hrest2 : Hid (insF ⟨D, bd, 1⟩ is = (outs ++ [⟨K, Bd, rf⟩]) ++ restF true ⟨D, bd, 1⟩ (is.drop (k + 1))) := by
              rw [Hid, hrest.out]
              show outs ++ (_ :: _) = _
              rw [List.append_assoc]; rfl
            clear hm2
            have hnew : Itms ((wr.alloc (.cells #[.string K, .string Bd, .int .i64 rf] 35)).alloc (.cells #[.string K, .string Bd, .int .i64 rf] 35)) w.heap.size (some ⟨wr.heap.size + 1, 0, none⟩) 1 [⟨K, Bd, rf⟩] := (by (have h1 := reads_new (wr.alloc (.cells #[.string K, .string Bd, .int .i64 rf] 35)) #[.string K, .string Bd, .int .i64 rf] 35 1 3 w.heap.size rfl; rw [World.size_alloc] at h1; exact h1))
            have hbA : Hid (Below w.heap.size w ((wr.alloc (.cells #[.string K, .string Bd, .int .i64 rf] 35)).alloc (.cells #[.string K, .string Bd, .int .i64 rf] 35))) := hqb.out.alloc hqb.out.size _
            have hZA : Hid (Blk ((wr.alloc (.cells #[.string K, .string Bd, .int .i64 rf] 35)).alloc (.cells #[.string K, .string Bd, .int .i64 rf] 35)) w3.heap.size 24 #[.slice Ao m co]) := hZb.out.alloc _
            have hRA : Hid (Blk ((wr.alloc (.cells #[.string K, .string Bd, .int .i64 rf] 35)).alloc (.cells #[.string K, .string Bd, .int .i64 rf] 35)) (w.heap.size + 1) 24 #[.slice none 0 0]) := hRb.out.alloc _
            have ownA : ((wr.alloc (.cells #[.string K, .string Bd, .int .i64 rf] 35)).alloc (.cells #[.string K, .string Bd, .int .i64 rf] 35)).ownsRow w.heap.size 35 3 (.slice Ao m co) (m) (itmsL outs) := World.ownsRow.alloc (World.ownsRow.alloc hown.out _) _
            have hsz := hqb.out.size
            go_wp2_with (at_builtin; refine wpList_append_any _ rfl (.tmp 90) (.tmp 92) _ rfl w.heap.size 35 i0 _ 3 40 Try.underlying22 hi0 hz0 hz1 hz2 rfl (by omega) _ (m) _ rfl ownA w.heap.size (some ⟨wr.heap.size + 1, 0, none⟩) 1 1 (itmsL [⟨K, Bd, rf⟩]) rfl hnew (itm_one [⟨K, Bd, rf⟩]) (by simp only [maxLen]; omega) (by omega) hbA.out.size ?_; intro v1 w9 hown2 hg2 hat2; obtain ⟨A1, c1, rfl, hd1, hd2⟩ := own_slice hown2; have hZ2 := hid_mk (Blk.grown hZA.out hg2 (own_ne ownA hZA.out)); have hR2 := hid_mk (Blk.grown hRA.out hg2 (own_ne ownA hRA.out)); have q2 := hid_mk (hbA.out.grown hg2 hbA.out.size (fun k hk => (World.ownsRow.lt ownA k hk).1)); have e0 : w9.cell? ⟨w3.heap.size, 0, none⟩ = some (.slice Ao m co) := hZ2.out.cell 0; have e1 := hZ2.out.frozen 0; have e2 := hZ2.out.lt;  clear hnew hg2 hat2 ownA)
            have own3 : Hid (OwnI (w9.setCell ⟨w3.heap.size, 0, none⟩ (.slice A1 (m + 1) c1)) w.heap.size (.slice A1 (m + 1) c1) (m + 1) (outs ++ [⟨K, Bd, rf⟩])) := (by (unfold OwnI Hid; rw [itmsL_app]; exact own_far hown2 hZ2.out (by decide) 0 _))
            have hZ3 : Hid (Blk (w9.setCell ⟨w3.heap.size, 0, none⟩ (.slice A1 (m + 1) c1)) w3.heap.size 24 #[.slice A1 (m + 1) c1]) := hZ2.out.set_ 0 _
            have hR3 : Hid (Blk (w9.setCell ⟨w3.heap.size, 0, none⟩ (.slice A1 (m + 1) c1)) (w.heap.size + 1) 24 #[.slice none 0 0]) := hR2.out.far (by simp; omega) _
            have q3 : Hid (Below w.heap.size w (w9.setCell ⟨w3.heap.size, 0, none⟩ (.slice A1 (m + 1) c1))) := q2.out.setCell (p := ⟨w3.heap.size, 0, none⟩) (by simp; omega) _
            go_roundw
            case rel => exact ⟨k + 1, m + 1, true, _, outs ++ [⟨K, Bd, rf⟩], rfl, by go_num, by omega, by omega, by simp, own3, hrest2, hZ3, hR3, q3⟩
            case measure => simp [intOf]; omega
        · obtain rfl : n = k := by omega
          have hdn : is.drop n = [] := List.drop_eq_nil_of_le (by rw [hlen.out]; exact Nat.le_refl _)
          rw [hdn] at hrest
          replace hdn := hid_mk hdn
          cases put
          · have hres : Hid (insF ⟨D, bd, 1⟩ is = outs ++ [⟨D, bd, 1⟩]) := hrest.out
            have hnew : Itms (wr.alloc (.cells #[.string D, .string bd, .int .i64 1] 35)) w.heap.size (some ⟨wr.heap.size, 0, none⟩) 1 [⟨D, bd, 1⟩] := (by (have h1 := reads_new wr #[.string D, .string bd, .int .i64 1] 35 1 3 w.heap.size rfl; skip; exact h1))
            have hbA : Hid (Below w.heap.size w (wr.alloc (.cells #[.string D, .string bd, .int .i64 1] 35))) := hb.out.alloc hb.out.size _
            have hZA : Hid (Blk (wr.alloc (.cells #[.string D, .string bd, .int .i64 1] 35)) w3.heap.size 24 #[.slice Ao m co]) := hZ.out.alloc _
            have hRA : Hid (Blk (wr.alloc (.cells #[.string D, .string bd, .int .i64 1] 35)) (w.heap.size + 1) 24 #[.slice none 0 0]) := hR.out.alloc _
            have ownA : (wr.alloc (.cells #[.string D, .string bd, .int .i64 1] 35)).ownsRow w.heap.size 35 3 (.slice Ao m co) (m) (itmsL outs) := World.ownsRow.alloc hown.out _
            have hsz := hb.out.size
            go_wp2_with (at_builtin; refine wpList_append_any _ rfl (.tmp 99) (.tmp 103) _ rfl w.heap.size 35 i0 _ 3 40 Try.underlying22 hi0 hz0 hz1 hz2 rfl (by omega) _ (m) _ rfl ownA w.heap.size (some ⟨wr.heap.size, 0, none⟩) 1 1 (itmsL [⟨D, bd, 1⟩]) rfl hnew (itm_one [⟨D, bd, 1⟩]) (by simp only [maxLen]; omega) (by omega) hbA.out.size ?_; intro v1 w9 hown2 hg2 hat2; obtain ⟨A1, c1, rfl, hd1, hd2⟩ := own_slice hown2; have hZ2 := hid_mk (Blk.grown hZA.out hg2 (own_ne ownA hZA.out)); have hR2 := hid_mk (Blk.grown hRA.out hg2 (own_ne ownA hRA.out)); have q2 := hid_mk (hbA.out.grown hg2 hbA.out.size (fun k hk => (World.ownsRow.lt ownA k hk).1)); have e0 : w9.cell? ⟨w3.heap.size, 0, none⟩ = some (.slice Ao m co) := hZ2.out.cell 0; have e1 := hZ2.out.frozen 0; have e2 := hZ2.out.lt; have own3 : Hid (OwnI (w9.setCell ⟨w3.heap.size, 0, none⟩ (.slice A1 (m + 1) c1)) w.heap.size (.slice A1 (m + 1) c1) (m + 1) (outs ++ [⟨D, bd, 1⟩])) := (by (unfold OwnI Hid; rw [itmsL_app]; exact own_far hown2 hZ2.out (by decide) 0 _)); have hZ3 : Hid (Blk (w9.setCell ⟨w3.heap.size, 0, none⟩ (.slice A1 (m + 1) c1)) w3.heap.size 24 #[.slice A1 (m + 1) c1]) := hZ2.out.set_ 0 _; have hR3 : Hid (Blk (w9.setCell ⟨w3.heap.size, 0, none⟩ (.slice A1 (m + 1) c1)) (w.heap.size + 1) 24 #[.slice none 0 0]) := hR2.out.far (by simp; omega) _; have q3 : Hid (Below w.heap.size w (w9.setCell ⟨w3.heap.size, 0, none⟩ (.slice A1 (m + 1) c1))) := q2.out.setCell (p := ⟨w3.heap.size, 0, none⟩) (by simp; omega) _; have t0 : (w9.setCell ⟨w3.heap.size, 0, none⟩ (.slice A1 (m + 1) c1)).cell? ⟨w3.heap.size, 0, none⟩ = some (.slice A1 (m + 1) c1) := hZ3.out.cell 0; have tl := hZ3.out.lt; have u0 : (w9.setCell ⟨w3.heap.size, 0, none⟩ (.slice A1 (m + 1) c1)).cell? ⟨w.heap.size + 1, 0, none⟩ = some (.slice none 0 0) := hR3.out.cell 0; have u1 := hR3.out.frozen 0; have ul := hR3.out.lt; have ownF := hid_mk (own_far own3.out hR3.out (by decide) 0 (.slice A1 (m + 1) c1));  clear hnew hg2 hat2 ownA)
            have hml : Hid ((insF ⟨D, bd, 1⟩ is).length = m + 1) := by rw [Hid, hres.out]; exact OwnI.len own3.out
            refine ends_ret hQ (v := .tuple #[.agg #[.slice A1 (m + 1) c1], .string D, .int .i64 0]) (by simp [results, Try.results9, go_sem, u0]) rfl ?_
            refine ⟨.slice A1 (m + 1) c1, rfl, ?_, q3.out.setCell (p := ⟨w.heap.size + 1, 0, none⟩) (by simp) _⟩
            dsimp only
            rw [hml.out, hres.out]
            exact ownF.out
          · have hres : Hid (insF ⟨D, bd, 1⟩ is = outs) := by rw [Hid, hrest.out]; show outs ++ [] = outs; rw [List.append_nil]
            have t0 : wr.cell? ⟨w3.heap.size, 0, none⟩ = some (.slice Ao (m) co) := hZ.out.cell 0
            have tl := hZ.out.lt
            have u0 : wr.cell? ⟨w.heap.size + 1, 0, none⟩ = some (.slice none 0 0) := hR.out.cell 0
            have u1 := hR.out.frozen 0
            have ul := hR.out.lt
            have ownF := hid_mk (own_far hown.out hR.out (by decide) 0 (.slice Ao (m) co))
            have hml : Hid ((insF ⟨D, bd, 1⟩ is).length = m) := by rw [Hid, hres.out]; exact OwnI.len hown.out
            go_wp2
            refine ends_ret hQ (v := .tuple #[.agg #[.slice Ao m co], .string D, .int .i64 0]) (by simp [results, Try.results9, go_sem, u0]) rfl ?_
            refine ⟨.slice Ao m co, rfl, ?_, hb.out.setCell (p := ⟨w.heap.size + 1, 0, none⟩) (by simp) _⟩
            dsimp only
            rw [hml.out, hres.out]
            exact ownF.out
  · obtain ⟨p, rfl⟩ := Int.eq_ofNat_of_zero_le (show 0 ≤ at_ by omega)
    have hpn : p < n := by omega
    obtain ⟨b, o, i, rfl, hbl, hik, c0, c1, c2⟩ := h4.at_ hpn
    rw [if_neg hneg, Int.toNat_natCast, hik] at hE2
    have hri := hokI.out i (List.mem_of_getElem? hik)
    have hrot := Rot_any i w3 hri.2.2
    obtain ⟨K, Bd, rf⟩ := i
    unfold itmV at hrot
    dsimp only at c0 c1 c2 hE2 hri hrot
    obtain ⟨rb, hrb⟩ : ∃ b, rotB ⟨K, Bd, rf⟩ = b := ⟨_, rfl⟩
    rw [hrb] at hrot hE2
    have hd : decide ((0 : Int) ≤ (p : Int)) = true := decide_eq_true (by omega)
    have p0 : (0 : Int) ≤ p := by omega
    have p1 : (p : Int) < n := by omega
    have c2' := hid_mk c2
    have hbl' := hid_mk hbl
    replace hik := hid_mk hik
    replace hrb := hid_mk hrb
    have hI4 := hid_mk h4
    have hbw := hAb.out b o rfl (by omega)
    have hbn1 : ¬ (b = w.heap.size + 1) := by omega
    have hbn2 : ¬ (w.heap.size + 1 = b) := by omega
    have hbn3 : w.heap.size + 1 ≠ b := by omega
    clear hal
    cases rb
    · by_cases hmax : rf = 1073741824
      · have hE4 : E = ([], ⟨#[]⟩, 130) := by have h := hE2.out; rw [if_neg (by simp), if_pos hmax] at h; exact h
        subst hE4
        clear hE2
        have hge : (rf == 1073741824) = true := by rw [hmax]; rfl
        replace hmax := hid_mk hmax
        go_wp2_with fail
        refine hrot.mono ?_
        rintro e w4 ⟨rfl, hb4⟩
        have q4 := hid_mk (after (w := w) hb4 q3.out).1
        have hR4 := hid_mk (hR3.out.keep hb4)
        have hX4 := hid_mk (hX3.out.keep hb4)
        have hN4 := hid_mk (hN3.out.keep hb4)
        have x4 : w4.cell? ⟨w.heap.size, 0, none⟩ = some (.slice (some ⟨b, o, none⟩) n cap) := hX4.out.cell 0
        have xl4 := hX4.out.lt
        have c24 : w4.cell? ⟨b, o + p * 3 + 2, none⟩ = some (.int .i64 rf) := ((bcell hb4).1 _ _ hbl'.out).trans c2'.out
        have hbl4 : Hid (b < w4.heap.size) := Nat.lt_of_lt_of_le hbl'.out hb4.size
        have hbl5 : b < w4.heap.size := hbl4.out
        have hb4' := hb4
        clear hb4 x3 xl3 c0 c1 c2 hbl h4
        clear hb4'
        have r0_ : w4.cell? ⟨w.heap.size + 1, 0, none⟩ = some (.slice none 0 0) := hR4.out.cell 0
        have r1_ := hR4.out.frozen 0
        have rl_ := hR4.out.lt
        have n0_ : w4.cell? ⟨w.heap.size + 1 + 1, 0, none⟩ = some (.slice none 0 0) := hN4.out.cell 0
        have nl_ := hN4.out.lt
        go_wp2
        refine ends_ret hQ (v := .tuple #[.agg #[.slice none 0 0], .string ⟨#[]⟩, .int .i64 130]) (by simp [results, Try.results9, go_sem, r0_]) rfl ?_
        exact ⟨.slice none 0 0, rfl, own_nil _ _, q4.out.setCell (p := ⟨w.heap.size + 1, 0, none⟩) (by simp) _⟩
      · have hE4 : E = (withI is D (rf + 1), D, 0) := by have h := hE2.out; rw [if_neg (by simp), if_neg hmax] at h; exact h
        subst hE4
        clear hE2
        have hge : (rf == 1073741824) = false := by simpa using hmax
        have hrw : IntKind.i64.wrap (rf + 1) = rf + 1 := IntWalk.i64_in _ (by omega)
        obtain ⟨wI, hwI⟩ : ∃ l, withI is D (rf + 1) = l := ⟨_, rfl⟩
        replace hwI := hid_mk hwI
        replace hmax := hid_mk hmax
        go_wp2_with fail
        refine hrot.mono ?_
        rintro e w4 ⟨rfl, hb4⟩
        have q4 := hid_mk (after (w := w) hb4 q3.out).1
        have hR4 := hid_mk (hR3.out.keep hb4)
        have hX4 := hid_mk (hX3.out.keep hb4)
        have hN4 := hid_mk (hN3.out.keep hb4)
        have x4 : w4.cell? ⟨w.heap.size, 0, none⟩ = some (.slice (some ⟨b, o, none⟩) n cap) := hX4.out.cell 0
        have xl4 := hX4.out.lt
        have c24 : w4.cell? ⟨b, o + p * 3 + 2, none⟩ = some (.int .i64 rf) := ((bcell hb4).1 _ _ hbl'.out).trans c2'.out
        have hbl4 : Hid (b < w4.heap.size) := Nat.lt_of_lt_of_le hbl'.out hb4.size
        have hbl5 : b < w4.heap.size := hbl4.out
        have hb4' := hb4
        clear hb4 x3 xl3 c0 c1 c2 hbl h4
        have hw4 := q4.out.size
        have h6 : Hid (Itms w4 w4.heap.size (some ⟨b, o, none⟩) n is) := Itms.top (hI4.out.to hb4')
        clear hb4'
        go_wp2_with fail
        go_region_held3 (fun w' => w'.cell? ⟨w.heap.size, 0, none⟩ = some (.slice (some ⟨b, o, none⟩) n cap) ∧ w'.cell? ⟨b, o + p * 3 + 2, none⟩ = some (.int .i64 rf)) ((first | (refine ⟨?_, ?_⟩ <;> assumption) | go_keep)) ((go_at_call 30; refine (with_any is (some ⟨b, o, none⟩) n cap D (rf + 1) _ hm (Itms.to h6.out (by go_grown))).mono ?_; rw [hwI.out]; rintro e w5 ⟨v5, rfl, own5, hb5⟩; have k5 := (after hb5 (show Below w4.heap.size w4 _ by go_grown)).1; have q5 := (after (w := w) k5 q4.out).1; obtain ⟨A5, c5, rfl, _, _⟩ := own_slice own5; have hR5 := hid_mk (hR4.out.keep k5); have s0 : w5.cell? ⟨w.heap.size + 1, 0, none⟩ = some (.slice none 0 0) := hR5.out.cell 0; have s1 := hR5.out.frozen 0; have sl := hR5.out.lt; have x5 : w5.cell? ⟨w.heap.size, 0, none⟩ = some (.slice (some ⟨b, o, none⟩) n cap) := (hX4.out.keep k5).cell 0; have d5 : w5.cell? ⟨b, o + p * 3 + 2, none⟩ = some (.int .i64 rf) := ((bcell k5).1 _ _ hbl4.out).trans c24; clear hb5 k5))
        go_wp2
        refine ends_ret hQ (v := .tuple #[.agg #[.slice A5 wI.length c5], .string D, .int .i64 0]) (by simp [results, Try.results9, go_sem, s0]) rfl ?_
        refine ⟨.slice A5 wI.length c5, rfl, ?_, q5.setCell (p := ⟨w.heap.size + 1, 0, none⟩) (by simp) _⟩
        dsimp only
        rw [hwI.out]
        exact OwnI.low (own_far own5 hR5.out (by decide) 0 _) hw4
    · have hE4 : E = ([], ⟨#[]⟩, 61) := by have h := hE2.out; rw [if_pos rfl] at h; exact h
      subst hE4
      clear hE2
      go_wp2_with fail
      refine hrot.mono ?_
      rintro e w4 ⟨rfl, hb4⟩
      have q4 := hid_mk (after (w := w) hb4 q3.out).1
      have hR4 := hid_mk (hR3.out.keep hb4)
      have hX4 := hid_mk (hX3.out.keep hb4)
      have hN4 := hid_mk (hN3.out.keep hb4)
      have x4 : w4.cell? ⟨w.heap.size, 0, none⟩ = some (.slice (some ⟨b, o, none⟩) n cap) := hX4.out.cell 0
      have xl4 := hX4.out.lt
      have c24 : w4.cell? ⟨b, o + p * 3 + 2, none⟩ = some (.int .i64 rf) := ((bcell hb4).1 _ _ hbl'.out).trans c2'.out
      have hbl4 : Hid (b < w4.heap.size) := Nat.lt_of_lt_of_le hbl'.out hb4.size
      have hbl5 : b < w4.heap.size := hbl4.out
      have hb4' := hb4
      clear hb4 x3 xl3 c0 c1 c2 hbl h4
      clear hb4'
      have r0_ : w4.cell? ⟨w.heap.size + 1, 0, none⟩ = some (.slice none 0 0) := hR4.out.cell 0
      have r1_ := hR4.out.frozen 0
      have rl_ := hR4.out.lt
      have n0_ : w4.cell? ⟨w.heap.size + 1 + 1, 0, none⟩ = some (.slice none 0 0) := hN4.out.cell 0
      have nl_ := hN4.out.lt
      go_wp2
      refine ends_ret hQ (v := .tuple #[.agg #[.slice none 0 0], .string ⟨#[]⟩, .int .i64 61]) (by simp [results, Try.results9, go_sem, r0_]) rfl ?_
      exact ⟨.slice none 0 0, rfl, own_nil _ _, q4.out.setCell (p := ⟨w.heap.size + 1, 0, none⟩) (by simp) _⟩
end Go.Proofs.Ytngaeencnklbdaa
